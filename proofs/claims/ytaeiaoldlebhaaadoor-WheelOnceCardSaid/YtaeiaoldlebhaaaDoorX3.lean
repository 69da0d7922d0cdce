import Derived.Test.YtaeiaoldlebhaaaDoorX2
namespace Go.Proofs.YtaeiaoldlebhaaaDoor
open Go.RowKit Go.Maps Go.Lib

/-- What the loop over the steps keeps. -/
structure OnceI (B W n : Nat) (Mm : Nat) (L0 D L : List Ent) (nw : Nat) (w0 w : World) : Prop where
  one : OneW B W nw n L [Mm] w
  split : L0 = D ++ L
  early : ∀ x ∈ D, x.due ≤ nw
  met : MapG kI Mm D.length (metF D) w
  bel : Below B w0 w
theorem keysC_ints (D : List Ent) : keysC D = (D.map Ent.key).map fun x => .int .i64 x := by
  unfold keysC
  rw [List.map_map]
  rfl
/-- What the loop over one answer keeps. -/
structure OnceJ (B W n : Nat) (Mm base c : Nat) (D L' : List Ent) (nx : Nat) (v : Value) (ne : Nat) (zs : List Int) (w0 w : World) : Prop where
  one : OneW B W nx n L' [Mm] w
  met : MapG kI Mm c (metF D) w
  row : w.ownsRow base 3 1 v ne (zs.map fun x => .int .i64 x)
  bel : Below B w0 w
theorem OnceJ.store {B W n Mm base c : Nat} {D L' : List Ent} {nx : Nat} {v : Value} {ne : Nat} {zs : List Int} {w0 w : World} (h : OnceJ B W n Mm base c D L' nx v ne zs w0 w) (hm : Mm < base) (hB : B ≤ Mm) (hc : c < 1099511627776) {x : Ent} (hx : (Lit.int .i64 x.key).wf = true) (hn : metF D x.key = none) :
    ∃ w', (Instr.mapUpdate 29 (.map (some Mm)) (.int .i64 x.key) (.bool true)).run Tryd.prog w = .ok () w' ∧ OnceJ B W n Mm base (c + 1) (D ++ [x]) L' nx v ne zs w0 w' := by
  obtain ⟨w', hrun, h1, h2⟩ := h.met.store (E := kI) Tryd.underlying29 (by unfold maxLen; omega) (k := x.key) hx (.bool true)
  rw [hn] at h1
  refine ⟨w', hrun, h.one.kept h2 (fun g e => by injection e with e; simp [← e]), MapG.ext (E := kI) h1 (fun k _ => ?_), ownsRow_kept h.row (fun g hg => ?_), h.bel.grown h2 h.one.size.1 (fun g e => by injection e with e; omega)⟩
  · exact (metF_snoc D x k).symm
  · have := h.row.lt g hg
    exact h2.block g this.2 (by simp; omega)
theorem OnceI.facts {B W n : Nat} {Mm : Nat} {L0 D L : List Ent} {nw : Nat} {w0 w : World} (h : OnceI B W n Mm L0 D L nw w0 w) (hU : Up L0) (hK : (L0.map Ent.key).Nodup) {T : Nat → Nat} (hA : Arms T n L0) (nx : Nat) :
    L = upTil nx L ++ past nx L ∧ D.length + (upTil nx L).length ≤ n ∧ ∀ k, k < (upTil nx L).length → ∃ x, (upTil nx L)[k]? = some x ∧ (∃ j, j < n ∧ x.key = (j : Int) ∧ x.due = T j) ∧ x.due ≤ nx ∧ metF (D ++ (upTil nx L).take k) x.key = none ∧ lastDue (D ++ (upTil nx L).take k) ≤ x.due := by
  have h1 := up_split h.one.size.2.2.up nx
  have h2 := h.split
  have h3 : L0 = (D ++ upTil nx L) ++ past nx L := by rw [List.append_assoc, ← h1]; exact h2
  have h4 := congrArg List.length h3
  rw [hA.len, List.length_append, List.length_append] at h4
  refine ⟨h1, by omega, fun k hk => ?_⟩
  have e1 : (upTil nx L).take (k + 1) = (upTil nx L).take k ++ [(upTil nx L)[k]] := by rw [List.take_add_one, List.getElem?_eq_getElem hk]; rfl
  have h5 : L0 = ((D ++ (upTil nx L).take k) ++ [(upTil nx L)[k]]) ++ ((upTil nx L).drop (k + 1) ++ past nx L) := by
    rw [List.append_assoc D, ← e1, List.append_assoc, ← List.append_assoc ((upTil nx L).take _), List.take_append_drop, ← List.append_assoc]
    exact h3
  have hU2 : Up ((D ++ (upTil nx L).take k) ++ [(upTil nx L)[k]]) := by rw [h5] at hU; exact (List.pairwise_append.1 hU).1
  have hK2 : (((D ++ (upTil nx L).take k) ++ [(upTil nx L)[k]]).map Ent.key).Nodup := by
    rw [h5, List.map_append] at hK
    exact (List.nodup_append.1 hK).1
  refine ⟨(upTil nx L)[k], List.getElem?_eq_getElem hk, ?_, (mem_upTil.1 (List.getElem_mem hk)).2, metF_new hK2, lastDue_le hU2⟩
  exact hA.mem _ (by rw [h5]; exact List.mem_append_left _ (List.mem_append_right _ (List.mem_cons_self)))
/-- The last answer holds all that are left. -/
theorem one_last {B W now o : Nat} {L : List Ent} {G : List Nat} {w : World} (h : OneW B W now o L G w) (hT : TabAt 0 Lib.deBruijn64tab w) (hB : 0 < B) (a : Nat) (ha : a ≤ 1099511627776) (hd : ∀ x ∈ L, x.due ≤ a) (n : Nat) (hn : L.length = n) :
    Calls Tryd.prog 18 #[.pointer (some ⟨W, 0, none⟩), .int .i64 (a : Int)] w fun e w' => ∃ p cap now', e = .returned (.slice p n cap) ∧ OneW B W now' o [] G w' ∧ Below B w w' ∧ ∀ i ∈ G, w'.heap[i]? = w.heap[i]? := by
  by_cases hb : (a : Int) < (now : Int)
  · have hL : L = [] := by
      cases L with
      | nil => rfl
      | cons x L =>
        have h1 := (h.size.2.2.due x (by simp)).1
        have h2 := hd x (by simp)
        omega
    subst hL
    cases hn
    refine (one_back h (a : Int) hb).mono ?_
    rintro e w' ⟨rfl, rfl⟩
    exact ⟨none, 0, now, rfl, h, Below.refl _ _, fun _ _ => rfl⟩
  · have h1 := one_adv h hT hB (a : Int) hb a (by omega) n (by rw [upTil_all hd]; exact hn)
    refine h1.mono ?_
    rintro e w' ⟨p, cap, rfl, h2, h3, h4, _⟩
    rw [past_none hd] at h2
    exact ⟨p, cap, a, rfl, h2, h3, h4⟩
set_option maxRecDepth 100000 in
set_option maxHeartbeats 8000000 in
theorem walk_WheelOnce (a0 : Option Addr) (len0 cap0 : Nat) (z0 : List Int) (a1 : Option Addr) (len1 cap1 : Nat) (z1 : List Int) (w : World) (w0 : RowIn .u32 w a0 len0 cap0 z0) (w1 : RowIn .u32 w a1 len1 cap1 z1) (hE : TabAt 0 Lib.deBruijn64tab w ∧ 0 < w.heap.size) :
    Calls Tryd.prog 3 #[.slice a0 len0 cap0, .slice a1 len1 cap1] w fun e w' => e = .returned (.bool true) ∧ Below w.heap.size w w' := by
  obtain ⟨hT, h0⟩ := hE
  have HT := Lib.hid hT
  have W0 := Lib.hid w0
  have W1 := Lib.hid w1
  have hl0 := w0.len
  have hl1 := w1.len
  unfold maxLen at hl0 hl1
  clear hT w0 w1
  obtain ⟨n, hn⟩ : ∃ n : Nat, min (len0 : Int) 60 = (n : Int) := ⟨(min (len0 : Int) 60).toNat, by omega⟩
  have hn60 : n ≤ 60 := by omega
  have hnl : n ≤ len0 := by omega
  obtain ⟨T, hTT⟩ : ∃ T : Nat → Nat, T = fun i => 1 + (z0.getD i 0).toNat % 1073741824 := ⟨_, rfl⟩
  have HTT := Lib.hid hTT
  clear hTT
  have hmm := @run_makeMap Tryd.prog
  go_enter Tryd.func3, Tryd.ntmps3
  go_wp2_with fail
  refine (examples16 w HT.out h0).mono ?_
  rintro e wx ⟨rfl, hb⟩
  have HB := Lib.hid hb
  clear hb
  go_wp2_with fail
  refine (one_new w.heap.size wx HB.out.size).mono ?_
  rintro e wa ⟨W, rfl, hA, hb⟩
  have HA := Lib.hid hA
  replace HB := Lib.hid (HB.out.trans (hb.mono HB.out.size))
  clear hA hb
  go_wp2_with fail
  go_loopw [8] (fun vi wr => ∃ (i : Nat) (L : List Ent), vi = .int .i64 (i : Int) ∧ i ≤ n ∧ OneW w.heap.size W 0 i L [] wr ∧ Arms T i L ∧ Below w.heap.size w wr) (fun vi _ => n - (intOf vi).toNat)
  case atStart => exact ⟨0, [], rfl, by omega, HA.out, Arms.none T, HB.out⟩
  case round =>
    obtain ⟨i, L, rfl, hi, hA, hR, hB⟩ := hrel
    clear HA HB
    have HA := Lib.hid hA
    have HB := Lib.hid hB
    have HR := Lib.hid hR
    clear hA hB hR
    by_cases hlt : i < n
    · obtain ⟨x, rfl, _, _, hc, hw⟩ := W0.out.read HB.out (show i < len0 by omega)
      obtain ⟨m, hm, hm2⟩ := u32_nat hw
      rw [hm] at hc
      have hltI : (i : Int) < (n : Int) := by omega
      have hlI : (i : Int) < (len0 : Int) := by omega
      obtain ⟨t, ht⟩ : ∃ t : Nat, 1 + m % 1073741824 = t := ⟨_, rfl⟩
      have hTi := Lib.hid (show T i = t from by rw [HTT.out]; dsimp only; rw [hm, Int.toNat_natCast]; exact ht)
      have ht2 : (1 : Int) + (m : Int) % 1073741824 = (t : Int) := by omega
      have ht3 : 0 < t ∧ t ≤ 1073741824 := by omega
      have HST := Lib.hid (HR.out.step HA.out.size.2.2)
      rw [hTi.out] at HST
      clear hw hm ht
      go_wp2_with (go_at_call 17; refine (one_arm HA.out (k := (i : Int)) (by omega) t (by omega) (by omega) (by omega)).mono ?_; rintro e wb ⟨rfl, hA, hb, _⟩; have HA2 := Lib.hid hA; have HB2 := Lib.hid (HB.out.trans hb); clear hA hb)
      go_roundw
      case rel => exact ⟨i + 1, _, by go_num, by omega, HA2.out, HST.out, HB2.out⟩
      case measure => simp [intOf]; omega
    · obtain rfl : n = i := by omega
      have HMM := Lib.hid (MapG.made kI wr)
      have HG := Lib.hid (HA.out.guard (.map #[] 0))
      have HBM := Lib.hid (HB.out.alloc HB.out.size (.map #[] 0))
      have hwh := HA.out.size.2.2
      have hkb := hwh.keys
      have hup := hwh.up
      have HK := Lib.hid hkb
      have HU := Lib.hid hup
      have HSZ := Lib.hid HA.out.size.1
      clear HA HB hwh hkb hup
      go_wp2_with fail
      obtain ⟨Mm, hMm⟩ : ∃ Mm, wr.heap.size = Mm := ⟨_, rfl⟩
      obtain ⟨wo, hwo⟩ : ∃ wo, wr.alloc (.map #[] 0) = wo := ⟨_, rfl⟩
      rw [hMm, hwo] at HMM
      rw [hMm, hwo] at HG
      rw [hwo] at HBM
      rw [hMm, hwo]
      have HML := Lib.hid (show w.heap.size ≤ Mm from hMm ▸ HSZ.out)
      clear HSZ
      clear hMm hwo
      go_loopw [12, 10, 11] (fun vi vl vn wr => ∃ (i la nw : Nat) (D L' : List Ent), vi = .int .i64 (i : Int) ∧ i ≤ 20 ∧ vl = .int .i64 (la : Int) ∧ vn = .int .i64 (nw : Int) ∧ nw ≤ i * 1073741824 ∧ la = lastDue D ∧ OnceI w.heap.size W n Mm L D L' nw w wr) (fun vi _ _ _ => 21 - (intOf vi).toNat)
      case atStart => exact ⟨0, 0, 0, [], L, rfl, by omega, rfl, rfl, by omega, rfl, ⟨HG.out, rfl, (fun x hx => by cases hx), MapG.ext (E := kI) HMM.out (fun _ _ => rfl), HBM.out⟩⟩
      case round =>
        obtain ⟨i, la, nw, D, L', rfl, hi, rfl, rfl, hnw, hla, hO⟩ := hrel
        have HO := Lib.hid hO
        have HLA := Lib.hid hla
        clear hO hla HMM HG HBM
        by_cases hlt : i < len1 ∧ i < 20
        · obtain ⟨x, rfl, _, _, hc, hw⟩ := W1.out.read HO.out.bel hlt.1
          obtain ⟨m, hm, hm2⟩ := u32_nat hw
          rw [hm] at hc
          have hltI : (i : Int) < (len1 : Int) := by omega
          have hi20 : (i : Int) < 20 := by omega
          obtain ⟨nx, hnx⟩ : ∃ nx : Nat, nw + m % 1073741824 = nx := ⟨_, rfl⟩
          have hnx2 : (nw : Int) + (m : Int) % 1073741824 = (nx : Int) := by omega
          have hnx3 : nw ≤ nx ∧ nx ≤ (i + 1) * 1073741824 := by omega
          obtain ⟨ne, hne⟩ : ∃ ne, (upTil nx L').length = ne := ⟨_, rfl⟩
          have HNE := Lib.hid hne
          have HADV := Lib.hid (one_adv HO.out.one (tab_below HT.out h0 HO.out.bel) h0 (nx : Int) (by omega) nx (by omega) ne hne)
          clear hw hm hnx hne
          go_wp2_with (go_at_call 18; refine HADV.out.mono ?_; rintro e wb ⟨p, cap, rfl, hA, hb, hg, hr⟩; have HA2 := Lib.hid hA; have HB2 := Lib.hid (HO.out.bel.trans hb); have HM2 := Lib.hid (HO.out.met.block (hg Mm (by simp))); have HR2 := Lib.hid hr; clear hA hb hg hr)
          obtain ⟨hs1, hs2, hs3⟩ := HO.out.facts HU.out HK.out HR.out nx
          obtain ⟨E, hE⟩ : ∃ E, upTil nx L' = E := ⟨_, rfl⟩
          have hrow := HR2.out
          rw [hE] at hs1 hs2 hs3 hrow
          have hne := HNE.out
          rw [hE] at hne
          rw [keysC_ints] at hrow
          have HS1 := Lib.hid hs1
          have HS2 := Lib.hid hs2
          have HS3 := Lib.hid hs3
          have HNE2 := Lib.hid hne
          obtain ⟨base, hbase⟩ : ∃ base, wr.heap.size = base := ⟨_, rfl⟩
          have hMb : Mm < base := by
            obtain ⟨S, _, _, h3⟩ := HO.out.one
            have := (h3 Mm (by simp)).2
            omega
          rw [hbase] at hrow
          have HROW := Lib.hid hrow
          clear hs1 hs2 hs3 hne hrow hE hbase HR2 HNE HADV
          go_loopw [14, 10] (fun vk vl wi => ∃ (k lb : Nat), vk = .int .i64 (k : Int) ∧ k ≤ ne ∧ vl = .int .i64 (lb : Int) ∧ lb = lastDue (D ++ E.take k) ∧ OnceJ w.heap.size W n Mm base (D.length + k) (D ++ E.take k) (past nx L') nx (.slice p ne cap) ne (E.map Ent.key) w wi) (fun vk _ _ => ne - (intOf vk).toNat)
          case atStart =>
            refine ⟨0, la, rfl, by omega, rfl, ?_, ⟨HA2.out, ?_, HROW.out, HB2.out⟩⟩
            · rw [List.take_zero, List.append_nil]; exact HLA.out
            · rw [List.take_zero, List.append_nil]; exact HM2.out
          case round =>
            obtain ⟨k, lb, rfl, hk, rfl, hlb, hJ⟩ := hrel
            have HJ := Lib.hid hJ
            have HLB := Lib.hid hlb
            clear hJ hlb HA2 HM2 HROW HB2
            by_cases hlk : k < ne
            · have hlkI : (k : Int) < (ne : Int) := by omega
              obtain ⟨g, rfl, _, _, e1⟩ := row_ints HJ.out.row (by rw [List.length_map]; exact HNE2.out) hlk
              obtain ⟨x, hx, ⟨j, hj, hxk, hxd⟩, hdx, hmx, hlx⟩ := HS3.out k (by rw [HNE2.out]; exact hlk)
              rw [List.getElem?_map, hx] at e1
              replace e1 : wr.cell? ⟨g, k, none⟩ = some (.int .i64 x.key) := e1
              rw [hxk] at e1
              obtain ⟨x0, rfl, _, _, hc, hw⟩ := W0.out.read HJ.out.bel (show j < len0 by omega)
              obtain ⟨m, hm, hm2⟩ := u32_nat hw
              rw [hm] at hc
              obtain ⟨t, ht⟩ : ∃ t : Nat, 1 + m % 1073741824 = t := ⟨_, rfl⟩
              have hTj : T j = t := by rw [HTT.out]; dsimp only; rw [hm, Int.toNat_natCast]; exact ht
              have ht2 : (1 : Int) + (m : Int) % 1073741824 = (t : Int) := by omega
              rw [hxd, hTj] at hdx hlx
              rw [← HLB.out] at hlx
              have ht3 : 0 < t ∧ t ≤ nx ∧ lb ≤ t := by omega
              have hjI : (0 : Int) ≤ (j : Int) ∧ (j : Int) < (n : Int) ∧ (j : Int) < (len0 : Int) := by omega
              have hq := HJ.out.met.look (E := kI) Tryd.underlying29 (zeroBool wr) (k := x.key) (by rw [hxk]; exact i64_wf' (by omega) (by omega))
              rw [hmx, hxk] at hq
              replace hq : (Instr.lookup 29 (.map (some Mm)) (.int .i64 (j : Int)) false).run Tryd.prog wr = .ok (.bool false) wr := hq
              have hxkw : (Lit.int .i64 x.key).wf = true := by rw [hxk]; exact i64_wf' (by omega) (by omega)
              obtain ⟨w3, hrun, hJ3⟩ := HJ.out.store hMb HML.out (by have := HS2.out; have := HNE2.out; omega) hxkw hmx
              rw [hxk] at hrun
              have HJ3 := Lib.hid hJ3
              have HX := Lib.hid hx
              have HXD := Lib.hid hxd
              have HTJ := Lib.hid hTj
              clear hw hm ht hdx hlx hmx hxkw hJ3 hx hxk hxd hTj
              have hneb : ne ≤ 60 := by have := HS2.out; have := HNE2.out; omega
              have hbz : ((t : Int) == 0) = false := by simp; omega
              go_wp2_with fail
              · go_roundw
                case rel =>
                  have htk : E.take (k + 1) = E.take k ++ [x] := by rw [List.take_add_one, HX.out]; rfl
                  refine ⟨k + 1, t, by go_num, by omega, rfl, ?_, ?_⟩
                  · rw [htk, ← List.append_assoc, lastDue_snoc, HXD.out]
                    exact HTJ.out.symm
                  · rw [htk, ← List.append_assoc, ← Nat.add_assoc]
                    exact HJ3.out
                case measure => simp [intOf]; omega
              all_goals
                exfalso
                rename_i hbad
                omega
            · obtain rfl : k = ne := by omega
              have htk : E.take k = E := by rw [List.take_of_length_le]; rw [HNE2.out]; exact Nat.le_refl _
              have hlb2 := HLB.out
              have hJ2 := HJ.out
              rw [htk] at hlb2 hJ2
              have HLB2 := Lib.hid hlb2
              have HJ2 := Lib.hid hJ2
              have HEA := Lib.hid (show ∀ y ∈ D ++ E, y.due ≤ nx from fun y hy => by
                rcases List.mem_append.1 hy with hy | hy
                · exact Nat.le_trans (HO.out.early y hy) hnx3.1
                · obtain ⟨q, hq, e⟩ := List.mem_iff_getElem.1 hy
                  obtain ⟨x, hx, _, hdx, _⟩ := HS3.out q hq
                  rw [List.getElem?_eq_getElem hq, e] at hx
                  cases hx
                  exact hdx)
              have HSP := Lib.hid (show L = (D ++ E) ++ past nx L' from by rw [List.append_assoc, ← HS1.out]; exact HO.out.split)
              have HLE := Lib.hid (show D.length + k = (D ++ E).length from by rw [List.length_append, HNE2.out])
              clear hlb2 hJ2 htk
              go_wp2_with fail
              go_roundw
              case rel => exact ⟨i + 1, lb, nx, D ++ E, past nx L', by go_num, by omega, rfl, rfl, by omega, HLB2.out, ⟨HJ2.out.one, HSP.out, HEA.out, by rw [← HLE.out]; exact HJ2.out.met, HJ2.out.bel⟩⟩
              case measure => simp [intOf]; omega
        · have HD := Lib.hid (show ∀ x ∈ L', x.due ≤ 2147483648 from fun x hx => by
            obtain ⟨j, _, _, e⟩ := HR.out.mem x (by rw [HO.out.split]; exact List.mem_append_right _ hx)
            rw [e, HTT.out]
            dsimp only
            have := Nat.mod_lt (z0.getD j 0).toNat (show 0 < 1073741824 by decide)
            omega)
          obtain ⟨nl, hnl2⟩ : ∃ nl, L'.length = nl := ⟨_, rfl⟩
          obtain ⟨nd, hnd⟩ : ∃ nd, D.length = nd := ⟨_, rfl⟩
          have hsum : nd + nl = n := by
            have h1 := congrArg List.length HO.out.split
            rw [List.length_append, HR.out.len] at h1
            omega
          have HFIN := Lib.hid (one_last HO.out.one (tab_below HT.out h0 HO.out.bel) h0 2147483648 (by decide) HD.out nl hnl2)
          have HMD := Lib.hid (show MapG kI Mm nd (metF D) wr from hnd ▸ HO.out.met)
          clear hnl2 hnd
          go_wp2_with (go_at_call 18; refine HFIN.out.mono ?_; rintro e wb ⟨p, cap, now', rfl, hA, hb, hg⟩; have HA2 := Lib.hid hA; have HB2 := Lib.hid (HO.out.bel.trans hb); have hml := fun ty => (HMD.out.block (hg Mm (by simp))).len Tryd.underlying29 ty; have HQ := Lib.hid (one_len hA 0 rfl); clear hA hb hg)
          all_goals
            refine HQ.out.mono ?_
            rintro e wc ⟨rfl, rfl⟩
            go_wp2_with fail
            go_ret
            exact ⟨rfl, HB2.out⟩
end Go.Proofs.YtaeiaoldlebhaaaDoor
