import Derived.Test.YtaeiaoldlebhaaaDoorV1
import Derived.Test.YtaeiaoldlebhaaaDoorWK
import Derived.Maps.RangeWalk
namespace Go.Proofs.YtaeiaoldlebhaaaDoor
open Go.RowKit Go.Maps Go.Lib Go.Sort

/-- Who has come in a range over the map of those who are armed. -/
structure Taken (L : List Ent) (left : Lit → Bool) (ys : List Ent) : Prop where
  keys : (ys.map Ent.key).Nodup
  sub : ∀ x ∈ ys, x ∈ L
  come : ∀ x ∈ L, left (.int .i64 x.key) = false → x ∈ ys
  rest : ∀ k, (Lit.int .i64 k).wf = true → left (.int .i64 k) = true → ∃ x ∈ L, x.key = k ∧ x ∉ ys
theorem Taken.start {L : List Ent} {left : Lit → Bool} (h : ∀ k, (Lit.int .i64 k).wf = true → left (.int .i64 k) = (armF L k).isSome) (hw : ∀ x ∈ L, (Lit.int .i64 x.key).wf = true) : Taken L left [] where
  keys := List.nodup_nil
  sub := fun x hx => by cases hx
  come := fun x hx e => by
    rw [h _ (hw x hx)] at e
    unfold armF at e
    cases hk : hasKey x.key L with
    | none => exact (hasKey_none hk x hx rfl).elim
    | some y => rw [hk] at e; cases e
  rest := fun k hk e => by
    rw [h k hk] at e
    unfold armF at e
    cases hq : hasKey k L with
    | none => rw [hq] at e; cases e
    | some y => exact ⟨y, (hasKey_some hq).1, (hasKey_some hq).2, by simp⟩
theorem Taken.step {L : List Ent} {left : Lit → Bool} {ys : List Ent} (h : Taken L left ys) (hL : (L.map Ent.key).Nodup) {x : Ent} (hx : x ∈ L) (hn : x ∉ ys) : Taken L (fun z => left z && !z.sameKey (.int .i64 x.key)) (ys ++ [x]) := by
  have hp := List.pairwise_map.1 hL
  have hne : ∀ y ∈ L, y.key = x.key → y = x := fun y hy e => by
    by_cases e2 : y = x
    · exact e2
    · exact (pair_ne hp hy hx e2 e).elim
  have hsk : ∀ k : Int, (Lit.int .i64 k).sameKey (.int .i64 x.key) = decide (k = x.key) := fun k => by
    by_cases e : k = x.key
    · subst e; simp [Lit.sameKey]
    · simp [Lit.sameKey, e]
  refine ⟨?_, fun y hy => ?_, fun y hy e => ?_, fun k hk e => ?_⟩
  · rw [List.map_append]
    refine List.nodup_append.2 ⟨h.keys, by simp, fun a ha b hb e => ?_⟩
    obtain ⟨y, hy, rfl⟩ := List.mem_map.1 ha
    simp at hb
    have := hne y (h.sub y hy) (e.trans hb)
    exact hn (this ▸ hy)
  · rcases List.mem_append.1 hy with hy | hy
    · exact h.sub y hy
    · simp at hy; subst hy; exact hx
  · rw [hsk] at e
    by_cases e2 : y.key = x.key
    · rw [hne y hy e2]; simp
    · simp [e2] at e
      exact List.mem_append_left _ (h.come y hy e)
  · rw [hsk] at e
    simp at e
    obtain ⟨y, h1, h2, h3⟩ := h.rest k hk e.1
    refine ⟨y, h1, h2, fun hm => ?_⟩
    rcases List.mem_append.1 hm with hm | hm
    · exact h3 hm
    · simp at hm; subst hm; exact e.2 h2.symm
theorem Taken.perm {L : List Ent} {left : Lit → Bool} {ys : List Ent} (h : Taken L left ys) (hL : (L.map Ent.key).Nodup) (hl : ∀ z, left z = false) : ys.Perm L := by
  refine (List.perm_ext_iff_of_nodup ?_ ?_).2 (fun x => ⟨h.sub x, fun hx => h.come x hx (hl _)⟩)
  · exact (List.pairwise_map.1 h.keys).imp (fun e e2 => e (by rw [e2]))
  · exact (List.pairwise_map.1 hL).imp (fun e e2 => e (by rw [e2]))
/-- A row in a block, sorted; it may be empty. -/
theorem sort_some {w : World} {base g cap n : Nat} {l : List Ent} (h : w.ownsRow base 109 3 (.slice (some ⟨g, 0, none⟩) n cap) n (entsC l)) (hn : l.length = n) (hgl : g < w.heap.size) (ho : (l.map Ent.ord).Nodup) (hsz : n < 1099511627776) :
    Calls Tryd.prog 47 #[.slice (some ⟨g, 0, none⟩) n cap, .func (.func 48) #[] #[]] w fun e w' => e = .returned (.tuple #[]) ∧ ∃ l', Up l' ∧ l'.Perm l ∧ w'.ownsRow base 109 3 (.slice (some ⟨g, 0, none⟩) n cap) n (entsC l') ∧ w.grownBy w' (some g) := by
  have eg : ∀ args w, (callFunc 48 args).run Tryd.prog w = .ok (.enter 48 args) w := enters_of Tryd.func48 (by kernel_rfl) rfl
  have hcon := AnyQ.slices_SortFunc Tryd.sortE 3 Tryd.isAgg109 Tryd.sizeOf109 entC (fun _ => rfl) (fun x v hv => by simp [entC] at hv; rcases hv with rfl | rfl | rfl <;> rfl) cfE swoE 48 #[] g 0 cap l.toArray w eg (cmpLays48 g 0 _ w) (row_holds h hn) hgl (by simp; omega)
  change Calls Tryd.prog 47 _ _ _ at hcon
  rw [show l.toArray.size = n from by simpa using hn] at hcon
  refine hcon.mono ?_
  rintro e w' ⟨he, d', q, os, hp, hs, rfl⟩
  have hd : d' = d'.toList.toArray := by simp
  rw [hd] at hp hs ⊢
  rw [show n = l.toArray.size from by simpa using hn.symm] at hp hs
  obtain ⟨h1, h2⟩ := sort_up ho hp hs
  obtain ⟨h3, h4⟩ := row_sorted h (h2.length_eq.trans hn) q os
  exact ⟨he, d'.toList, h1, h2, h3, h4⟩
theorem heldR_inv : ∀ v y, heldR v = some y → ∃ c : Value, v = id c := fun v _ _ => ⟨v, rfl⟩
theorem vals97 (p : Option Addr) (n c : Nat) (w : World) : Calls Tryd.prog 97 #[.slice p n c] w fun e w' => e = .returned (.func (.func 134) #[] #[.pointer (some ⟨w.heap.size, 0, none⟩)]) ∧ w' = w.alloc (.cells #[.slice p n c] 100) := by
  go_enter Tryd.func97, Tryd.ntmps97
  go_wp2
  go_ret
  exact ⟨rfl, rfl⟩
/-- The row so far, and its block. -/
structure Coll (B r : Nat) (ys : List Ent) (v : Value) (w : World) : Prop where
  own : w.ownsRow B 109 3 v ys.length (entsC ys)
  form : ∃ g cap, v = .slice (some ⟨g, 0, none⟩) ys.length cap ∧ B ≤ g ∧ g < w.heap.size ∧ g ≠ r
set_option maxRecDepth 100000 in
set_option maxHeartbeats 2000000 in
theorem inorder63 {S : Nat → Prop} {W now o : Nat} {L : List Ent} {w : World} (h : Whl S W now o L w) :
    Calls Tryd.prog 63 #[.pointer (some ⟨W, 0, none⟩)] w fun e w' => ∃ Bv g cap cur, e = .returned (.func (.func 134) #[] #[.pointer (some ⟨Bv, 0, none⟩)]) ∧ ValsHeld Bv g L.length cap cur w' ∧ cur.toList.take (L.length * 3) = entsC L ∧ L.length ≤ cap ∧ cap ≤ maxLen ∧ w.heap.size ≤ Bv ∧ w.heap.size ≤ g ∧ Below w.heap.size w w' := by
  have hlen := h.wh.len
  have hob := h.ob
  have HWH := Lib.hid h.wh
  obtain ⟨⟨M, P, sm, sv, rows, h1, h2⟩, _, _⟩ := h
  have c0 := wh_map h1.cells
  have hl := fun ty => h1.map.len Tryd.underlying99 ty
  have hMl := h1.map.lt
  obtain ⟨D, hown, hsz, hD⟩ := h1.map
  obtain ⟨n, hn⟩ : ∃ n, L.length = n := ⟨_, rfl⟩
  rw [hn] at hl hsz hown hlen ⊢
  have HN := Lib.hid hn
  have hwf : ∀ x ∈ L, (Lit.int .i64 x.key).wf = true := fun x hx => i64_wf' (HWH.out.kb x hx).1 (HWH.out.kb x hx).2
  have HT0 := Lib.hid (show Taken L (Maps.has D) [] from Taken.start (fun k hk => (hD k hk).2) hwf)
  have HD := Lib.hid (show ∀ k, (Lit.int .i64 k).wf = true → ∀ z, D.atKey (.int .i64 k) (.held z) = .held ((armF L k).getD z) from fun k hk => (hD k hk).1)
  have HCE := Lib.hid h1.cells
  clear h1 h2 hn hwf hD
  obtain ⟨i0, hi, hz0, hz1, hz2⟩ := info_parts Tryd.info109
  obtain ⟨w1, hrun1, hrow1, hg1⟩ := run_make_own (P := Tryd.prog) w w.heap.size 100 109 i0 _ 3 Tryd.underlying100 hi hz0 hz1 .i64 .i64 n (by rw [hz2]; omega) (by unfold maxLen; omega) (Nat.le_refl _)
  have HI := Lib.hid (And.intro hi (And.intro hz0 (And.intro hz1 hz2)))
  clear hi hz0 hz1 hz2
  have hb1 : Below w.heap.size w w1 := (Below.refl _ _).grown hg1 (Nat.le_refl _) (fun j e => by cases e)
  have HROW1 := Lib.hid hrow1
  have HB1 := Lib.hid hb1
  have hown1 := hown.kept hg1 (by simp)
  have c1 := (World.cell?_of_block (hb1.block W (Array.getElem?_eq_some_iff.1 HCE.out).1)).trans c0
  clear hg1 hb1 hrow1
  go_enter Tryd.func63, Tryd.ntmps63
  go_wp2_with (at_range; refine wpList_range_own _ rfl _ 99 rfl 3 109 (int_keyed int3) Tryd.underlying99 heldR M n _ rfl hown1 ?_; intro w2 hrg2 hg2 hs2)
  go_frame
  have hr2 := hs2
  obtain ⟨r, hr⟩ : ∃ r, w1.heap.size = r := ⟨_, rfl⟩
  rw [hr] at hrg2 hs2 ⊢
  have hwr : w.heap.size < r := by rw [← hr]; exact (HROW1.out.lt w.heap.size rfl).2
  go_loopw [3] (fun v wr => ∃ (left : Lit → Bool) (cnt : Nat) (ys : List Ent), wr.ranges Tryd.prog 3 heldR M r n D left cnt ∧ ys.length + cnt ≤ n ∧ Taken L left ys ∧ Coll w.heap.size r ys v wr ∧ Below w.heap.size w wr)
    (fun _ wr => wr.rangeLeft M r)
  case atStart =>
    exact ⟨_, _, [], hrg2, by rw [hsz]; simp, HT0.out, ⟨HROW1.out.kept hg2 (by simp [Value.ownBlock]), ⟨w.heap.size, n, rfl, Nat.le_refl _, by omega, by omega⟩⟩, HB1.out.grown hg2 HB1.out.size (fun j e => by cases e)⟩
  case round =>
    obtain ⟨left, cnt, ys, hrg, hle, hT, hC, hB⟩ := hrel
    have HT := Lib.hid hT
    have HCO := Lib.hid hC
    have HB := Lib.hid hB
    have HLE := Lib.hid hle
    obtain ⟨g, cap, rfl, hgB, hgl, hgr⟩ := hC.form
    clear hT hC hB hle
    go_wp2_with (at_next; refine wpList_next_ranges wr rfl (.tmp 16) rfl 3 (int_keyed int3) heldR (Value.int .i64) (id : Value → Value) (fun key kl hk => by obtain ⟨x, rfl, _⟩ := Maps.keyOf_int_inv int3 hk; exact ⟨x, rfl⟩) heldR_inv M r n D left cnt (by rfl) hrg ?_ ?_)
    · intro hc0 hl0
      have hp := HT.out.perm HWH.out.keys hl0
      have hln := hp.length_eq
      rw [HN.out] at hln
      have HS := Lib.hid (sort_some (by have := HCO.out.own; rw [hln] at this; exact this) hln hgl (((hp.map Ent.ord).nodup_iff).2 HWH.out.ords) (by omega))
      have HP := Lib.hid hp
      have HLN := Lib.hid hln
      rw [HLN.out]
      clear hp hln hrg
      go_wp2_with (first
        | (go_at_call 47; refine HS.out.mono ?_; rintro e w5 ⟨rfl, l', hu, hp', hrow, hg5⟩; have HU := Lib.hid hu; have HP2 := Lib.hid hp'; have HR5 := Lib.hid hrow; have HG5 := Lib.hid hg5; clear hu hp' hrow hg5)
        | (go_at_call 97; refine (vals97 _ _ _ _).mono ?_; rintro e w6 ⟨rfl, rfl⟩))
      go_ret
      have hb5 : Below w.heap.size w w5 := HB.out.grown HG5.out HB.out.size (fun j e => by cases e; exact hgB)
      have hL : l' = L := up_one HU.out HWH.out.up (HP2.out.trans HP.out)
      subst hL
      rcases HR5.out.2 with ⟨hv, _⟩ | ⟨g', cap', cur, hv, hgb, hg, hnc, hcm, hcs, htk⟩
      · cases hv
      · cases hv
        have hgl5 := (Array.getElem?_eq_some_iff.1 hg).1
        exact ⟨_, _, _, cur, rfl, ⟨heap_alloc_new _ _, (Below.heap_alloc _ _ _ hgl5).trans hg⟩, htk, hnc, hcm, hb5.size, hgb, hb5.alloc hb5.size _⟩
    · intro x c kl y1 y2 w3 cnt1 hkey hlk hRv hat hrg3 hlt3 hg3 hs3 hen
      obtain ⟨x', ex, rfl, hwx⟩ := Maps.keyOf_int_inv int3 hkey
      cases ex
      obtain ⟨e, heL, rfl, hne⟩ := HT.out.rest x hwx hlk
      have hav : c = entV e := by
        have h1 := hat (.held c)
        rw [HD.out _ hwx] at h1
        have h2 : armF L e.key = some (entV e) := by unfold armF; rw [hasKey_of HWH.out.keys heL rfl]; rfl
        rw [h2] at h1
        cases hRv
        have h1 : DataW.held (entV e) = DataW.held c := h1
        cases h1
        rfl
      subst hav
      have hen : (Instr.entry (.pointer (some ⟨r, 0, none⟩))).run Tryd.prog w3 = .ok (.tuple #[.int .i64 e.key, .agg #[.int .i64 e.key, .int .i64 (e.due : Int), .int .i64 (e.ord : Int)]]) w3 := hen
      have HT1 := Lib.hid (HT.out.step HWH.out.keys heL hne)
      clear hkey hlk hRv hat hwx
      obtain ⟨k, d, o2⟩ := e
      dsimp only [id, entV] at *
      have HROW3 := Lib.hid (HCO.out.own.kept hg3 (by simp [Value.ownBlock]; exact hgr))
      have HB3 := Lib.hid (HB.out.grown hg3 HB.out.size (fun j e => by cases e; omega))
      have hyn : ys.length < n := by have := HLE.out; omega
      have hs3g : g < w3.heap.size := by omega
      have hs3B : w.heap.size ≤ w3.heap.size := HB3.out.size
      have HS3 := Lib.hid hs3
      have HNEW := Lib.hid (show ((w3.alloc (.cells #[.int .i64 k, .int .i64 (d : Int), .int .i64 (o2 : Int)] 109)).alloc (.cells #[.int .i64 k, .int .i64 (d : Int), .int .i64 (o2 : Int)] 109)).heap[w3.heap.size + 1]? = some (.cells #[.int .i64 k, .int .i64 (d : Int), .int .i64 (o2 : Int)] 109 (0, 0)) from by
        have := heap_alloc_new (w3.alloc (.cells #[.int .i64 k, .int .i64 (d : Int), .int .i64 (o2 : Int)] 109)) (.cells #[.int .i64 k, .int .i64 (d : Int), .int .i64 (o2 : Int)] 109)
        rwa [World.size_alloc] at this)
      clear hs3
      go_wp2_with (at_builtin; go_must (refine wpList_append_lies _ rfl _ _ 100 (by rfl) w.heap.size 109 i0 (.agg #[.int .i64 0, .int .i64 0, .int .i64 0]) 3 24 Tryd.underlying100 HI.out.1 HI.out.2.1 HI.out.2.2.1 HI.out.2.2.2 (by rfl) (by decide) (.slice (some ⟨g, 0, none⟩) ys.length cap) ys.length (entsC ys) (by rfl) ((HROW3.out.alloc _).alloc _) ⟨w3.heap.size + 1, 0, none⟩ 1 1 [.int .i64 k, .int .i64 (d : Int), .int .i64 (o2 : Int)] (by rfl) rfl (World.news_of_block HNEW.out) (by simp [Value.oneCell']) (by decide) (by unfold maxLen; omega) (by omega) (by simp; omega) _ rfl ?_); intro g2 cap2 w5 hown5 hg5 hat5 hlt5)
      have hg2B : w.heap.size ≤ g2 ∧ g2 ≠ r := by
        rcases hat5 with e | e
        · have e : some g = some g2 := e
          cases e
          exact ⟨hgB, hgr⟩
        · rw [World.size_alloc, World.size_alloc] at e
          have := HS3.out
          have := hrg.lt
          omega
      have hb4 : Below w.heap.size w ((w3.alloc (.cells #[.int .i64 k, .int .i64 (d : Int), .int .i64 (o2 : Int)] 109)).alloc (.cells #[.int .i64 k, .int .i64 (d : Int), .int .i64 (o2 : Int)] 109)) := (HB3.out.alloc HB3.out.size _).alloc (by have := HB3.out.size; simp; omega) _
      have hrg5 := ((hrg3.alloc (.cells #[.int .i64 k, .int .i64 (d : Int), .int .i64 (o2 : Int)] 109)).alloc (.cells #[.int .i64 k, .int .i64 (d : Int), .int .i64 (o2 : Int)] 109)).kept hg5 (by simp [Value.ownBlock]; omega) (by simp [Value.ownBlock]; exact fun e => hgr e.symm)
      refine ⟨⟨_, cnt1, ys ++ [⟨k, d, o2⟩], hrg5, by have := HLE.out; simp; omega, HT1.out, ⟨?_, ⟨g2, cap2, by simp, hg2B.1, hlt5, hg2B.2⟩⟩, hb4.grown hg5 hb4.size (fun j e => by cases e; exact hgB)⟩, by rw [hrg5.left_eq, hrg.left_eq]; exact hlt3⟩
      rw [List.length_append, entsC_append]
      exact hown5
end Go.Proofs.YtaeiaoldlebhaaaDoor
