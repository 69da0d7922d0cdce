/- Texts of this proof, put together: K1 K2 P1 P2 P3 P4. -/
import Derived.Test.YtpbknbnhljjjcaaDoorMU
import Derived.Test.YtpbknbnhljjjcaaDoorMB
import Derived.Test.YtpbknbnhljjjcaaDoorShelf
import Derived.Test.YtpbknbnhljjjcaaDoorMD
import Derived.WalkMore
import Derived.Test.YtpbknbnhljjjcaaDoorMC
import Derived.Maps.RangeWalk
namespace Go.Proofs.YtpbknbnhljjjcaaDoor
open Go.RowKit Go.Maps Go.Lib

def curO (g n at_ : Nat) (cnt : Int) : Obj := .cells #[.slice (some ⟨g, 0, none⟩) 1 1, .int .i64 (n : Int), .int .i64 (at_ : Int), .int .i64 cnt] 167 (0, 0)
/-- A cursor of n numbers at X, at most 64: its word of bits. -/
structure CurIn (X g n at_ : Nat) (cnt : Int) (x : Nat) (used : Nat → Bool) (w : World) : Prop where
  box : w.heap[X]? = some (curO g n at_ cnt)
  row : w.heap[g]? = some (.cells #[.int .u64 (x : Int)] 111 (0, 0))
  ne : X ≠ g
  hn : 1 ≤ n ∧ n ≤ 64
  hat : at_ < n
  hx : x < 18446744073709551616
  bits : ∀ i, i < 64 → (x.testBit i = true ↔ i < n ∧ used i = true)
theorem CurIn.cells {X g n at_ x : Nat} {cnt : Int} {used : Nat → Bool} {w : World} (h : CurIn X g n at_ cnt x used w) : (w.cell? ⟨X, 0, none⟩ = some (.slice (some ⟨g, 0, none⟩) 1 1) ∧ w.cell? ⟨X, 1, none⟩ = some (.int .i64 (n : Int)) ∧ w.cell? ⟨X, 2, none⟩ = some (.int .i64 (at_ : Int)) ∧ w.cell? ⟨X, 3, none⟩ = some (.int .i64 cnt) ∧ w.cell? ⟨g, 0, none⟩ = some (.int .u64 (x : Int))) ∧ (∀ k, w.frozen? ⟨X, k, none⟩ = false) ∧ w.frozen? ⟨g, 0, none⟩ = false := by
  have h1 := h.box
  unfold curO at h1
  have h2 := h.row
  refine ⟨⟨?_, ?_, ?_, ?_, ?_⟩, fun k => ?_, ?_⟩ <;> simp [World.cell?, World.frozen?, h1, h2]
theorem CurIn.kept {X g n at_ x : Nat} {cnt : Int} {used : Nat → Bool} {w w' : World} (h : CurIn X g n at_ cnt x used w) (h1 : w'.heap[X]? = w.heap[X]?) (h2 : w'.heap[g]? = w.heap[g]?) : CurIn X g n at_ cnt x used w' :=
  ⟨h1.trans h.box, h2.trans h.row, h.ne, h.hn, h.hat, h.hx, h.bits⟩
/-- What the search finds. -/
def FromSays (used : Nat → Bool) (a t f : Nat) : Prop := (f < t → a ≤ f ∧ used f = false ∧ ∀ j, a ≤ j → j < f → used j = true) ∧ (¬ f < t → ∀ j, a ≤ j → j < t → used j = true)
set_option maxRecDepth 100000 in
set_option maxHeartbeats 2000000 in
theorem from_ok {X g n at_ x : Nat} {cnt : Int} {used : Nat → Bool} {w : World} (h : CurIn X g n at_ cnt x used w) (a t : Nat) (ha : a < 64) (ht : t ≤ n) :
    ∃ f : Nat, FromSays used a t f ∧ ∀ W, CurIn X g n at_ cnt x used W → TabAt 0 Lib.deBruijn64tab W → Calls Tryd.prog 78 #[.pointer (some ⟨X, 0, none⟩), .int .i64 (a : Int), .int .i64 (t : Int)] W fun e w' => e = .returned (.tuple #[.int .i64 (f : Int), .bool (decide (f < t))]) ∧ w' = W := by
  have HH := Lib.hid h
  have hq : (a : Int) / 64 = 0 := by omega
  have hr : (a : Int) % 64 = (a : Int) := by omega
  have ht64 : (t : Int) ≤ 64 := by have := h.hn.2; omega
  by_cases h0 : t = 0
  · subst h0
    clear h
    refine ⟨0, ⟨fun h => by omega, fun _ j h1 h2 => by omega⟩, fun W hW hT => ?_⟩
    have HT := Lib.hid hT
    obtain ⟨⟨c0, c1, c2, c3, d0⟩, _⟩ := hW.cells
    clear hW hT
    go_enter Tryd.func78, Tryd.ntmps78
    go_wp2_with fail
    refine wp_scope_straight ?_
    go_wp2_with fail
    refine wp_label ?_
    go_wp2_with fail
    go_loop [8, 9] (fun vf vi => vf = .int .i64 0 ∧ vi = .int .i64 0) (fun _ _ => 0)
    case atStart => exact ⟨rfl, rfl⟩
    case round =>
      obtain ⟨rfl, rfl⟩ := hrel
      go_wp2_with fail
      refine bodyPost_ret (by simp [results, Tryd.results78, go_sem]) rfl ⟨rfl, rfl⟩
  · have ht0 : (0 : Int) < (t : Int) := by omega
    have ht1 : ¬ (64 : Int) < (t : Int) := by omega
    have ht1' : ¬ 64 < t := by omega
    have ht0' : 0 < t := by omega
    obtain ⟨y, hy1, hy2, hy3⟩ := not_bits x HH.out.hx
    obtain ⟨o, ho1, ho2, ho3⟩ := ones_from a ha
    obtain ⟨hz1, hz2⟩ := and_u64 y o hy2 ho2
    obtain ⟨z, hz⟩ : ∃ z, y &&& o = z := ⟨_, rfl⟩
    have hzb : ∀ i, i < 64 → (z.testBit i = true ↔ x.testBit i = false ∧ a ≤ i) := fun i hi => by
      rw [← hz, Nat.testBit_and, Bool.and_eq_true, hy3 i hi, ho3 i hi]
    rw [hz] at hz1 hz2
    have HZB := Lib.hid hzb
    have hs : IntKind.u64.signed = false := rfl
    have hx1 := xor_max x HH.out.hx
    rw [← hy1] at hx1
    have ho1' := ho1.symm
    have HZ2 := Lib.hid hz2
    clear h hz hy1 hy2 hy3 ho1 ho2 ho3 hz2 hzb
    by_cases hz0 : z = 0
    · subst hz0
      have HA := Lib.hid (show ∀ j, a ≤ j → j < t → used j = true from fun j h1 h2 => by
        have hj : j < 64 := by omega
        have h3 : ¬ x.testBit j = false := fun e => by
          have := (HZB.out j hj).2 ⟨e, h1⟩
          simp at this
        have h4 : x.testBit j = true := by simpa using h3
        exact ((HH.out.bits j hj).1 h4).2)
      refine ⟨t, ⟨fun h => by omega, fun _ j h1 h2 => HA.out j h1 h2⟩, fun W hW hT => ?_⟩
      have HT := Lib.hid hT
      obtain ⟨⟨c0, c1, c2, c3, d0⟩, _⟩ := hW.cells
      clear hW hT
      go_enter Tryd.func78, Tryd.ntmps78
      go_wp2_with fail
      refine wp_scope_straight ?_
      go_wp2_with fail
      refine wp_label ?_
      go_wp2_with fail
      go_loop [8, 9] (fun vf vi => vf = .int .i64 (t : Int) ∧ (vi = .int .i64 0 ∨ vi = .int .i64 1)) (fun _ vi => 1 - (intOf vi).toNat)
      case atStart => exact ⟨rfl, .inl rfl⟩
      case round =>
        obtain ⟨rfl, hrel⟩ := hrel
        rcases hrel with rfl | rfl
        · go_wp2_with fail
          go_round
          case rel => exact ⟨rfl, .inr rfl⟩
          case measure => simp [intOf]
        · go_wp2_with fail
          refine bodyPost_ret (by simp [results, Tryd.results78, go_sem]; rfl) rfl ⟨by simp, rfl⟩
    · have hne : ((z : Int) != 0) = true := by rw [bne_iff_ne]; omega
      obtain ⟨k1, k2, k3⟩ := ctz_bits z hz0 HZ2.out
      obtain ⟨s, hsz⟩ : ∃ s, Lib.ctz 64 z = s := ⟨_, rfl⟩
      rw [hsz] at k1 k2 k3
      have HSZ := Lib.hid hsz
      have HF := Lib.hid (show FromSays used a t s from by
        have h5 := (HZB.out s k1).1 k2
        have hmid : ∀ j, a ≤ j → j < s → x.testBit j = true := fun j h1 h2 => by
          have h6 := k3 j h2
          have h7 : ¬ x.testBit j = false := fun e => by
            have := (HZB.out j (by omega)).2 ⟨e, h1⟩
            rw [h6] at this
            cases this
          simpa using h7
        have hin : ∀ j, a ≤ j → j < s → used j = true := fun j h1 h2 => ((HH.out.bits j (by omega)).1 (hmid j h1 h2)).2
        refine ⟨fun h => ⟨h5.2, ?_, fun j h1 h2 => hin j h1 h2⟩, fun h j h1 h2 => hin j h1 (by omega)⟩
        have h8 : ¬ (s < n ∧ used s = true) := fun e => by
          have := (HH.out.bits s k1).2 e
          rw [h5.1] at this
          cases this
        have h9 : ¬ used s = true := fun e => h8 ⟨by omega, e⟩
        simpa using h9)
      clear k2 k3 hsz
      refine ⟨s, HF.out, fun W hW hT => ?_⟩
      have HT := Lib.hid hT
      obtain ⟨⟨c0, c1, c2, c3, d0⟩, _⟩ := hW.cells
      clear hW hT
      go_enter Tryd.func78, Tryd.ntmps78
      go_wp2_with fail
      refine wp_scope_straight ?_
      go_wp2_with fail
      refine wp_label ?_
      go_wp2_with fail
      go_loop [8, 9] (fun vf vi => vf = .int .i64 (t : Int) ∧ vi = .int .i64 0) (fun _ vi => 0)
      case atStart => exact ⟨rfl, rfl⟩
      case round =>
        obtain ⟨rfl, rfl⟩ := hrel
        go_wp2_with (go_at_call 85; refine (Any7.bits_TrailingZeros64 Tryd.tz29 z HZ2.out _ (fun _ => HT.out)).mono ?_; rintro e wx ⟨rfl, rfl⟩; rw [HSZ.out])
        rw [Exit.noGoto_ret]
        refine bodyPost_ret (by simp [results, Tryd.results78, go_sem]; rfl) rfl ⟨by simp, rfl⟩
end Go.Proofs.YtpbknbnhljjjcaaDoor

namespace Go.Proofs.YtpbknbnhljjjcaaDoor
open Go.RowKit Go.Maps Go.Lib

theorem info_u64 : (Tryd.prog.info? 111).map (fun i => (i.zero, i.size, i.bytes)) = some (some (.int .u64 0), 1, 8) := by kernel_rfl
set_option maxRecDepth 100000 in
set_option maxHeartbeats 1000000 in
theorem cursor_new (n : Nat) (h1 : 1 ≤ n) (h2 : n ≤ 64) (w : World) :
    Calls Tryd.prog 58 #[.int .i64 (n : Int)] w fun e w' => e = .returned (.tuple #[.pointer (some ⟨w.heap.size + 1, 0, none⟩), .int .i64 0]) ∧ CurIn (w.heap.size + 1) w.heap.size n 0 0 0 (fun _ => false) w' ∧ Below w.heap.size w w' ∧ w'.heap.size = w.heap.size + 2 := by
  obtain ⟨i0, hi, hz0, hz1, hz2⟩ := info_parts' info_u64
  have hmk0 : ∀ W, (Instr.makeSlice 165 (.int .i64 1) (.int .i64 1)).run Tryd.prog W = .ok (.slice (some ⟨W.heap.size, 0, none⟩) 1 1) (W.alloc (.cells #[.int .u64 0] 111)) := fun W => by
    have hmk := run_makeSlice (P := Tryd.prog) W 165 111 i0 (.int .u64 0) Tryd.underlying165 hi hz0 .i64 .i64 1 1 (by omega) (by omega) (by rw [hz1]; omega) (by rw [hz2]; omega) (by omega)
    have e1 : madeCells (Value.int .u64 0).cells 1 = #[.int .u64 0] := by kernel_rfl
    have e2 : ((1 : Int).toNat) = 1 := rfl
    rw [hz1, e2, Nat.one_mul, e1] at hmk
    exact hmk
  have g1 : ¬ (n : Int) < 1 := by omega
  have g2 : ¬ 65536 < (n : Int) := by omega
  have g3 : ((n : Int) + 64 - 1) / 64 = 1 := by omega
  have HX := Lib.hid (And.intro h1 h2)
  clear hi hz0 hz1 hz2 h1 h2
  go_enter Tryd.func58, Tryd.ntmps58
  go_wp2_with fail
  go_ret2
  have q1 := heap_alloc_new w (.cells #[.int .u64 0] 111)
  have q2 := heap_alloc_new (w.alloc (.cells #[.int .u64 0] 111)) (.cells #[.slice (some ⟨w.heap.size, 0, none⟩) 1 1, .int .i64 (n : Int), .int .i64 0, .int .i64 0] 167)
  rw [World.size_alloc] at q2
  refine ⟨rfl, ⟨q2, (Below.heap_alloc _ _ _ (by simp)).trans q1, by omega, ⟨HX.out.1, HX.out.2⟩, by have := HX.out.1; omega, by omega, fun i hi => by simp⟩, ((Below.refl _ w).alloc (Nat.le_refl _) _).alloc (by simp) _, by simp⟩
def updB (f : Nat → Bool) (k : Nat) (v : Bool) (i : Nat) : Bool := if i = k then v else f i
theorem CurIn.take {X g n at_ x k at' : Nat} {cnt cnt' : Int} {used : Nat → Bool} {w : World} (h : CurIn X g n at_ cnt x used w) (hk : k < n) (hat : at' < n) {x' : Nat} (hx : x' < 18446744073709551616) (hb : ∀ i, i < 64 → (x'.testBit i = true ↔ x.testBit i = true ∨ i = k)) :
    CurIn X g n at' cnt' x' (updB used k true) (((w.setCell ⟨g, 0, none⟩ (.int .u64 (x' : Int))).setCell ⟨X, 3, none⟩ (.int .i64 cnt')).setCell ⟨X, 2, none⟩ (.int .i64 (at' : Int))) := by
  have hne := h.ne
  have hne' : g ≠ X := fun e => hne e.symm
  refine ⟨?_, ?_, h.ne, h.hn, hat, hx, fun i hi => ?_⟩
  · have h1 := h.box
    unfold curO at h1 ⊢
    simp [World.setCell, Array.getElem?_modify, h1, hne']
  · have h2 := h.row
    simp [World.setCell, Array.getElem?_modify, h2, hne]
  · rw [hb i hi, h.bits i hi]
    unfold updB
    by_cases e : i = k
    · subst e; simp [hk]
    · simp [e]
set_option maxRecDepth 100000 in
set_option maxHeartbeats 2000000 in
theorem take_direct {X g n at_ x : Nat} {cnt : Int} {used : Nat → Bool} {w : World} (h : CurIn X g n at_ cnt x used w) (hT : TabAt 0 Lib.deBruijn64tab w) (hfree : ∃ i, at_ ≤ i ∧ i < n ∧ used i = false) :
    ∃ k : Nat, (at_ ≤ k ∧ k < n ∧ used k = false ∧ ∀ j, at_ ≤ j → j < k → used j = true) ∧ Calls Tryd.prog 61 #[.pointer (some ⟨X, 0, none⟩)] w fun e w' => e = .returned (.tuple #[.int .i64 (k : Int), .bool true]) ∧ (∃ cnt' x', CurIn X g n ((k + 1) % n) cnt' x' (updB used k true) w') ∧ Only (fun b => b = X ∨ b = g) w w' := by
  obtain ⟨k, hsays, hfrom⟩ := from_ok h at_ n (by have := h.hat; have := h.hn; omega) (Nat.le_refl _)
  have hkn : k < n := by
    apply Classical.byContradiction
    intro hc
    obtain ⟨i, h1, h2, h3⟩ := hfree
    have := hsays.2 hc i h1 h2
    rw [h3] at this
    cases this
  refine ⟨k, ⟨(hsays.1 hkn).1, hkn, (hsays.1 hkn).2⟩, ?_⟩
  have hdk : decide (k < n) = true := decide_eq_true hkn
  rw [hdk] at hfrom
  have HF := Lib.hid (fun m => hfrom (w.drewN m) (h.kept rfl rfl) hT)
  obtain ⟨⟨c0, c1, c2, c3, d0⟩, fX, fg⟩ := h.cells
  have f2 := fX 2
  have f3 := fX 3
  have HH := Lib.hid h
  have hne := h.ne
  have hne' : g ≠ X := fun e => hne e.symm
  have hn0 : 1 ≤ n ∧ n ≤ 64 := h.hn
  have hk64 : k < 64 := by omega
  have hq : (k : Int) / 64 = 0 := by omega
  have hr : (k : Int) % 64 = (k : Int) := by omega
  obtain ⟨x', hx1, hx2, hx3⟩ := or_bit x k h.hx hk64
  have hw2 := wrap_two k hk64
  have HX := Lib.hid (And.intro hx2 hx3)
  have HFULL := Lib.hid hx3
  have hw0 : IntKind.i64.wrap 0 = 0 := rfl
  have hr2 : (k : Int).tmod 64 = (k : Int) := by rw [Int.tmod_eq_emod_of_nonneg (by omega)]; exact hr
  have hk0 : 0 ≤ (k : Int) := by omega
  have hm : ((k : Int) + 1) % (n : Int) = (((k + 1) % n : Nat) : Int) := by rw [Int.natCast_emod, Int.natCast_add]; rfl
  have HML := Lib.hid (show (k + 1) % n < n from Nat.mod_lt _ (by omega))
  obtain ⟨a', ha'⟩ : ∃ a', (k + 1) % n = a' := ⟨_, rfl⟩
  rw [ha'] at hm HML ⊢
  have hn1 : ¬ (n : Int) = 0 := by omega
  have hn2 : ((n : Int) == 0) = false := by simp; omega
  clear h hT hfree fX hfrom hsays hdk hx2 hx3 ha'
  go_enter Tryd.func61, Tryd.ntmps61
  go_upto_region 1 with fail
  go_quiet ((go_at_call 78; exact Calls.quiet_of_same (HF.out _)))
  go_upto_region 6 with fail
  refine reg_tail 13 (by kernel_rfl) (by kernel_rfl) ?_
  simp only [List.take_succ_cons, List.take_zero, List.drop_succ_cons, List.drop_zero]
  repeat still_step
  refine wpStill_nil ?_
  go_wp2_with fail
  go_ret2
  have e2 : ((2 : Int) ^ k) = ((2 ^ k : Nat) : Int) := by norm_cast
  rw [e2, hx1]
  have h0 := HH.out.kept (w' := w.drewN (nq + 1)) rfl rfl
  refine ⟨rfl, ⟨_, x', h0.take (by omega) HML.out HX.out.1 (HFULL.out)⟩, ?_⟩
  refine ⟨rfl, rfl, rfl, by simp [World.setCell], fun i hi hn => ?_⟩
  rw [Below.heap_setCell _ _ _ _ (fun e => hn (.inl e)), Below.heap_setCell _ _ _ _ (fun e => hn (.inl e)), Below.heap_setCell _ _ _ _ (fun e => hn (.inr e))]
  rfl
end Go.Proofs.YtpbknbnhljjjcaaDoor

namespace Go.Proofs.YtpbknbnhljjjcaaDoor
open Go.RowKit Go.Maps Go.Lib

/-- Where a part lies. -/
structure PB where
  q : Nat
  x : Nat
  g : Nat
  ml : Nat
  mg : Nat
def PB.has (b : PB) (i : Nat) : Prop := i = b.q ∨ i = b.x ∨ i = b.g ∨ i = b.ml ∨ i = b.mg
/-- A part's ghost: which numbers are used, where the search goes on, who is lent, up to when one rests. -/
structure PartG where
  used : Nat → Bool
  at_ : Nat
  lent : Nat → Bool
  given : Nat → Option Nat
def part0 : PartG := ⟨fun _ => false, 0, fun _ => false, fun _ => none⟩
def lentV (f : Nat → Bool) (i : Int) : Option Value := if 0 ≤ i ∧ f i.toNat = true then some (.agg #[]) else none
def givenV (f : Nat → Option Nat) (i : Int) : Option Value := if 0 ≤ i then (f i.toNat).map (fun u => .int .i64 (u : Int)) else none
structure PartIn (many N : Nat) (pb : PB) (pt : PartG) (w : World) : Prop where
  box : w.heap[pb.q]? = some (.cells #[.pointer (some ⟨pb.x, 0, none⟩), .map (some pb.ml), .map (some pb.mg)] 140 (0, 0))
  cur : ∃ cnt x, CurIn pb.x pb.g many pt.at_ cnt x pt.used w
  lent : ∃ n, MapG kI pb.ml n (lentV pt.lent) w ∧ n ≤ N
  given : ∃ n, MapG kI pb.mg n (givenV pt.given) w ∧ n ≤ N
  ne : (pb.q ≠ pb.x ∧ pb.q ≠ pb.g ∧ pb.q ≠ pb.ml ∧ pb.q ≠ pb.mg) ∧ (pb.x ≠ pb.ml ∧ pb.x ≠ pb.mg ∧ pb.g ≠ pb.ml ∧ pb.g ≠ pb.mg) ∧ pb.ml ≠ pb.mg
theorem PartIn.kept {many N : Nat} {pb : PB} {pt : PartG} {w w' : World} (h : PartIn many N pb pt w) (hb : ∀ i, pb.has i → w'.heap[i]? = w.heap[i]?) : PartIn many N pb pt w' := by
  obtain ⟨cnt, x, h2⟩ := h.cur
  obtain ⟨n1, h3, h4⟩ := h.lent
  obtain ⟨n2, h5, h6⟩ := h.given
  exact ⟨(hb _ (.inl rfl)).trans h.box, ⟨cnt, x, h2.kept (hb _ (.inr (.inl rfl))) (hb _ (.inr (.inr (.inl rfl))))⟩, ⟨n1, h3.block (hb _ (.inr (.inr (.inr (.inl rfl))))), h4⟩, ⟨n2, h5.block (hb _ (.inr (.inr (.inr (.inr rfl))))), h6⟩, h.ne⟩
theorem PartIn.mono {many N N' : Nat} {pb : PB} {pt : PartG} {w : World} (h : PartIn many N pb pt w) (hN : N ≤ N') : PartIn many N' pb pt w := by
  obtain ⟨n1, h3, h4⟩ := h.lent
  obtain ⟨n2, h5, h6⟩ := h.given
  exact ⟨h.box, h.cur, ⟨n1, h3, by omega⟩, ⟨n2, h5, by omega⟩, h.ne⟩
def layV (lay : PKey → Option PB) (k : PKey) : Option Value := (lay k).map (fun b => .pointer (some ⟨b.q, 0, none⟩))
structure PortsIn (S : Nat → Prop) (P MP low many rest N : Nat) (lay : PKey → Option PB) (parts : PKey → PartG) (w : World) : Prop where
  box : w.heap[P]? = some (.cells #[.int .i64 (low : Int), .int .i64 (many : Int), .int .i64 (rest : Int), .map (some MP)] 107 (0, 0))
  map : ∃ n, MapG kP MP n (layV lay) w ∧ n ≤ N
  part : ∀ k pb, lay k = some pb → PartIn many N pb (parts k) w
  apart : ∀ k k' pb pb', lay k = some pb → lay k' = some pb' → k ≠ k' → ∀ i, pb.has i → ¬ pb'.has i
  mem : S P ∧ S MP ∧ ∀ k pb, lay k = some pb → ∀ i, pb.has i → S i
  off : P ≠ MP ∧ ∀ k pb, lay k = some pb → ¬ pb.has P ∧ ¬ pb.has MP
  lows : ∀ i, S i → i < w.heap.size
def updL {α : Type} (f : PKey → α) (k : PKey) (v : α) (j : PKey) : α := if j = k then v else f j
section
variable {S : Nat → Prop} {P MP low many rest N : Nat} {lay : PKey → Option PB} {parts : PKey → PartG} {w w' : World}
theorem PortsIn.kept (h : PortsIn S P MP low many rest N lay parts w) (hb : ∀ b, S b → w'.heap[b]? = w.heap[b]?) (hs : w.heap.size ≤ w'.heap.size) : PortsIn S P MP low many rest N lay parts w' := by
  obtain ⟨n, h1, h2⟩ := h.map
  exact ⟨(hb P h.mem.1).trans h.box, ⟨n, h1.block (hb MP h.mem.2.1), h2⟩, fun k pb hk => (h.part k pb hk).kept (fun i hi => hb i (h.mem.2.2 k pb hk i hi)), h.apart, h.mem, h.off, fun i hi => Nat.lt_of_lt_of_le (h.lows i hi) hs⟩
theorem PortsIn.below (h : PortsIn S P MP low many rest N lay parts w) (hb : Below w.heap.size w w') : PortsIn S P MP low many rest N lay parts w' := h.kept (fun b hS => hb.block b (h.lows b hS)) hb.size
theorem PortsIn.cells (h : PortsIn S P MP low many rest N lay parts w) : w.cell? ⟨P, 0, none⟩ = some (.int .i64 (low : Int)) ∧ w.cell? ⟨P, 1, none⟩ = some (.int .i64 (many : Int)) ∧ w.cell? ⟨P, 2, none⟩ = some (.int .i64 (rest : Int)) ∧ w.cell? ⟨P, 3, none⟩ = some (.map (some MP)) := by
  have h1 := h.box
  refine ⟨?_, ?_, ?_, ?_⟩ <;> simp [World.cell?, h1]
/-- A part more. -/
theorem PortsIn.more (h : PortsIn S P MP low many rest N lay parts w) {K : PKey} {pb : PB} {pt : PartG} {n' N' : Nat} (hNN : N ≤ N') (hK : lay K = none) (hm : MapG kP MP n' (layV (updL lay K (some pb))) w') (hn : n' ≤ N') (hb : ∀ b, S b → b ≠ MP → w'.heap[b]? = w.heap[b]?) (hp : PartIn many N' pb pt w') (hnew : ∀ i, pb.has i → w.heap.size ≤ i ∧ i < w'.heap.size) (hs : w.heap.size ≤ w'.heap.size) :
    PortsIn (fun i => S i ∨ pb.has i) P MP low many rest N' (updL lay K (some pb)) (updL parts K pt) w' := by
  have hl := h.lows
  have hold : ∀ k pb', updL lay K (some pb) k = some pb' → (k = K ∧ pb' = pb) ∨ (k ≠ K ∧ lay k = some pb') := fun k pb' e => by
    unfold updL at e
    split at e
    · rename_i e2; exact .inl ⟨e2, (Option.some.inj e).symm⟩
    · rename_i e2; exact .inr ⟨e2, e⟩
  refine ⟨(hb P h.mem.1 h.off.1).trans h.box, ⟨n', hm, hn⟩, fun k pb' e => ?_, fun k k' p1 p2 e1 e2 hne i hi hj => ?_, ⟨.inl h.mem.1, .inl h.mem.2.1, fun k pb' e i hi => ?_⟩, ⟨h.off.1, fun k pb' e => ?_⟩, fun i hi => ?_⟩
  · rcases hold k pb' e with ⟨rfl, rfl⟩ | ⟨hne, e2⟩
    · unfold updL
      rw [if_pos rfl]
      exact hp
    · unfold updL
      rw [if_neg hne]
      exact ((h.part k pb' e2).mono hNN).kept (fun i hi => hb i (h.mem.2.2 k pb' e2 i hi) (fun e3 => (h.off.2 k pb' e2).2 (e3 ▸ hi)))
  · rcases hold k p1 e1 with ⟨rfl, rfl⟩ | ⟨h1, e3⟩
    · rcases hold k' p2 e2 with ⟨rfl, rfl⟩ | ⟨h2, e4⟩
      · exact hne rfl
      · have := (hnew i hi).1; have := hl i (h.mem.2.2 k' p2 e4 i hj); omega
    · rcases hold k' p2 e2 with ⟨rfl, rfl⟩ | ⟨h2, e4⟩
      · have := (hnew i hj).1; have := hl i (h.mem.2.2 k p1 e3 i hi); omega
      · exact h.apart k k' p1 p2 e3 e4 hne i hi hj
  · rcases hold k pb' e with ⟨rfl, rfl⟩ | ⟨hne, e2⟩
    · exact .inr hi
    · exact .inl (h.mem.2.2 k pb' e2 i hi)
  · rcases hold k pb' e with ⟨rfl, rfl⟩ | ⟨hne, e2⟩
    · exact ⟨fun hi => by have := (hnew P hi).1; have := hl P h.mem.1; omega, fun hi => by have := (hnew MP hi).1; have := hl MP h.mem.2.1; omega⟩
    · exact h.off.2 k pb' e2
  · rcases hi with e | e
    · have := hl i e; omega
    · exact (hnew i e).2
set_option maxHeartbeats 400000 in
theorem clock_ok (t : Nat) (ht : t ≤ 1099511627776) (w : World) : Calls Tryd.prog 59 #[.int .i64 (t : Int)] w fun e w' => e = .returned (.int .i64 (t : Int)) ∧ w' = w := by
  have h1 : max (t : Int) 0 = (t : Int) := by omega
  have h2 : min (t : Int) 1099511627776 = (t : Int) := by omega
  have h3 : ¬ (1099511627776 : Int) < (t : Int) := by omega
  have h4 : ¬ (t : Int) < 0 := by omega
  go_enter Tryd.func59, Tryd.ntmps59
  go_wp2_with fail
  go_ret
  exact ⟨rfl, rfl⟩
def PortsBad (low many rest : Int) : Prop := low < 1 ∨ many < 1 ∨ 65536 < low ∨ 65536 - low < many ∨ rest < 0 ∨ 1099511627776 < rest
set_option maxRecDepth 100000 in
set_option maxHeartbeats 1000000 in
theorem ports_bad (low many rest : Int) (hb : (-9223372036854775808 ≤ low ∧ low ≤ 9223372036854775807)) (h : PortsBad low many rest) (w : World) : Calls Tryd.prog 28 #[.int .i64 low, .int .i64 many, .int .i64 rest] w fun e w' => e = .returned (.tuple #[.pointer none, .int .i64 1]) ∧ w' = w := by
  have H := Lib.hid h
  clear h
  by_cases h1 : low < 1
  · go_enter Tryd.func28, Tryd.ntmps28
    go_wp2_with fail
    go_ret2
    exact ⟨rfl, rfl⟩
  by_cases h2 : many < 1
  · go_enter Tryd.func28, Tryd.ntmps28
    go_wp2_with fail
    go_ret2
    exact ⟨rfl, rfl⟩
  by_cases h3 : 65536 < low
  · go_enter Tryd.func28, Tryd.ntmps28
    go_wp2_with fail
    go_ret2
    exact ⟨rfl, rfl⟩
  by_cases h4 : 65536 - low < many
  · go_enter Tryd.func28, Tryd.ntmps28
    go_wp2_with fail
    go_ret2
    exact ⟨rfl, rfl⟩
  by_cases h5 : rest < 0
  · go_enter Tryd.func28, Tryd.ntmps28
    go_wp2_with fail
    go_ret2
    exact ⟨rfl, rfl⟩
  by_cases h6 : 1099511627776 < rest
  · go_enter Tryd.func28, Tryd.ntmps28
    go_wp2_with fail
    go_ret2
    exact ⟨rfl, rfl⟩
  rcases H.out with e | e | e | e | e | e
  · exact (h1 e).elim
  · exact (h2 e).elim
  · exact (h3 e).elim
  · exact (h4 e).elim
  · exact (h5 e).elim
  · exact (h6 e).elim
set_option maxRecDepth 100000 in
set_option maxHeartbeats 1000000 in
theorem ports_new (low many rest : Nat) (h : ¬ PortsBad low many rest) (w : World) : Calls Tryd.prog 28 #[.int .i64 (low : Int), .int .i64 (many : Int), .int .i64 (rest : Int)] w fun e w' => e = .returned (.tuple #[.pointer (some ⟨w.heap.size + 1, 0, none⟩), .int .i64 0]) ∧ PortsIn (fun i => w.heap.size ≤ i ∧ i < w.heap.size + 2) (w.heap.size + 1) w.heap.size low many rest 0 (fun _ => none) (fun _ => part0) w' ∧ Below w.heap.size w w' := by
  have H := Lib.hid h
  unfold PortsBad at h
  have h1 : ¬ (low : Int) < 1 := fun e => h (.inl e)
  have h2 : ¬ (many : Int) < 1 := fun e => h (.inr (.inl e))
  have h3 : ¬ 65536 < (low : Int) := fun e => h (.inr (.inr (.inl e)))
  have h4 : ¬ 65536 - (low : Int) < (many : Int) := fun e => h (.inr (.inr (.inr (.inl e))))
  have h5 : ¬ (rest : Int) < 0 := fun e => h (.inr (.inr (.inr (.inr (.inl e)))))
  have h6 : ¬ 1099511627776 < (rest : Int) := fun e => h (.inr (.inr (.inr (.inr (.inr e)))))
  have hmm := @run_makeMap Tryd.prog
  clear h
  go_enter Tryd.func28, Tryd.ntmps28
  go_wp2_with fail
  go_ret2
  have hs1 : (w.alloc (.map #[] 0)).heap.size = w.heap.size + 1 := by simp
  have m1 := MapG.made kP w
  have q2 := heap_alloc_new (w.alloc (.map #[] 0)) (.cells #[.int .i64 (low : Int), .int .i64 (many : Int), .int .i64 (rest : Int), .map (some w.heap.size)] 107)
  rw [hs1] at q2
  refine ⟨rfl, ⟨q2, ⟨0, (m1.block (Below.heap_alloc _ _ _ (by omega))).ext (fun _ _ => rfl), by omega⟩, (fun k pb e => by cases e), (fun k k' pb pb' e => by cases e), ⟨⟨by omega, by omega⟩, ⟨by omega, by omega⟩, fun k pb e => by cases e⟩, ⟨by omega, fun k pb e => by cases e⟩, fun i hi => ?_⟩, ((Below.refl _ w).alloc (Nat.le_refl _) _).alloc (by omega) _⟩
  have := hi.2
  simp
  omega
end
end Go.Proofs.YtpbknbnhljjjcaaDoor

namespace Go.Proofs.YtpbknbnhljjjcaaDoor
open Go.RowKit Go.Maps Go.Lib

theorem heldR_inv' : ∀ v y, heldR v = some y → ∃ c : Value, v = (id : Value → Value) c := fun v _ _ => ⟨v, rfl⟩
theorem zeroPart (w : World) : (zeroValue 133).run Tryd.prog w = .ok (.pointer none) w := by kernel_rfl
def boxP (k : PKey) : Obj := .cells #[.int .i64 k.p, .int .u32 k.n, .int .u32 k.a, .int .i64 k.q] 87
theorem tab_keep {tab : List Nat} {w w' : World} (h : TabAt 0 tab w) (hb : w'.heap[0]? = w.heap[0]?) : TabAt 0 tab w' := fun j hj => (World.cell?_of_block hb).trans (h j hj)
/-- A part whose first number is lent. -/
def part1 (many : Nat) : PartG := ⟨updB (fun _ => false) 0 true, 1 % many, fun i => decide (i = 0), fun _ => none⟩
set_option maxRecDepth 100000 in
set_option maxHeartbeats 4000000 in
theorem take_fresh {S : Nat → Prop} {P MP low many rest N : Nat} {lay : PKey → Option PB} {parts : PKey → PartG} {w : World} (h : PortsIn S P MP low many rest N lay parts w) (hT : TabAt 0 Lib.deBruijn64tab w) (hT0 : 0 < w.heap.size ∧ ¬ S 0) {K : PKey} (hK : K.ok) (hno : lay K = none) (hm : 1 ≤ many ∧ many ≤ 64) (hnn : N < 1000000) (hlow : low ≤ 65536) (now : Int) :
    Calls Tryd.prog 34 #[.pointer (some ⟨P, 0, none⟩), K.v, .int .i64 now] w fun e w' => e = .returned (.tuple #[.int .i64 (low : Int), .int .i64 0]) ∧ ∃ S' pb, PortsIn S' P MP low many rest (N + 1) (updL lay K (some pb)) (updL parts K (part1 many)) w' ∧ Only S w w' ∧ ∀ i, S' i → S i ∨ w.heap.size ≤ i := by
  obtain ⟨w0, hw0⟩ : ∃ w0, w.alloc (boxP K) = w0 := ⟨_, rfl⟩
  have hb0 : Below w.heap.size w w0 := by rw [← hw0]; exact (Below.refl _ w).alloc (Nat.le_refl _) _
  have hs0 : w0.heap.size = w.heap.size + 1 := by rw [← hw0]; simp
  have x4 : w0.heap[w.heap.size]? = some (boxP K) := by rw [← hw0]; exact heap_alloc_new w _
  have k0 := h.below hb0
  obtain ⟨n0, hmap0, hn0⟩ := k0.map
  have l1 : ∀ n, (Instr.lookup 105 (.map (some MP)) (.agg #[.int .i64 K.p, .int .u32 K.n, .int .u32 K.a, .int .i64 K.q]) true).run Tryd.prog (w0.drewN n) = .ok (.tuple #[.pointer none, .bool false]) (w0.drewN n) := fun n => by
    have h1 := (hmap0.block (w' := w0.drewN n) rfl).look_ok (E := kP) (z := .pointer none) Tryd.underlying105 (zeroPart _) hK
    unfold layV at h1
    rw [hno] at h1
    exact h1
  obtain ⟨c0, c1, c2, c3⟩ := k0.cells
  have y0 : w0.cell? ⟨w.heap.size, 0, none⟩ = some (.int .i64 K.p) := by unfold boxP at x4; simp [World.cell?, x4]
  have y1 : w0.cell? ⟨w.heap.size, 1, none⟩ = some (.int .u32 K.n) := by unfold boxP at x4; simp [World.cell?, x4]
  have y2 : w0.cell? ⟨w.heap.size, 2, none⟩ = some (.int .u32 K.a) := by unfold boxP at x4; simp [World.cell?, x4]
  have y3 : w0.cell? ⟨w.heap.size, 3, none⟩ = some (.int .i64 K.q) := by unfold boxP at x4; simp [World.cell?, x4]
  have HW0 := Lib.hid hw0
  have HB0 := Lib.hid hb0
  have HS0 := Lib.hid hs0
  have HX4 := Lib.hid x4
  have HK0 := Lib.hid k0
  have HH := Lib.hid h
  have HT := Lib.hid hT
  have HT0 := Lib.hid hT0
  have HKK := Lib.hid (And.intro hK hno)
  have HM := Lib.hid hm
  have HNN := Lib.hid hnn
  have HCN := Lib.hid (fun W => cursor_new many hm.1 hm.2 W)
  clear h hT hT0 hK hno hm hnn hw0 hb0 hs0 x4 k0 hmap0 hn0
  unfold PKey.v
  go_enter Tryd.func34, Tryd.ntmps34
  go_upto_region 1 with fail
  refine wp_world w0 HW0.out ?_
  go_quiet (fail)
  obtain ⟨wa, hwa⟩ : ∃ wa, w0.drewN nq = wa := ⟨_, rfl⟩
  have hba : Below w0.heap.size w0 wa := by rw [← hwa]; exact ⟨rfl, rfl, rfl, Nat.le_refl _, fun _ _ => rfl⟩
  rw [hwa]
  have HBA := Lib.hid hba
  have a1 : wa.cell? ⟨P, 1, none⟩ = some (.int .i64 (many : Int)) := by rw [← hwa]; exact c1
  clear l1 c0 c1 c2 c3 y0 y1 y2 y3 hwa hba
  have hmm := @run_makeMap Tryd.prog
  go_upto_region 5 with (go_at_call 58; refine (HCN.out _).mono ?_; rintro e wb ⟨rfl, hcur, hbb, hsb⟩; have HCUR := Lib.hid hcur; have HBB := Lib.hid hbb; have HSB := Lib.hid hsb; clear hcur hbb hsb)
  obtain ⟨wc, hwc⟩ : ∃ wc, ((wb.alloc (.map #[] 0)).alloc (.map #[] 0)).alloc (.cells #[.pointer (some ⟨wa.heap.size + 1, 0, none⟩), .map (some wb.heap.size), .map (some (wb.heap.size + 1))] 140) = wc := ⟨_, rfl⟩
  refine wp_world wc hwc ?_
  have s0 := HS0.out
  have sa := HBA.out.size
  have sb := HSB.out
  have hs1 : (wb.alloc (.map #[] 0)).heap.size = wb.heap.size + 1 := by simp
  have hs2 : ((wb.alloc (.map #[] 0)).alloc (.map #[] 0)).heap.size = wb.heap.size + 2 := by simp
  have hsc : wc.heap.size = wb.heap.size + 3 := by rw [← hwc]; simp
  have hbc : Below wb.heap.size wb wc := by rw [← hwc]; exact (((Below.refl _ wb).alloc (Nat.le_refl _) _).alloc (by omega) _).alloc (by omega) _
  have hb0c : Below w0.heap.size w0 wc := HBA.out.trans ((HBB.out.mono sa).trans (hbc.mono (by omega)))
  have k1 := HK0.out.below hb0c
  have m1 : MapG kI wb.heap.size 0 (fun _ => none) wc := (MapG.made kI wb).block (by
    rw [← hwc]
    exact (Below.heap_alloc _ _ _ (by omega)).trans (Below.heap_alloc _ _ _ (by omega)))
  have m2 : MapG kI (wb.heap.size + 1) 0 (fun _ => none) wc := by
    have h9 := MapG.made kI (wb.alloc (.map #[] 0))
    rw [hs1] at h9
    refine h9.block ?_
    rw [← hwc]
    exact Below.heap_alloc _ _ _ (by omega)
  have q0 : wc.heap[wb.heap.size + 1 + 1]? = some (.cells #[.pointer (some ⟨wa.heap.size + 1, 0, none⟩), .map (some wb.heap.size), .map (some (wb.heap.size + 1))] 140) := by
    have h9 := heap_alloc_new ((wb.alloc (.map #[] 0)).alloc (.map #[] 0)) (.cells #[.pointer (some ⟨wa.heap.size + 1, 0, none⟩), .map (some wb.heap.size), .map (some (wb.heap.size + 1))] 140)
    rw [hs2, hwc] at h9
    exact h9
  obtain ⟨n1, hmap1, hn1⟩ := k1.map
  have hdr : Below wc.heap.size wc wc.drew := ⟨rfl, rfl, rfl, Nat.le_refl _, fun _ _ => rfl⟩
  have hn1b : n1 < 1000000 := by have := HNN.out; omega
  have HN1N := Lib.hid hn1
  obtain ⟨wd, hst, hmd, hgd⟩ := (hmap1.block (w' := wc.drew) rfl).store (E := kP) Tryd.underlying105 (by unfold maxLen; omega) HKK.out.1 (.pointer (some ⟨wb.heap.size + 1 + 1, 0, none⟩))
  have C1 := k1.cells
  obtain ⟨c0, c1, c2, c3⟩ := C1
  have x4 : wc.heap[w.heap.size]? = some (boxP K) := (hb0c.block _ (by omega)).trans HX4.out
  have y0 : wc.cell? ⟨w.heap.size, 0, none⟩ = some (.int .i64 K.p) := by unfold boxP at x4; simp [World.cell?, x4]
  have y1 : wc.cell? ⟨w.heap.size, 1, none⟩ = some (.int .u32 K.n) := by unfold boxP at x4; simp [World.cell?, x4]
  have y2 : wc.cell? ⟨w.heap.size, 2, none⟩ = some (.int .u32 K.a) := by unfold boxP at x4; simp [World.cell?, x4]
  have y3 : wc.cell? ⟨w.heap.size, 3, none⟩ = some (.int .i64 K.q) := by unfold boxP at x4; simp [World.cell?, x4]
  have hst' : (Instr.mapUpdate 105 (.map (some MP)) (.agg #[.int .i64 K.p, .int .u32 K.n, .int .u32 K.a, .int .i64 K.q]) (.pointer (some ⟨wb.heap.size + 1 + 1, 0, none⟩))).run Tryd.prog wc.drew = .ok () wd := hst
  have HMD := Lib.hid hmd
  have HGD := Lib.hid hgd
  have HK1 := Lib.hid k1
  have HM1 := Lib.hid m1
  have HM2 := Lib.hid m2
  have HQ0 := Lib.hid q0
  have HSC := Lib.hid hsc
  have HBC := Lib.hid hbc
  have HB0C := Lib.hid hb0c
  have HN1 := Lib.hid hn1b
  clear hwc k1 m1 m2 q0 hmap1 hn1 hdr hn1b hst hmd hgd x4 hs1 hs2 a1 hmm hbc hb0c sb sa s0 hsc
  refine reg_tail 6 (by kernel_rfl) (by kernel_rfl) ?_
  simp only [List.take_succ_cons, List.take_zero, List.drop_succ_cons, List.drop_zero]
  repeat still_step
  refine wpStill_nil ?_
  go_upto_region 6 with fail
  have sb := HSB.out
  have sc := HSC.out
  have sa := HBA.out.size
  have s0 := HS0.out
  have sd := HGD.out.size
  have hgdd : ∀ i, i < wc.heap.size → i ≠ MP → wd.heap[i]? = wc.heap[i]? := fun i h1 h2 => HGD.out.block i h1 (fun e => h2 (Option.some.inj e))
  have hMl : MP < wc.heap.size := HK1.out.lows MP HK1.out.mem.2.1
  have hMw : MP < w.heap.size := HH.out.lows MP HH.out.mem.2.1
  have hPw : P < w.heap.size := HH.out.lows P HH.out.mem.1
  have hPd : wd.heap[P]? = wc.heap[P]? := hgdd P (by omega) HH.out.off.1
  have qd : wd.heap[wb.heap.size + 1 + 1]? = some (.cells #[.pointer (some ⟨wa.heap.size + 1, 0, none⟩), .map (some wb.heap.size), .map (some (wb.heap.size + 1))] 140) := (hgdd _ (by omega) (by omega)).trans HQ0.out
  have md1 := HM1.out.block (w' := wd) (hgdd _ (by omega) (by omega))
  have md2 := HM2.out.block (w' := wd) (hgdd _ (by omega) (by omega))
  obtain ⟨D2, hown2, hsz2, _⟩ := md2
  have p2 : wd.cell? ⟨wb.heap.size + 1 + 1, 2, none⟩ = some (.map (some (wb.heap.size + 1))) := by simp [World.cell?, qd]
  have HQD := Lib.hid qd
  have HMD1 := Lib.hid md1
  have HPD := Lib.hid hPd
  have HGDD := Lib.hid hgdd
  have HLT := Lib.hid (And.intro hMw (And.intro hPw (And.intro sb (And.intro sc (And.intro sa (And.intro s0 sd))))))
  have HD2 := Lib.hid hsz2
  clear sb sc sa s0 sd hgdd hMl hMw hPw hPd qd md1 hsz2 c0 c1 c2 c3 y0 y1 y2 y3 hst'
  go_wp2_with (at_range; refine wpList_range_own _ rfl _ 108 rfl 3 3 (int_keyed int3) Tryd.underlying108 heldR (wb.heap.size + 1) 0 _ rfl hown2 ?_; intro we hrg2 hg2 hs2)
  obtain ⟨r2, hr2⟩ : ∃ r2, wd.heap.size = r2 := ⟨_, rfl⟩
  have HS2 := Lib.hid hs2
  have HG2 := Lib.hid hg2
  have HR2 := Lib.hid hr2
  rw [hr2] at hrg2 ⊢
  have HRG := Lib.hid hrg2
  clear hs2 hg2 hr2 hrg2 hown2 p2
  go_loopw [12] (fun _ wr => wr = we) (fun _ _ => 0)
  case atStart => rfl
  case round =>
    obtain rfl := hrel
    go_wp2_with (at_next; refine wpList_next_ranges wr rfl (.tmp 50) rfl 3 (int_keyed int3) heldR (Value.int .i64) (id : Value → Value) (fun key kl hk => by obtain ⟨x, rfl, _⟩ := Maps.keyOf_int_inv int3 hk; exact ⟨x, rfl⟩) heldR_inv' (wb.heap.size + 1) r2 0 D2 _ _ (by rfl) HRG.out ?_ ?_)
    · intro _ _
      obtain ⟨hMw, hPw, sb, sc, sa, s0, sd⟩ := HLT.out
      have sd' : wc.heap.size ≤ wd.heap.size := sd
      have hre : ∀ i, i < wd.heap.size → wr.heap[i]? = wd.heap[i]? := fun i hi => HG2.out.block i hi (fun e => by cases e)
      have hcc : CurIn (wa.heap.size + 1) wa.heap.size many 0 0 0 (fun _ => false) wc := HCUR.out.kept (HBC.out.block _ (by omega)) (HBC.out.block _ (by omega))
      have hcr : CurIn (wa.heap.size + 1) wa.heap.size many 0 0 0 (fun _ => false) wr := hcc.kept ((hre _ (by omega)).trans (HGDD.out _ (by omega) (by omega))) ((hre _ (by omega)).trans (HGDD.out _ (by omega) (by omega)))
      have hTr : TabAt 0 Lib.deBruijn64tab wr := tab_keep HT.out (by
        have hM0 : (0 : Nat) ≠ MP := fun e => HT0.out.2 (e ▸ HH.out.mem.2.1)
        have h00 := HT0.out.1
        exact (hre 0 (by omega)).trans ((HGDD.out 0 (by omega) hM0).trans ((HB0C.out.block 0 (by omega)).trans (HB0.out.block 0 (by omega)))))
      obtain ⟨k, hk, htk⟩ := take_direct hcr hTr ⟨0, Nat.le_refl _, by have := HM.out; omega, rfl⟩
      have hk0 : k = 0 := by
        apply Classical.byContradiction
        intro hne
        have := hk.2.2.2 0 (Nat.le_refl _) (by omega)
        cases this
      subst hk0
      obtain ⟨pb, hpb⟩ : ∃ pb : PB, (⟨wb.heap.size + 1 + 1, wa.heap.size + 1, wa.heap.size, wb.heap.size, wb.heap.size + 1⟩ : PB) = pb := ⟨_, rfl⟩
      have hgr := HG2.out.size
      have HTK := Lib.hid (show Calls Tryd.prog 61 #[.pointer (some ⟨wa.heap.size + 1, 0, none⟩)] wr fun e wf => e = .returned (.tuple #[.int .i64 0, .bool true]) ∧ wf.cell? ⟨wb.heap.size + 1 + 1, 1, none⟩ = some (.map (some wb.heap.size)) ∧ wf.cell? ⟨P, 0, none⟩ = some (.int .i64 (low : Int)) ∧ ∃ wg, (Instr.mapUpdate 138 (.map (some wb.heap.size)) (.int .i64 0) (.agg #[])).run Tryd.prog wf = .ok () wg ∧ wg.cell? ⟨P, 0, none⟩ = some (.int .i64 (low : Int)) ∧ ∃ S' pb, PortsIn S' P MP low many rest (N + 1) (updL lay K (some pb)) (updL parts K (part1 many)) wg ∧ Only S w wg ∧ ∀ i, S' i → S i ∨ w.heap.size ≤ i from by
        refine htk.mono ?_
        rintro e wf ⟨rfl, ⟨cnt', x', hc⟩, ho⟩
        have hbl : ∀ i, i < wr.heap.size → i ≠ wa.heap.size + 1 → i ≠ wa.heap.size → wf.heap[i]? = wr.heap[i]? := fun i h1 h2 h3 => ho.block i h1 (fun e => by rcases e with e | e; exact h2 e; exact h3 e)
        have hof := ho.size
        have m7 := HMD1.out.block (w' := wf) ((hbl _ (by omega) (by omega) (by omega)).trans (hre _ (by omega)))
        obtain ⟨wg, hst2, hmg, hgg⟩ := m7.store (E := kI) Tryd.underlying138 (by decide) (k := 0) (show (Lit.int .i64 0).wf = true from by decide) (.agg #[])
        have hfg : ∀ i, i < wf.heap.size → i ≠ wb.heap.size → wg.heap[i]? = wf.heap[i]? := fun i h1 h2 => hgg.block i h1 (fun e => h2 (Option.some.inj e))
        have hsg := hgg.size
        have qf : wf.heap[wb.heap.size + 1 + 1]? = some (.cells #[.pointer (some ⟨wa.heap.size + 1, 0, none⟩), .map (some wb.heap.size), .map (some (wb.heap.size + 1))] 140) := (hbl _ (by omega) (by omega) (by omega)).trans ((hre _ (by omega)).trans HQD.out)
        have hdg : ∀ i, i < wd.heap.size → i ≠ wa.heap.size + 1 → i ≠ wa.heap.size → i ≠ wb.heap.size → wg.heap[i]? = wd.heap[i]? := fun i h1 h2 h3 h4 => (hfg i (by omega) h4).trans ((hbl i (by omega) h2 h3).trans (hre i h1))
        have hwg : ∀ i, i < w.heap.size → i ≠ MP → wg.heap[i]? = w.heap[i]? := fun i h1 h2 => (hdg i (by omega) (by omega) (by omega) (by omega)).trans ((HGDD.out i (by omega) h2).trans ((HB0C.out.block i (by omega)).trans (HB0.out.block i h1)))
        have pf := (hwg P hPw HH.out.off.1).trans HH.out.box
        have pf0 : wf.cell? ⟨P, 0, none⟩ = some (.int .i64 (low : Int)) := by
          have h9 := (hfg P (by omega) (by omega)).symm.trans pf
          simp [World.cell?, h9]
        refine ⟨rfl, by simp [World.cell?, qf], pf0, wg, hst2, by simp [World.cell?, pf], ?_⟩
        have hmG : MapG kP MP (if (layV lay K).isSome then n1 else n1 + 1) (layV (updL lay K (some pb))) wg := by
          have h9 := HMD.out.block (w' := wg) (hdg MP (by omega) (by omega) (by omega) (by omega))
          refine h9.ext (fun j _ => ?_)
          unfold layV updL
          by_cases e : j = K
          · rw [if_pos e, if_pos e, ← hpb]; rfl
          · rw [if_neg e, if_neg e]
        refine ⟨_, pb, HH.out.more (pb := pb) (pt := part1 many) (N' := N + 1) (by omega) HKK.out.2 hmG (by have := HN1N.out; split <;> omega) (fun b hS hne => hwg b (HH.out.lows b hS) hne) ?_ (fun i hi => ?_) (by omega), ⟨?_, ?_, ?_, by omega, fun i hi hn => hwg i hi (fun e => hn (e ▸ HH.out.mem.2.1))⟩, fun i hi => ?_⟩
        · rw [← hpb]
          refine ⟨(hfg (wb.heap.size + 1 + 1) (by omega) (by omega)).trans qf, ⟨cnt', x', ?_⟩, ⟨_, hmg.ext (fun j _ => ?_), by split <;> omega⟩, ⟨0, (HM2.out.block (w' := wg) ((hdg (wb.heap.size + 1) (by omega) (by omega) (by omega) (by omega)).trans (HGDD.out (wb.heap.size + 1) (by omega) (by omega)))).ext (fun j _ => ?_), by omega⟩, ?_⟩
          · show CurIn (wa.heap.size + 1) wa.heap.size many (1 % many) cnt' x' (updB (fun _ => false) 0 true) wg
            have h9 := hc.kept (w' := wg) (hfg (wa.heap.size + 1) (by omega) (by omega)) (hfg wa.heap.size (by omega) (by omega))
            simpa using h9
          · unfold lentV part1
            by_cases e : j = 0
            · subst e; simp
            · rw [if_neg e, if_neg (fun h => e (by
                have h1 := h.1
                have h2 := of_decide_eq_true h.2
                omega))]
          · unfold givenV part1
            simp
          · dsimp only
            omega
        · rw [← hpb] at hi
          unfold PB.has at hi
          dsimp only at hi
          omega
        · exact hgg.os.trans (ho.os.trans (HG2.out.os.trans (HGD.out.os.trans (HB0C.out.os.trans HB0.out.os))))
        · exact hgg.tape.trans (ho.tape.trans (HG2.out.tape.trans (HGD.out.tape.trans (HB0C.out.tape.trans HB0.out.tape))))
        · exact hgg.output.trans (ho.output.trans (HG2.out.output.trans (HGD.out.output.trans (HB0C.out.output.trans HB0.out.output))))
        · rcases hi with e | e
          · exact .inl e
          · rw [← hpb] at e
            unfold PB.has at e
            dsimp only at e
            omega)
      have q2 : wr.cell? ⟨wb.heap.size + 1 + 1, 0, none⟩ = some (.pointer (some ⟨wa.heap.size + 1, 0, none⟩)) := by
        have h9 := (hre (wb.heap.size + 1 + 1) (by omega)).trans HQD.out
        simp [World.cell?, h9]
      have hlow0 : (low : Int) ≤ 65536 := by omega
      clear hMw hPw sb sc sa s0 sd sd' hre hcc hcr hTr hk htk hpb hgr
      go_wp2_with (go_at_call 61; refine HTK.out.mono ?_; rintro e wf ⟨rfl, p1, p0, wg, hst3, p0g, hfin⟩; have HFIN := Lib.hid hfin; clear hfin)
      go_ret2
      exact ⟨rfl, HFIN.out⟩
    · intro x c kl y w9 cnt' h1 h2 h3 h4 h5 h6 h7
      rw [HD2.out] at h7
      omega
end Go.Proofs.YtpbknbnhljjjcaaDoor

namespace Go.Proofs.YtpbknbnhljjjcaaDoor
open Go.RowKit Go.Maps Go.Lib

theorem zeroUnit (w : World) : (zeroValue 142).run Tryd.prog w = .ok (.agg #[]) w := by kernel_rfl
set_option maxRecDepth 100000 in
set_option maxHeartbeats 2000000 in
theorem lent_in {S : Nat → Prop} {P MP low many rest N : Nat} {lay : PKey → Option PB} {parts : PKey → PartG} {w : World} (h : PortsIn S P MP low many rest N lay parts w) {K : PKey} (hK : K.ok) {pb : PB} (hp : lay K = some pb) (i : Nat) (hi : i < 1000000) :
    Calls Tryd.prog 79 #[.pointer (some ⟨P, 0, none⟩), K.v, .int .i64 ((low + i : Nat) : Int)] w fun e w' => e = .returned (.bool ((parts K).lent i)) ∧ Below w.heap.size w w' := by
  obtain ⟨w0, hw0⟩ : ∃ w0, w.alloc (boxP K) = w0 := ⟨_, rfl⟩
  have hb0 : Below w.heap.size w w0 := by rw [← hw0]; exact (Below.refl _ w).alloc (Nat.le_refl _) _
  have x4 : w0.heap[w.heap.size]? = some (boxP K) := by rw [← hw0]; exact heap_alloc_new w _
  have k0 := h.below hb0
  obtain ⟨n0, hmap0, hn0⟩ := k0.map
  have l1 : ∀ n, (Instr.lookup 105 (.map (some MP)) (.agg #[.int .i64 K.p, .int .u32 K.n, .int .u32 K.a, .int .i64 K.q]) true).run Tryd.prog (w0.drewN n) = .ok (.tuple #[.pointer (some ⟨pb.q, 0, none⟩), .bool true]) (w0.drewN n) := fun n => by
    have h1 := (hmap0.block (w' := w0.drewN n) rfl).look_ok (E := kP) (z := .pointer none) Tryd.underlying105 (zeroPart _) hK
    unfold layV at h1
    rw [hp] at h1
    exact h1
  have kp := k0.part K pb hp
  obtain ⟨n2, hl2, hn2⟩ := kp.lent
  have l2 : ∀ (W : World), W.heap[pb.ml]? = w0.heap[pb.ml]? → (Instr.lookup 138 (.map (some pb.ml)) (.int .i64 (i : Int)) true).run Tryd.prog W = .ok (.tuple #[.agg #[], .bool ((parts K).lent i)]) W := fun W hW => by
    have h1 := (hl2.block hW).look_ok (E := kI) (z := .agg #[]) Tryd.underlying138 (zeroUnit _) (k := (i : Int)) (show (Lit.int .i64 (i : Int)).wf = true from by simp [Lit.wf, IntKind.min, IntKind.max, IntKind.signed, IntKind.bits]; omega)
    have e1 : lentV (parts K).lent (i : Int) = if (parts K).lent i = true then some (.agg #[]) else none := by
      unfold lentV
      simp
    rw [e1] at h1
    by_cases hx : (parts K).lent i = true
    · rw [if_pos hx] at h1; rw [hx]; exact h1
    · rw [if_neg hx] at h1
      have hx' : (parts K).lent i = false := by simpa using hx
      rw [hx']; exact h1
  obtain ⟨c0, c1, c2, c3⟩ := k0.cells
  have y0 : w0.cell? ⟨w.heap.size, 0, none⟩ = some (.int .i64 K.p) := by unfold boxP at x4; simp [World.cell?, x4]
  have y1 : w0.cell? ⟨w.heap.size, 1, none⟩ = some (.int .u32 K.n) := by unfold boxP at x4; simp [World.cell?, x4]
  have y2 : w0.cell? ⟨w.heap.size, 2, none⟩ = some (.int .u32 K.a) := by unfold boxP at x4; simp [World.cell?, x4]
  have y3 : w0.cell? ⟨w.heap.size, 3, none⟩ = some (.int .i64 K.q) := by unfold boxP at x4; simp [World.cell?, x4]
  have p1 : w0.cell? ⟨pb.q, 1, none⟩ = some (.map (some pb.ml)) := by have := kp.box; simp [World.cell?, this]
  have hml : pb.ml < w0.heap.size := k0.lows _ (k0.mem.2.2 K pb hp _ (.inr (.inr (.inr (.inl rfl)))))
  have hP0 : P < w0.heap.size := k0.lows _ k0.mem.1
  have hq0 : pb.q < w0.heap.size := k0.lows _ (k0.mem.2.2 K pb hp _ (.inl rfl))
  obtain ⟨ok, hok⟩ : ∃ ok, (parts K).lent i = ok := ⟨_, rfl⟩
  rw [hok] at l2 ⊢
  have HW0 := Lib.hid hw0
  have HB0 := Lib.hid hb0
  have hge : ¬ ((low : Int) + (i : Int)) < (low : Int) := by omega
  have hsub : ((low : Int) + (i : Int)) - (low : Int) = (i : Int) := by omega
  have hcast : ((low + i : Nat) : Int) = (low : Int) + (i : Int) := by omega
  rw [hcast]
  have l3 : ∀ n, (Instr.lookup 138 (.map (some pb.ml)) (.int .i64 (i : Int)) true).run Tryd.prog (w0.drewN n) = .ok (.tuple #[.agg #[], .bool ok]) (w0.drewN n) := fun n => l2 _ rfl
  clear h k0 hmap0 hn0 hw0 hb0 x4 kp hl2 hn2 hok hcast hK hp
  unfold PKey.v
  go_enter Tryd.func79, Tryd.ntmps79
  go_upto_region 1 with fail
  refine wp_world w0 HW0.out ?_
  go_quiet (fail)
  go_upto_region 4 with fail
  obtain ⟨wa, hwa⟩ : ∃ wa, w0.drewN nq = wa := ⟨_, rfl⟩
  have ka : wa.heap = w0.heap := by rw [← hwa]; rfl
  have HBA := Lib.hid (show Below w.heap.size w wa from by rw [← hwa]; exact HB0.out.trans ⟨rfl, rfl, rfl, Nat.le_refl _, fun _ _ => rfl⟩)
  have d0 : wa.cell? ⟨P, 0, none⟩ = some (.int .i64 (low : Int)) := by rw [← hwa]; exact c0
  have hPl : P < wa.heap.size := by rw [ka]; exact hP0
  have hql : pb.q < wa.heap.size := by rw [ka]; exact hq0
  have d1 : wa.cell? ⟨pb.q, 1, none⟩ = some (.map (some pb.ml)) := by rw [← hwa]; exact p1
  have m1 := l2 wa.drew (by rw [← hwa]; rfl)
  have m2 := fun o => l2 (wa.alloc o) ((Below.heap_alloc _ _ _ (by rw [ka]; exact hml)).trans (by rw [ka]))
  have m3 := fun o => l2 (wa.alloc o).drew ((Below.heap_alloc wa o _ (by rw [ka]; exact hml)).trans (by rw [ka]))
  have m4 := fun o => l2 (wa.drew.alloc o) ((Below.heap_alloc wa.drew o _ (by show pb.ml < wa.heap.size; rw [ka]; exact hml)).trans (show wa.heap[pb.ml]? = _ by rw [ka]))
  rw [hwa]
  clear hwa ka c0 c1 c2 c3 y0 y1 y2 y3 p1 l1 l2 l3 hml
  go_region
  all_goals
    go_wp2_with fail
    go_ret
    first
      | exact ⟨rfl, HBA.out.trans ((Below.refl wa.heap.size wa).alloc (Nat.le_refl _) _ |>.drew |>.mono HBA.out.size)⟩
      | exact ⟨rfl, HBA.out.trans (((Below.refl wa.heap.size wa).drew.alloc (Nat.le_refl _) _).mono HBA.out.size)⟩
end Go.Proofs.YtpbknbnhljjjcaaDoor

namespace Go.Proofs.YtpbknbnhljjjcaaDoor
open Go.RowKit Go.Maps Go.Lib

def updN {α : Type} (f : Nat → α) (k : Nat) (v : α) (i : Nat) : α := if i = k then v else f i
/-- A part behind a port that is given back. -/
def partGive (pt : PartG) (i u : Nat) : PartG := { pt with lent := updB pt.lent i false, given := updN pt.given i (some u) }
section
variable {S : Nat → Prop} {P MP low many rest N : Nat} {lay : PKey → Option PB} {parts : PKey → PartG} {w w' : World}
/-- A part has turned. -/
theorem PortsIn.turn (h : PortsIn S P MP low many rest N lay parts w) {K : PKey} {pb : PB} {pt : PartG} {N' : Nat} (hN : N ≤ N') (hK : lay K = some pb) (hb : ∀ b, S b → ¬ pb.has b → w'.heap[b]? = w.heap[b]?) (hp : PartIn many N' pb pt w') (hs : w.heap.size ≤ w'.heap.size) :
    PortsIn S P MP low many rest N' lay (updL parts K pt) w' := by
  obtain ⟨n, h1, h2⟩ := h.map
  refine ⟨(hb P h.mem.1 (h.off.2 K pb hK).1).trans h.box, ⟨n, h1.block (hb MP h.mem.2.1 (h.off.2 K pb hK).2), by omega⟩, fun k pb' e => ?_, h.apart, h.mem, h.off, fun i hi => Nat.lt_of_lt_of_le (h.lows i hi) hs⟩
  unfold updL
  by_cases e2 : k = K
  · rw [if_pos e2]
    rw [e2, hK] at e
    cases e
    exact hp
  · rw [if_neg e2]
    exact ((h.part k pb' e).mono hN).kept (fun i hi => hb i (h.mem.2.2 k pb' e i hi) (h.apart k K pb' pb e hK e2 i hi))
set_option maxRecDepth 100000 in
set_option maxHeartbeats 4000000 in
theorem give_ok (h : PortsIn S P MP low many rest N lay parts w) {K : PKey} (hK : K.ok) {pb : PB} (hp : lay K = some pb) (i : Nat) (hi : i < 1000000) (hl : (parts K).lent i = true) (now : Nat) (hnow : now ≤ 1099511627776) (hrest : rest ≤ 1099511627776) (hN : N < 1000000) :
    Calls Tryd.prog 63 #[.pointer (some ⟨P, 0, none⟩), K.v, .int .i64 ((low + i : Nat) : Int), .int .i64 (now : Int)] w fun e w' => e = .returned (.bool true) ∧ PortsIn S P MP low many rest (N + 1) lay (updL parts K (partGive (parts K) i (now + rest))) w' ∧ Only S w w' := by
  obtain ⟨w0, hw0⟩ : ∃ w0, w.alloc (boxP K) = w0 := ⟨_, rfl⟩
  have hb0 : Below w.heap.size w w0 := by rw [← hw0]; exact (Below.refl _ w).alloc (Nat.le_refl _) _
  have hs0 : w0.heap.size = w.heap.size + 1 := by rw [← hw0]; simp
  have x4 : w0.heap[w.heap.size]? = some (boxP K) := by rw [← hw0]; exact heap_alloc_new w _
  have k0 := h.below hb0
  have HL := Lib.hid (lent_in k0 hK hp i hi)
  rw [hl] at HL
  have y0 : w0.cell? ⟨w.heap.size, 0, none⟩ = some (.int .i64 K.p) := by unfold boxP at x4; simp [World.cell?, x4]
  have y1 : w0.cell? ⟨w.heap.size, 1, none⟩ = some (.int .u32 K.n) := by unfold boxP at x4; simp [World.cell?, x4]
  have y2 : w0.cell? ⟨w.heap.size, 2, none⟩ = some (.int .u32 K.a) := by unfold boxP at x4; simp [World.cell?, x4]
  have y3 : w0.cell? ⟨w.heap.size, 3, none⟩ = some (.int .i64 K.q) := by unfold boxP at x4; simp [World.cell?, x4]
  have HW0 := Lib.hid hw0
  have HB0 := Lib.hid hb0
  have HS0 := Lib.hid hs0
  have HX4 := Lib.hid x4
  have HK0 := Lib.hid k0
  have HH := Lib.hid h
  have HKK := Lib.hid (And.intro hK hp)
  have HNB := Lib.hid (And.intro hi (And.intro hnow (And.intro hrest hN)))
  have hwi : (Lit.int .i64 (i : Int)).wf = true := by simp [Lit.wf, IntKind.min, IntKind.max, IntKind.signed, IntKind.bits]; omega
  have HWI := Lib.hid hwi
  have hcast : ((low + i : Nat) : Int) = (low : Int) + (i : Int) := by omega
  rw [hcast] at HL ⊢
  clear h hK hp hl hi hnow hN hw0 hb0 hs0 x4 k0 hcast hwi
  unfold PKey.v at HL ⊢
  go_enter Tryd.func63, Tryd.ntmps63
  go_upto_region 1 with fail
  refine wp_world w0 HW0.out ?_
  go_upto_region 3 with (go_at_call 79; refine HL.out.mono ?_; rintro e wa ⟨rfl, hba⟩; have HBA := Lib.hid hba; clear hba y0 y1 y2 y3)
  have sa := HBA.out.size
  have ka := HK0.out.below HBA.out
  have x4 : wa.heap[w.heap.size]? = some (boxP K) := (HBA.out.block _ (by have := HS0.out; omega)).trans HX4.out
  have y0 : wa.cell? ⟨w.heap.size, 0, none⟩ = some (.int .i64 K.p) := by unfold boxP at x4; simp [World.cell?, x4]
  have y1 : wa.cell? ⟨w.heap.size, 1, none⟩ = some (.int .u32 K.n) := by unfold boxP at x4; simp [World.cell?, x4]
  have y2 : wa.cell? ⟨w.heap.size, 2, none⟩ = some (.int .u32 K.a) := by unfold boxP at x4; simp [World.cell?, x4]
  have y3 : wa.cell? ⟨w.heap.size, 3, none⟩ = some (.int .i64 K.q) := by unfold boxP at x4; simp [World.cell?, x4]
  obtain ⟨n0, hmap0, hn0⟩ := ka.map
  have l1 : ∀ n, (Instr.lookup 105 (.map (some MP)) (.agg #[.int .i64 K.p, .int .u32 K.n, .int .u32 K.a, .int .i64 K.q]) false).run Tryd.prog (wa.drewN n) = .ok (.pointer (some ⟨pb.q, 0, none⟩)) (wa.drewN n) := fun n => by
    have h1 := (hmap0.block (w' := wa.drewN n) rfl).look (E := kP) (z := .pointer none) Tryd.underlying105 (zeroPart _) HKK.out.1
    unfold layV at h1
    rw [HKK.out.2] at h1
    exact h1
  obtain ⟨c0, c1, c2, c3⟩ := ka.cells
  have HKA := Lib.hid ka
  clear sa ka x4 hmap0 hn0
  go_quiet (fail)
  go_upto_region 4 with fail
  obtain ⟨wb, hwb⟩ : ∃ wb, wa.drewN nq = wb := ⟨_, rfl⟩
  have hkb : PortsIn S P MP low many rest N lay parts wb := by rw [← hwb]; exact HKA.out.below ⟨rfl, rfl, rfl, Nat.le_refl _, fun _ _ => rfl⟩
  have HBB := Lib.hid (show Below wa.heap.size wa wb from by rw [← hwb]; exact ⟨rfl, rfl, rfl, Nat.le_refl _, fun _ _ => rfl⟩)
  rw [hwb]
  clear hwb c0 c1 c2 c3 y0 y1 y2 y3 l1
  have kp := hkb.part K pb HKK.out.2
  obtain ⟨n1, hl1, hn1⟩ := kp.lent
  obtain ⟨n2, hg1, hn2⟩ := kp.given
  obtain ⟨wc, n3, hr1, hlc, hgc, hn3⟩ := (hl1.block (w' := wb.drew) rfl).drop (E := kI) Tryd.underlying138 (k := (i : Int)) HWI.out 0
  have hsc := hgc.size
  have hmem := fun j (hj : pb.has j) => hkb.lows j (hkb.mem.2.2 K pb HKK.out.2 j hj)
  have lmg := hmem pb.mg (.inr (.inr (.inr (.inr rfl))))
  have lml := hmem pb.ml (.inr (.inr (.inr (.inl rfl))))
  have hcb : ∀ j, j < wb.heap.size → j ≠ pb.ml → wc.heap[j]? = wb.heap[j]? := fun j h1 h2 => hgc.block j h1 (fun e => h2 (Option.some.inj e))
  have hgm := (hg1.block (w' := wc) (hcb pb.mg lmg (fun e => kp.ne.2.2 e.symm))).block (w' := wc.drew) rfl
  obtain ⟨wd, hr2, hgd, hgg⟩ := hgm.store (E := kI) Tryd.underlying108 (by unfold maxLen; have := HNB.out; omega) (k := (i : Int)) HWI.out (.int .i64 ((now : Int) + (rest : Int)))
  have HFIN := Lib.hid (show PortsIn S P MP low many rest (N + 1) lay (updL parts K (partGive (parts K) i (now + rest))) wd ∧ Only S w wd from by
    have hdb : ∀ j, j < wb.heap.size → j ≠ pb.ml → j ≠ pb.mg → wd.heap[j]? = wb.heap[j]? := fun j h1 h2 h3 => (hgg.block j (Nat.lt_of_lt_of_le h1 hsc) (fun e => h3 (Option.some.inj e))).trans (hcb j h1 h2)
    have hsd := hgg.size
    have hsd' : wc.heap.size ≤ wd.heap.size := hsd
    have hsc' : wb.heap.size ≤ wc.heap.size := hsc
    have sbb := HBB.out.size
    have sba := HBA.out.size
    have sb0 := HB0.out.size
    obtain ⟨cnt, x, hcur⟩ := kp.cur
    have hne := kp.ne
    refine ⟨hkb.turn (by omega) HKK.out.2 (fun b hS hn => hdb b (hkb.lows b hS) (fun e => hn (.inr (.inr (.inr (.inl e))))) (fun e => hn (.inr (.inr (.inr (.inr e)))))) ⟨?_, ⟨cnt, x, ?_⟩, ⟨n3, (hlc.block (w' := wd) ?_).ext (fun j _ => ?_), by omega⟩, ⟨_, hgd.ext (fun j _ => ?_), ?_⟩, kp.ne⟩ (by omega), ⟨?_, ?_, ?_, by omega, fun j hj hn => ?_⟩⟩
    · exact (hdb pb.q (hmem pb.q (.inl rfl)) hne.1.2.2.1 hne.1.2.2.2).trans kp.box
    · exact hcur.kept (hdb pb.x (hmem pb.x (.inr (.inl rfl))) hne.2.1.1 hne.2.1.2.1) (hdb pb.g (hmem pb.g (.inr (.inr (.inl rfl)))) hne.2.1.2.2.1 hne.2.1.2.2.2)
    · exact hgg.block pb.ml (Nat.lt_of_lt_of_le lml hsc) (fun e => hne.2.2 (Option.some.inj e))
    · unfold lentV partGive updB
      by_cases e : j = (i : Int)
      · subst e; simp
      · rw [if_neg e]
        by_cases h0 : 0 ≤ j
        · have : ¬ j.toNat = i := by omega
          simp [h0, this]
        · simp [h0]
    · unfold givenV partGive updN
      by_cases e : j = (i : Int)
      · subst e; simp
      · rw [if_neg e]
        by_cases h0 : 0 ≤ j
        · have : ¬ j.toNat = i := by omega
          simp [h0, this]
        · simp [h0]
    · split <;> omega
    · exact hgg.os.trans (hgc.os.trans (HBB.out.os.trans (HBA.out.os.trans HB0.out.os)))
    · exact hgg.tape.trans (hgc.tape.trans (HBB.out.tape.trans (HBA.out.tape.trans HB0.out.tape)))
    · exact hgg.output.trans (hgc.output.trans (HBB.out.output.trans (HBA.out.output.trans HB0.out.output)))
    · have hSi := fun (k : Nat) (hk : pb.has k) (e : j = k) => hn (e ▸ hkb.mem.2.2 K pb HKK.out.2 k hk)
      exact (hdb j (by omega) (hSi pb.ml (.inr (.inr (.inr (.inl rfl))))) (hSi pb.mg (.inr (.inr (.inr (.inr rfl)))))).trans ((HBB.out.block j (by omega)).trans ((HBA.out.block j (by omega)).trans (HB0.out.block j hj))))
  obtain ⟨c0, c1, c2, c3⟩ := hkb.cells
  have p1 : wb.cell? ⟨pb.q, 1, none⟩ = some (.map (some pb.ml)) := by have := kp.box; simp [World.cell?, this]
  have lq := hmem pb.q (.inl rfl)
  have lP := hkb.lows P hkb.mem.1
  have hqc := hcb pb.q lq kp.ne.1.2.2.1
  have hPc := hcb P lP (fun e => (hkb.off.2 K pb HKK.out.2).1 (.inr (.inr (.inr (.inl e)))))
  have p2 : wc.cell? ⟨pb.q, 2, none⟩ = some (.map (some pb.mg)) := (World.cell?_of_block hqc).trans (by have := kp.box; simp [World.cell?, this])
  have e0 : wc.cell? ⟨P, 0, none⟩ = some (.int .i64 (low : Int)) := (World.cell?_of_block hPc).trans c0
  have e2 : wc.cell? ⟨P, 2, none⟩ = some (.int .i64 (rest : Int)) := (World.cell?_of_block hPc).trans c2
  have HCL := Lib.hid (fun W => clock_ok now HNB.out.2.1 W)
  have hsub : ((low : Int) + (i : Int)) - (low : Int) = (i : Int) := by omega
  have hwr : IntKind.i64.wrap (i : Int) = (i : Int) := wrap_small .i64 (.inl rfl) _ (by omega) (by have := HNB.out; omega)
  have hwr2 : IntKind.i64.wrap ((now : Int) + (rest : Int)) = (now : Int) + (rest : Int) := wrap_small .i64 (.inl rfl) _ (by omega) (by have := HNB.out; omega)
  have hw64 : wrap64 (i : Int) = (i : Int) := by unfold wrap64; have := HNB.out; omega
  have hw642 : wrap64 ((now : Int) + (rest : Int)) = (now : Int) + (rest : Int) := by unfold wrap64; have := HNB.out; omega
  have hr1' : (Builtin.delete_ #[138, 3] 0 #[.map (some pb.ml), .int .i64 (i : Int)]).run Tryd.prog wb.drew = .ok (.tuple #[]) wc := hr1
  have hr2' : (Instr.mapUpdate 108 (.map (some pb.mg)) (.int .i64 (i : Int)) (.int .i64 ((now : Int) + (rest : Int)))).run Tryd.prog wc.drew = .ok () wd := hr2
  clear hr1 hr2
  clear hkb kp hl1 hn1 hg1 hn2 hlc hgc hn3 hsc hmem lmg lml hcb hgm hgd hgg lq lP hqc hPc c1 c2 c3
  refine reg_tail 10 (by kernel_rfl) (by kernel_rfl) ?_
  simp only [List.take_succ_cons, List.take_zero, List.drop_succ_cons, List.drop_zero]
  repeat still_step
  refine wpStill_nil ?_
  go_upto_region 5 with fail
  refine reg_tail 17 (by kernel_rfl) (by kernel_rfl) ?_
  simp only [List.take_succ_cons, List.take_zero, List.drop_succ_cons, List.drop_zero]
  iterate 11 still_step
  still_call (HCL.out _)
  repeat still_step
  refine wpStill_nil ?_
  go_wp2_with fail
  go_ret
  exact ⟨rfl, HFIN.out⟩
end
end Go.Proofs.YtpbknbnhljjjcaaDoor
