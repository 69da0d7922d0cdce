/- Texts of this proof, put together: K3 K4 K5. -/
import Derived.Test.YtpbknbnhljjjcaaDoorMG
namespace Go.Proofs.YtpbknbnhljjjcaaDoor
open Go.RowKit Go.Maps Go.Lib
/-- The next number that is free, from a place on, and round. -/
def Nx (used : Nat → Bool) (a n k : Nat) : Prop := k < n ∧ used k = false ∧ ((a ≤ k ∧ ∀ j, a ≤ j → j < k → used j = true) ∨ (k < a ∧ (∀ j, a ≤ j → j < n → used j = true) ∧ ∀ j, j < k → used j = true))
set_option maxRecDepth 100000 in
set_option maxHeartbeats 2000000 in
theorem take_wrapped {X g n at_ x : Nat} {cnt : Int} {used : Nat → Bool} {w : World} (h : CurIn X g n at_ cnt x used w) (hT : TabAt 0 Lib.deBruijn64tab w) (hall : ∀ j, at_ ≤ j → j < n → used j = true) (hfree : ∃ i, i < at_ ∧ used i = false) :
    ∃ k : Nat, (k < at_ ∧ used k = false ∧ ∀ j, j < k → used j = true) ∧ Calls Tryd.prog 61 #[.pointer (some ⟨X, 0, none⟩)] w fun e w' => e = .returned (.tuple #[.int .i64 (k : Int), .bool true]) ∧ (∃ cnt' x', CurIn X g n ((k + 1) % n) cnt' x' (updB used k true) w') ∧ Only (fun b => b = X ∨ b = g) w w' := by
  obtain ⟨f0, hsays0, hfrom0⟩ := from_ok h at_ n (by have := h.hat; have := h.hn; omega) (Nat.le_refl _)
  have hf0 : ¬ f0 < n := fun e => by
    have h1 := hsays0.1 e
    have h2 := hall f0 h1.1 e
    rw [h1.2.1] at h2
    cases h2
  rw [decide_eq_false hf0] at hfrom0
  obtain ⟨k, hsays, hfrom⟩ := from_ok h 0 at_ (by omega) (Nat.le_of_lt h.hat)
  have hka : k < at_ := by
    apply Classical.byContradiction
    intro hc
    obtain ⟨i, h1, h3⟩ := hfree
    have := hsays.2 hc i (Nat.zero_le _) h1
    rw [h3] at this
    cases this
  have hkn : k < n := Nat.lt_trans hka h.hat
  refine ⟨k, ⟨hka, (hsays.1 hka).2.1, fun j hj => (hsays.1 hka).2.2 j (Nat.zero_le _) hj⟩, ?_⟩
  rw [decide_eq_true hka] at hfrom
  have HF := Lib.hid (fun m => hfrom0 (w.drewN m) (h.kept rfl rfl) hT)
  have HF2 := Lib.hid (fun m => hfrom (w.drewN m) (h.kept rfl rfl) hT)
  obtain ⟨⟨c0, c1, c2, c3, d0⟩, fX, fg⟩ := h.cells
  have f2 := fX 2
  have f3 := fX 3
  have HH := Lib.hid h
  have hne := h.ne
  have hne' : g ≠ X := fun e => hne e.symm
  have hn0 : 1 ≤ n ∧ n ≤ 64 := h.hn
  have hk64 : k < 64 := by omega
  have hq : (k : Int) / 64 = 0 := by omega
  have hr : (k : Int) % 64 = (k : Int) := by omega
  obtain ⟨x', hx1, hx2, hx3⟩ := or_bit x k h.hx hk64
  have hw2 := wrap_two k hk64
  have HX := Lib.hid (And.intro hx2 hx3)
  have HFULL := Lib.hid hx3
  have hw0 : IntKind.i64.wrap 0 = 0 := rfl
  have hr2 : (k : Int).tmod 64 = (k : Int) := by rw [Int.tmod_eq_emod_of_nonneg (by omega)]; exact hr
  have hk0 : 0 ≤ (k : Int) := by omega
  have hm : ((k : Int) + 1) % (n : Int) = (((k + 1) % n : Nat) : Int) := by rw [Int.natCast_emod, Int.natCast_add]; rfl
  have HML := Lib.hid (show (k + 1) % n < n from Nat.mod_lt _ (by omega))
  obtain ⟨a', ha'⟩ : ∃ a', (k + 1) % n = a' := ⟨_, rfl⟩
  rw [ha'] at hm HML ⊢
  have hn1 : ¬ (n : Int) = 0 := by omega
  have hn2 : ((n : Int) == 0) = false := by simp; omega
  clear h hT hfree fX hfrom hsays hfrom0 hsays0 hf0 hall hx2 hx3 ha'
  go_enter Tryd.func61, Tryd.ntmps61
  go_upto_region 1 with fail
  go_quiet ((go_at_call 78; exact Calls.quiet_of_same (HF.out _)))
  go_upto_region 6 with (go_at_call 78; refine (HF2.out _).mono ?_; rintro e wx ⟨rfl, rfl⟩)
  refine reg_tail 13 (by kernel_rfl) (by kernel_rfl) ?_
  simp only [List.take_succ_cons, List.take_zero, List.drop_succ_cons, List.drop_zero]
  repeat still_step
  refine wpStill_nil ?_
  go_wp2_with fail
  go_ret2
  have e2 : ((2 : Int) ^ k) = ((2 ^ k : Nat) : Int) := by norm_cast
  rw [e2, hx1]
  have h0 := HH.out.kept (w' := w.drewN (nq + 1)) rfl rfl
  refine ⟨rfl, ⟨_, x', h0.take (by omega) HML.out HX.out.1 (HFULL.out)⟩, ?_⟩
  refine ⟨rfl, rfl, rfl, by simp [World.setCell], fun i hi hn => ?_⟩
  rw [Below.heap_setCell _ _ _ _ (fun e => hn (.inl e)), Below.heap_setCell _ _ _ _ (fun e => hn (.inl e)), Below.heap_setCell _ _ _ _ (fun e => hn (.inr e))]
  rfl
set_option maxRecDepth 100000 in
set_option maxHeartbeats 2000000 in
theorem take_full {X g n at_ x : Nat} {cnt : Int} {used : Nat → Bool} {w : World} (h : CurIn X g n at_ cnt x used w) (hT : TabAt 0 Lib.deBruijn64tab w) (hall : ∀ j, j < n → used j = true) :
    Calls Tryd.prog 61 #[.pointer (some ⟨X, 0, none⟩)] w fun e w' => e = .returned (.tuple #[.int .i64 0, .bool false]) ∧ Below w.heap.size w w' := by
  obtain ⟨f0, hsays0, hfrom0⟩ := from_ok h at_ n (by have := h.hat; have := h.hn; omega) (Nat.le_refl _)
  have hf0 : ¬ f0 < n := fun e => by
    have h1 := hsays0.1 e
    have h2 := hall f0 e
    rw [h1.2.1] at h2
    cases h2
  rw [decide_eq_false hf0] at hfrom0
  obtain ⟨f1, hsays, hfrom⟩ := from_ok h 0 at_ (by omega) (Nat.le_of_lt h.hat)
  have hf1 : ¬ f1 < at_ := fun e => by
    have h1 := hsays.1 e
    have h2 := hall f1 (Nat.lt_trans e h.hat)
    rw [h1.2.1] at h2
    cases h2
  rw [decide_eq_false hf1] at hfrom
  have HF := Lib.hid (fun m => hfrom0 (w.drewN m) (h.kept rfl rfl) hT)
  have HF2 := Lib.hid (fun m => hfrom (w.drewN m) (h.kept rfl rfl) hT)
  obtain ⟨⟨c0, c1, c2, c3, d0⟩, _⟩ := h.cells
  clear h hT hall hsays0 hfrom0 hf0 hsays hfrom hf1
  go_enter Tryd.func61, Tryd.ntmps61
  go_upto_region 1 with fail
  go_quiet ((go_at_call 78; exact Calls.quiet_of_same (HF.out _)))
  go_wp2_with (go_at_call 78; refine (HF2.out _).mono ?_; rintro e wx ⟨rfl, rfl⟩)
  go_ret2
  exact ⟨rfl, ⟨rfl, rfl, rfl, Nat.le_refl _, fun _ _ => rfl⟩⟩
theorem take_any {X g n at_ x : Nat} {cnt : Int} {used : Nat → Bool} {w : World} (h : CurIn X g n at_ cnt x used w) (hT : TabAt 0 Lib.deBruijn64tab w) (hfree : ∃ i, i < n ∧ used i = false) :
    ∃ k : Nat, Nx used at_ n k ∧ Calls Tryd.prog 61 #[.pointer (some ⟨X, 0, none⟩)] w fun e w' => e = .returned (.tuple #[.int .i64 (k : Int), .bool true]) ∧ (∃ cnt' x', CurIn X g n ((k + 1) % n) cnt' x' (updB used k true) w') ∧ Only (fun b => b = X ∨ b = g) w w' := by
  by_cases hd : ∃ i, at_ ≤ i ∧ i < n ∧ used i = false
  · obtain ⟨k, ⟨h1, h2, h3, h4⟩, hc⟩ := take_direct h hT hd
    exact ⟨k, ⟨h2, h3, .inl ⟨h1, h4⟩⟩, hc⟩
  · have hall : ∀ j, at_ ≤ j → j < n → used j = true := fun j h1 h2 => by
      cases e : used j with
      | true => rfl
      | false => exact (hd ⟨j, h1, h2, e⟩).elim
    obtain ⟨i, h1, h2⟩ := hfree
    have hia : i < at_ := by
      rcases Nat.lt_or_ge i at_ with e | e
      · exact e
      · exact (hd ⟨i, e, h1, h2⟩).elim
    obtain ⟨k, ⟨h3, h4, h5⟩, hc⟩ := take_wrapped h hT hall ⟨i, hia, h2⟩
    exact ⟨k, ⟨Nat.lt_trans h3 h.hat, h4, .inr ⟨h3, hall, h5⟩⟩, hc⟩
end Go.Proofs.YtpbknbnhljjjcaaDoor

namespace Go.Proofs.YtpbknbnhljjjcaaDoor
open Go.RowKit Go.Maps Go.Lib
set_option maxRecDepth 100000 in
set_option maxHeartbeats 2000000 in
theorem used_ok {X g n at_ x : Nat} {cnt : Int} {used : Nat → Bool} {w : World} (h : CurIn X g n at_ cnt x used w) (i : Nat) (hi : i < n) :
    Calls Tryd.prog 77 #[.pointer (some ⟨X, 0, none⟩), .int .i64 (i : Int)] w fun e w' => e = .returned (.bool (used i)) ∧ w' = w := by
  obtain ⟨⟨c0, c1, c2, c3, d0⟩, _⟩ := h.cells
  have hn64 := h.hn.2
  have hi0 : 0 ≤ (i : Int) := by omega
  have hin : (i : Int) < (n : Int) := by omega
  have hq : (i : Int) / 64 = 0 := by omega
  have hr : (i : Int) % 64 = (i : Int) := by omega
  have hr2 : (i : Int).tmod 64 = (i : Int) := by rw [Int.tmod_eq_emod_of_nonneg (by omega)]; exact hr
  have hq2 : (i : Int).tdiv 64 = 0 := by rw [Int.tdiv_eq_ediv_of_nonneg (by omega)]; exact hq
  go_enter Tryd.func77, Tryd.ntmps77
  go_wp2_with fail
  go_ret
  have hb : (bits BinOp.and IntKind.u64 ((x : Int) / 2 ^ i) 1 != 0) = used i := by
    have e2 : ((2 : Int) ^ i) = ((2 ^ i : Nat) : Int) := by norm_cast
    have e3 : (x : Int) / ((2 ^ i : Nat) : Int) = ((x / 2 ^ i : Nat) : Int) := by norm_cast
    have hlt : x / 2 ^ i < 18446744073709551616 := Nat.lt_of_le_of_lt (Nat.div_le_self _ _) h.hx
    have e4 := (and_u64 (x / 2 ^ i) 1 hlt (by omega)).1
    have e5 : ((1 : Nat) : Int) = 1 := rfl
    rw [e5] at e4
    rw [e2, e3, e4, Nat.and_one_is_mod]
    have hbi := h.bits i (by omega)
    rw [Nat.testBit_eq_decide_div_mod_eq, decide_eq_true_eq] at hbi
    cases hu : used i with
    | true =>
      have := hbi.2 ⟨hi, hu⟩
      rw [this]
      rfl
    | false =>
      have h1 : ¬ x / 2 ^ i % 2 = 1 := fun e => by
        have := (hbi.1 e).2
        rw [hu] at this
        cases this
      have h2 : x / 2 ^ i % 2 = 0 := by omega
      rw [h2]
      rfl
  exact ⟨congrArg (fun b => Ending.returned (Value.bool b)) hb, rfl⟩
set_option maxRecDepth 100000 in
set_option maxHeartbeats 2000000 in
theorem free_ok {X g n at_ x : Nat} {cnt : Int} {used : Nat → Bool} {w : World} (h : CurIn X g n at_ cnt x used w) (i : Nat) (hi : i < n) (hu : used i = true) :
    Calls Tryd.prog 60 #[.pointer (some ⟨X, 0, none⟩), .int .i64 (i : Int)] w fun e w' => e = .returned (.bool true) ∧ (∃ cnt' x', CurIn X g n at_ cnt' x' (updB used i false) w') ∧ Only (fun b => b = X ∨ b = g) w w' := by
  have HU := Lib.hid (used_ok h i hi)
  rw [hu] at HU
  obtain ⟨⟨c0, c1, c2, c3, d0⟩, fX, fg⟩ := h.cells
  have f3 := fX 3
  have HH := Lib.hid h
  have hn64 := h.hn.2
  have hi0 : 0 ≤ (i : Int) := by omega
  have hq : (i : Int) / 64 = 0 := by omega
  have hr : (i : Int) % 64 = (i : Int) := by omega
  have hr2 : (i : Int).tmod 64 = (i : Int) := by rw [Int.tmod_eq_emod_of_nonneg (by omega)]; exact hr
  have hq2 : (i : Int).tdiv 64 = 0 := by rw [Int.tdiv_eq_ediv_of_nonneg (by omega)]; exact hq
  have hk64 : i < 64 := by omega
  have hw2 := wrap_two i hk64
  have hn0 : 1 ≤ n ∧ n ≤ 64 := h.hn
  have hw0 : IntKind.i64.wrap 0 = 0 := rfl
  obtain ⟨x', hx1, hx2, hx3⟩ := andNot_bit x i hk64
  have HX := Lib.hid (And.intro hx2 hx3)
  have hne := h.ne
  have hne' : g ≠ X := fun e => hne e.symm
  have HUU := Lib.hid hu
  have HI := Lib.hid hi
  clear h fX hu hx2 hx3
  go_enter Tryd.func60, Tryd.ntmps60
  go_upto_region 3 with (go_at_call 77; refine HU.out.mono ?_; rintro e wx ⟨rfl, rfl⟩)
  refine reg_tail 13 (by kernel_rfl) (by kernel_rfl) ?_
  simp only [List.take_succ_cons, List.take_zero, List.drop_succ_cons, List.drop_zero]
  repeat still_step
  refine wpStill_nil ?_
  go_wp2_with fail
  go_ret
  have e2 : ((2 : Int) ^ i) = ((2 ^ i : Nat) : Int) := by norm_cast
  rw [e2, hx1]
  refine ⟨rfl, ⟨wrap64 (cnt - 1), x', ?_⟩, ?_⟩
  · have h1 := HH.out
    refine ⟨?_, ?_, h1.ne, h1.hn, h1.hat, HX.out.1, fun j hj => ?_⟩
    · have h2 := h1.box
      unfold curO at h2 ⊢
      simp [World.setCell, Array.getElem?_modify, h2, hne', World.drew]
    · have h2 := h1.row
      simp [World.setCell, Array.getElem?_modify, h2, hne, World.drew]
    · rw [HX.out.2 j hj, h1.bits j hj]
      unfold updB
      by_cases e : j = i
      · subst e; simp
      · simp [e]
  · refine ⟨rfl, rfl, rfl, by simp [World.setCell, World.drew], fun j hj hn => ?_⟩
    exact (Below.heap_setCell _ _ _ _ (fun e => hn (.inl e))).trans (Below.heap_setCell _ _ _ _ (fun e => hn (.inr e)))
end Go.Proofs.YtpbknbnhljjjcaaDoor

namespace Go.Proofs.YtpbknbnhljjjcaaDoor
open Go.RowKit Go.Maps Go.Lib
theorem own_le {P : Program} {kt : TypeId} {b n : Nat} {D : DataW Value} {w : World} (h : w.ownsMap P kt heldR b n D) : Maps.size D ≤ n := by
  obtain ⟨es, clock, hb, F, hle, rfl⟩ := h
  have e1 : Maps.size (DataW.map ((es.toList.map (WideElems.rg P kt heldR)).foldr DataW.insert [])) = es.size := by simp [Maps.size, length_sorted]
  rw [e1]
  exact hle
/-- Has it rested? -/
def rested (pt : PartG) (now i : Nat) : Bool := match pt.given i with
  | some u => decide (u ≤ now)
  | none => false
/-- A part where all that has rested is free. -/
def afterP (pt : PartG) (now : Nat) : PartG := { pt with used := fun i => pt.used i && !rested pt now i, given := fun i => if rested pt now i = true then none else pt.given i }
/-- What Take tells of a part. -/
def TakeSays (pt : PartG) (many : Nat) : Option Nat → Prop
  | some k => Nx pt.used pt.at_ many k
  | none => ∀ j, j < many → pt.used j = true
def takeP (pt : PartG) (many : Nat) : Option Nat → PartG
  | some k => { pt with used := updB pt.used k true, at_ := (k + 1) % many, lent := updB pt.lent k true }
  | none => pt
theorem Nx.one {used : Nat → Bool} {a n k k' : Nat} (h : Nx used a n k) (h' : Nx used a n k') : k = k' := by
  obtain ⟨h1, h2, h3⟩ := h
  obtain ⟨g1, g2, g3⟩ := h'
  have T : ∀ {x y : Nat}, x < y → used x = false → (∀ j, j < y → used j = true) → False := fun hx e hall => by rw [hall _ hx] at e; cases e
  have T2 : ∀ {x y : Nat}, a ≤ x → x < y → used x = false → (∀ j, a ≤ j → j < y → used j = true) → False := fun ha hx e hall => by rw [hall _ ha hx] at e; cases e
  rcases h3 with ⟨p1, p2⟩ | ⟨p1, p2, p3⟩ <;> rcases g3 with ⟨q1, q2⟩ | ⟨q1, q2, q3⟩
  · rcases Nat.lt_trichotomy k k' with e | e | e
    · exact (T2 p1 e h2 q2).elim
    · exact e
    · exact (T2 q1 e g2 p2).elim
  · exact (T2 p1 h1 h2 q2).elim
  · exact (T2 q1 g1 g2 p2).elim
  · rcases Nat.lt_trichotomy k k' with e | e | e
    · exact (T e h2 q3).elim
    · exact e
    · exact (T e g2 p3).elim
/-- A part's map of what was given, as data. -/
def GvIs (D : DataW Value) (gv : Nat → Option Nat) : Prop := ∀ k : Int, (Lit.int .i64 k).wf = true → (∀ z, D.atKey (.int .i64 k) (.held z) = .held ((givenV gv k).getD z)) ∧ Maps.has D (.int .i64 k) = (givenV gv k).isSome
theorem givenV_nat (gv : Nat → Option Nat) (i : Nat) : givenV gv (i : Int) = (gv i).map (fun u : Nat => Value.int .i64 (u : Int)) := by
  unfold givenV
  rw [if_pos (Int.natCast_nonneg i), Int.toNat_natCast]
  cases gv i <;> rfl
theorem GvIs.del {D : DataW Value} {gv : Nat → Option Nat} (h : GvIs D gv) (i : Nat) : GvIs (D.del (.int .i64 (i : Int))) (updN gv i none) := fun k hk => by
  by_cases e : k = (i : Int)
  · subst e
    rw [givenV_nat]
    unfold updN
    rw [if_pos rfl]
    exact ⟨fun z => atKey_del_same _, has_del_same⟩
  · have hne : (Lit.int .i64 k : Lit) ≠ .int .i64 (i : Int) := fun e2 => e (by cases e2; rfl)
    have e2 : givenV (updN gv i none) k = givenV gv k := by
      unfold givenV updN
      by_cases h0 : 0 ≤ k
      · rw [if_pos h0, if_pos h0, if_neg (by omega)]
      · rw [if_neg h0, if_neg h0]
    rw [e2]
    exact ⟨fun z => by rw [atKey_del_other hne]; exact (h k hk).1 z, by rw [has_del_other hne]; exact (h k hk).2⟩
/-- Where the loop stands. -/
structure RestI (pt : PartG) (now : Nat) (left : Lit → Bool) (gv : Nat → Option Nat) (usd : Nat → Bool) : Prop where
  on : ∀ i : Nat, left (.int .i64 (i : Int)) = true → gv i = pt.given i ∧ usd i = pt.used i
  off : ∀ i : Nat, left (.int .i64 (i : Int)) = false → gv i = (afterP pt now).given i ∧ usd i = (afterP pt now).used i
theorem same_lit (i x : Nat) : (Lit.int .i64 (i : Int)).sameKey (.int .i64 (x : Int)) = decide (i = x) := by
  simp [Lit.sameKey]
  omega
/-- What Take answers. -/
def takeN (low : Nat) : Option Nat → Int
  | some k => ((low + k : Nat) : Int)
  | none => 0
def takeE : Option Nat → Int
  | some _ => 0
  | none => 17
section
variable {S : Nat → Prop} {P MP low many rest N : Nat} {lay : PKey → Option PB} {parts : PKey → PartG} {w w' : World}
set_option maxRecDepth 100000 in
set_option maxHeartbeats 8000000 in
theorem take_there (h : PortsIn S P MP low many rest N lay parts w) (hTb : TabAt 0 Lib.deBruijn64tab w) (hT0 : 0 < w.heap.size ∧ ¬ S 0) {K : PKey} (hK : K.ok) {pb : PB} (hp : lay K = some pb) (hN : N < 1000000) (hlow : low ≤ 65536) (now : Nat) (hnow : now ≤ 1099511627776)
    (hgu : ∀ i u, (parts K).given i = some u → i < many ∧ (parts K).used i = true) (hmany : many ≤ 64) (r : Option Nat) (hr : TakeSays (afterP (parts K) now) many r) :
    Calls Tryd.prog 34 #[.pointer (some ⟨P, 0, none⟩), K.v, .int .i64 (now : Int)] w fun e w' => e = .returned (.tuple #[.int .i64 (takeN low r), .int .i64 (takeE r)]) ∧ PortsIn S P MP low many rest (N + 1) lay (updL parts K (takeP (afterP (parts K) now) many r)) w' ∧ Only S w w' := by
  obtain ⟨w0, hw0⟩ : ∃ w0, w.alloc (boxP K) = w0 := ⟨_, rfl⟩
  have hb0 : Below w.heap.size w w0 := by rw [← hw0]; exact (Below.refl _ w).alloc (Nat.le_refl _) _
  have x4 : w0.heap[w.heap.size]? = some (boxP K) := by rw [← hw0]; exact heap_alloc_new w _
  have k0 := h.below hb0
  obtain ⟨n0, hmap0, hn0⟩ := k0.map
  have l1 : ∀ n, (Instr.lookup 105 (.map (some MP)) (.agg #[.int .i64 K.p, .int .u32 K.n, .int .u32 K.a, .int .i64 K.q]) true).run Tryd.prog (w0.drewN n) = .ok (.tuple #[.pointer (some ⟨pb.q, 0, none⟩), .bool true]) (w0.drewN n) := fun n => by
    have h1 := (hmap0.block (w' := w0.drewN n) rfl).look_ok (E := kP) (z := .pointer none) Tryd.underlying105 (zeroPart _) hK
    unfold layV at h1
    rw [hp] at h1
    exact h1
  obtain ⟨pt, hpt⟩ : ∃ pt, parts K = pt := ⟨_, rfl⟩
  have kp := k0.part K pb hp
  rw [hpt] at kp hgu hr ⊢
  obtain ⟨c0, c1, c2, c3⟩ := k0.cells
  have y0 : w0.cell? ⟨w.heap.size, 0, none⟩ = some (.int .i64 K.p) := by unfold boxP at x4; simp [World.cell?, x4]
  have y1 : w0.cell? ⟨w.heap.size, 1, none⟩ = some (.int .u32 K.n) := by unfold boxP at x4; simp [World.cell?, x4]
  have y2 : w0.cell? ⟨w.heap.size, 2, none⟩ = some (.int .u32 K.a) := by unfold boxP at x4; simp [World.cell?, x4]
  have y3 : w0.cell? ⟨w.heap.size, 3, none⟩ = some (.int .i64 K.q) := by unfold boxP at x4; simp [World.cell?, x4]
  have hmem0 : ∀ j, pb.has j → j < w.heap.size ∧ S j := fun j hj => ⟨h.lows j (h.mem.2.2 K pb hp j hj), h.mem.2.2 K pb hp j hj⟩
  have hne := kp.ne
  have HNE := Lib.hid hne
  have HMEM := Lib.hid hmem0
  have HW0 := Lib.hid hw0
  have HB0 := Lib.hid hb0
  have HH := Lib.hid h
  have HP := Lib.hid hp
  have HPT := Lib.hid hpt
  have HGU := Lib.hid hgu
  have HR := Lib.hid hr
  have HT := Lib.hid hTb
  have HT0 := Lib.hid hT0
  have HNN := Lib.hid (And.intro hN (And.intro hlow (And.intro hnow hmany)))
  have HCL := Lib.hid (fun W => clock_ok now hnow W)
  have HKP := Lib.hid kp
  clear h hTb hT0 hK hp hN hlow hnow hgu hr hw0 hb0 x4 k0 hmap0 hn0 kp hmem0 hpt hmany hne
  unfold PKey.v
  go_enter Tryd.func34, Tryd.ntmps34
  go_upto_region 1 with fail
  refine wp_world w0 HW0.out ?_
  go_quiet (fail)
  obtain ⟨wa, hwa⟩ : ∃ wa, w0.drewN nq = wa := ⟨_, rfl⟩
  have ka : wa.heap = w0.heap := by rw [← hwa]; rfl
  have HBA := Lib.hid (show Below w.heap.size w wa from by rw [← hwa]; exact HB0.out.trans ⟨rfl, rfl, rfl, Nat.le_refl _, fun _ _ => rfl⟩)
  have kpa : PartIn many N pb pt wa := HKP.out.kept (fun i _ => by rw [ka])
  obtain ⟨cnt0, xw0, hcur0⟩ := kpa.cur
  obtain ⟨nG, hmg, hnG⟩ := kpa.given
  obtain ⟨D0, hown, hsz, hD0⟩ := hmg
  have p2 : wa.cell? ⟨pb.q, 2, none⟩ = some (.map (some pb.mg)) := by have := kpa.box; simp [World.cell?, this]
  have HD0 := Lib.hid (show GvIs D0 pt.given from fun k hk => hD0 k hk)
  have HCUR0 := Lib.hid hcur0
  have HKA := Lib.hid ka
  have HKPA := Lib.hid kpa
  have HNG := Lib.hid hnG
  rw [hwa]
  clear hwa ka c0 c1 c2 c3 y0 y1 y2 y3 l1 kpa hcur0 hD0 hnG hsz
  go_upto_region 6 with fail
  go_wp2_with (at_range; refine wpList_range_own _ rfl _ 108 rfl 3 3 (int_keyed int3) Tryd.underlying108 heldR pb.mg nG D0 rfl hown ?_; intro we hrg2 hg2 hs2)
  obtain ⟨rr, hrr⟩ : ∃ rr, wa.heap.size = rr := ⟨_, rfl⟩
  have HRR := Lib.hid (show w.heap.size ≤ rr from by rw [← hrr]; exact HBA.out.size)
  rw [hrr] at hrg2 ⊢
  have HRG2 := Lib.hid hrg2
  have hg2' : Below wa.heap.size wa we := ⟨hg2.os, hg2.tape, hg2.output, hg2.size, fun i hi => hg2.block i hi (fun e => by cases e)⟩
  have HBE := Lib.hid (show Below w.heap.size w we from HBA.out.trans (hg2'.mono HBA.out.size))
  have hlq : ∀ j, pb.has j → we.heap[j]? = wa.heap[j]? := fun j hj => hg2'.block j (Nat.lt_of_lt_of_le (HMEM.out j hj).1 HBA.out.size)
  have HCE := Lib.hid (HCUR0.out.kept (w' := we) (hlq _ (.inr (.inl rfl))) (hlq _ (.inr (.inr (.inl rfl)))))
  have HQE := Lib.hid (show we.heap[pb.q]? = some (.cells #[.pointer (some ⟨pb.x, 0, none⟩), .map (some pb.ml), .map (some pb.mg)] 140 (0, 0)) from (hlq _ (.inl rfl)).trans HKPA.out.box)
  clear hown p2 hrg2 hg2 hg2' hs2 hrr hlq HCUR0
  go_frame
  go_loopw [12, 13] (fun _ _ wr => ∃ (gv : Nat → Option Nat) (usd : Nat → Bool) (D : DataW Value) (left : Lit → Bool) (cnt : Nat) (cc : Int) (xw : Nat), wr.ranges Tryd.prog 3 heldR pb.mg rr nG D left cnt ∧ GvIs D gv ∧ CurIn pb.x pb.g many pt.at_ cc xw usd wr ∧ RestI pt now left gv usd ∧ Only (fun b => b = pb.x ∨ b = pb.g ∨ b = pb.mg) w wr ∧ wr.heap[pb.q]? = some (.cells #[.pointer (some ⟨pb.x, 0, none⟩), .map (some pb.ml), .map (some pb.mg)] 140 (0, 0)) ∧ w.heap.size ≤ wr.heap.size) (fun _ _ wr => wr.rangeLeft pb.mg rr)
  case atStart =>
    refine ⟨pt.given, pt.used, D0, _, _, cnt0, xw0, HRG2.out, HD0.out, HCE.out, ⟨fun i _ => ⟨rfl, rfl⟩, fun i hi => ?_⟩, Only.of_below HBE.out, HQE.out, HBE.out.size⟩
    have hno : pt.given i = none := by
      cases hgi : pt.given i with
      | none => rfl
      | some u =>
        have h1 := HGU.out i u hgi
        have hwf : (Lit.int .i64 (i : Int)).wf = true := by
          have := HNN.out.2.2.2
          simp [Lit.wf, IntKind.min, IntKind.max, IntKind.signed, IntKind.bits]
          omega
        have h2 := (HD0.out (i : Int) hwf).2
        rw [givenV_nat, hgi] at h2
        have h3 : Maps.has D0 (.int .i64 (i : Int)) = false := hi
        rw [h3] at h2
        cases h2
    have hrs : rested pt now i = false := by unfold rested; rw [hno]
    unfold afterP
    simp [hrs]
  case round =>
    obtain ⟨gv, usd, D, left, cnt, cc, xw, hrg, hgi, hcu, hri, hon, hq, hsz⟩ := hrel
    have HRG := Lib.hid hrg
    have HGI := Lib.hid hgi
    have HCU := Lib.hid hcu
    have HRI := Lib.hid hri
    have HON := Lib.hid hon
    have HQ := Lib.hid hq
    have HSZ := Lib.hid hsz
    clear hrg hgi hcu hri hon hq hsz
    go_wp2_with (at_next; refine wpList_next_ranges wr rfl (.tmp 50) rfl 3 (int_keyed int3) heldR (Value.int .i64) (id : Value → Value) (fun key kl hk => by obtain ⟨x, rfl, _⟩ := Maps.keyOf_int_inv int3 hk; exact ⟨x, rfl⟩) heldR_inv' pb.mg rr nG D left cnt (by rfl) HRG.out ?_ ?_)
    · intro _ hnone
      have hus : usd = (afterP pt now).used := funext (fun i => (HRI.out.off i (hnone _)).2)
      have hgv : gv = (afterP pt now).given := funext (fun i => (HRI.out.off i (hnone _)).1)
      subst hus hgv
      have hT : TabAt 0 Lib.deBruijn64tab wr := tab_keep HT.out (HON.out.block 0 HT0.out.1 (fun e => HT0.out.2 (by
        rcases e with e | e | e
        · rw [e]; exact (HMEM.out _ (.inr (.inl rfl))).2
        · rw [e]; exact (HMEM.out _ (.inr (.inr (.inl rfl)))).2
        · rw [e]; exact (HMEM.out _ (.inr (.inr (.inr (.inr rfl))))).2)))
      have hmgN : MapG kI pb.mg (Maps.size D) (givenV (afterP pt now).given) wr ∧ Maps.size D ≤ N := ⟨⟨D, own_tight HRG.out.owns, rfl, fun k hk => HGI.out k hk⟩, Nat.le_trans (own_le HRG.out.owns) HNG.out⟩
      have kpw : PartIn many N pb pt w := by rw [← HPT.out]; exact HH.out.part K pb HP.out
      have q0 : wr.cell? ⟨pb.q, 0, none⟩ = some (.pointer (some ⟨pb.x, 0, none⟩)) := by have := HQ.out; simp [World.cell?, this]
      have HFIN := Lib.hid (show ∀ (wf : World) (pt' : PartG), PartIn many (N + 1) pb pt' wf → Only (fun b => b = pb.x ∨ b = pb.g ∨ b = pb.mg ∨ b = pb.ml) w wf → PortsIn S P MP low many rest (N + 1) lay (updL parts K pt') wf ∧ Only S w wf from fun wf pt' k o => by
        have hin : ∀ b, (b = pb.x ∨ b = pb.g ∨ b = pb.mg ∨ b = pb.ml) → pb.has b := fun b e => by
          rcases e with e | e | e | e
          · exact .inr (.inl e)
          · exact .inr (.inr (.inl e))
          · exact .inr (.inr (.inr (.inr e)))
          · exact .inr (.inr (.inr (.inl e)))
        exact ⟨HH.out.turn (by omega) HP.out (fun b hS hn => o.block b (HH.out.lows b hS) (fun e => hn (hin b e))) k o.size, ⟨o.os, o.tape, o.output, o.size, fun j hj hn => o.block j hj (fun e => hn (HMEM.out j (hin j e)).2)⟩⟩)
      have hlq := (HMEM.out _ (.inl rfl)).1
      have hlml := (HMEM.out _ (.inr (.inr (.inr (.inl rfl))))).1
      have hlmg := (HMEM.out _ (.inr (.inr (.inr (.inr rfl))))).1
      have hlx := (HMEM.out _ (.inr (.inl rfl))).1
      have hlg := (HMEM.out _ (.inr (.inr (.inl rfl)))).1
      have hPl := HH.out.lows P HH.out.mem.1
      have hPn := (HH.out.off.2 K pb HP.out).1
      have hne := HNE.out
      have hszr := HSZ.out
      cases r with
      | none =>
        have hfull := take_full HCU.out hT HR.out
        have HTK := Lib.hid (hfull.mono (fun e w' k => (⟨k.1, HFIN.out w' (afterP pt now) ⟨(k.2.block pb.q (Nat.lt_of_lt_of_le hlq hszr)).trans HQ.out, ⟨cc, xw, HCU.out.kept (k.2.block _ (Nat.lt_of_lt_of_le hlx hszr)) (k.2.block _ (Nat.lt_of_lt_of_le hlg hszr))⟩, by
            obtain ⟨n1, m1, m2⟩ := kpw.lent
            exact ⟨n1, m1.block ((k.2.block _ (Nat.lt_of_lt_of_le hlml hszr)).trans (HON.out.block _ hlml (fun e => by rcases e with e | e | e; exact hne.2.1.1 e.symm; exact hne.2.1.2.2.1 e.symm; exact hne.2.2 e))), by omega⟩, ⟨_, hmgN.1.block (k.2.block _ (Nat.lt_of_lt_of_le hlmg hszr)), by have := hmgN.2; omega⟩, hne⟩ ⟨k.2.os.trans HON.out.os, k.2.tape.trans HON.out.tape, k.2.output.trans HON.out.output, Nat.le_trans HON.out.size k.2.size, fun j hj hn => (k.2.block j (Nat.lt_of_lt_of_le hj hszr)).trans (HON.out.block j hj (fun e => hn (by rcases e with e | e | e; exact .inl e; exact .inr (.inl e); exact .inr (.inr (.inl e)))))⟩⟩ : e = .returned (.tuple #[.int .i64 0, .bool false]) ∧ PortsIn S P MP low many rest (N + 1) lay (updL parts K (afterP pt now)) w' ∧ Only S w w')))
        clear hT hmgN kpw hlq hlml hlmg hlx hlg hPl hPn hne hszr hfull
        go_wp2_with (go_at_call 61; refine HTK.out.mono ?_; rintro e wf ⟨rfl, hfin⟩; have HF := Lib.hid hfin; clear hfin)
        go_ret2
        exact ⟨rfl, HF.out⟩
      | some k =>
        have hk : Nx (afterP pt now).used pt.at_ many k := HR.out
        obtain ⟨k', hn', hc⟩ := take_any HCU.out hT ⟨k, hk.1, hk.2.1⟩
        obtain rfl : k = k' := Nx.one hk hn'
        have HTK := Lib.hid (show Calls Tryd.prog 61 #[.pointer (some ⟨pb.x, 0, none⟩)] wr fun e wf => e = .returned (.tuple #[.int .i64 (k : Int), .bool true]) ∧ wf.cell? ⟨pb.q, 1, none⟩ = some (.map (some pb.ml)) ∧ ∃ wg, (Instr.mapUpdate 138 (.map (some pb.ml)) (.int .i64 (k : Int)) (.agg #[])).run Tryd.prog wf = .ok () wg ∧ wg.cell? ⟨P, 0, none⟩ = some (.int .i64 (low : Int)) ∧ PortsIn S P MP low many rest (N + 1) lay (updL parts K (takeP (afterP pt now) many (some k))) wg ∧ Only S w wg from by
          refine hc.mono ?_
          rintro e wf ⟨rfl, ⟨cc', xw', hcf⟩, ho⟩
          have hbl : ∀ i, i < w.heap.size → i ≠ pb.x → i ≠ pb.g → wf.heap[i]? = wr.heap[i]? := fun i h1 h2 h3 => ho.block i (Nat.lt_of_lt_of_le h1 hszr) (fun e => by rcases e with e | e; exact h2 e; exact h3 e)
          have hof := ho.size
          obtain ⟨n1, m1, m2⟩ := kpw.lent
          have m7 : MapG kI pb.ml n1 (lentV pt.lent) wf := m1.block ((hbl _ hlml (fun e => hne.2.1.1 e.symm) (fun e => hne.2.1.2.2.1 e.symm)).trans (HON.out.block _ hlml (fun e => by rcases e with e | e | e; exact hne.2.1.1 e.symm; exact hne.2.1.2.2.1 e.symm; exact hne.2.2 e)))
          obtain ⟨wg, hst2, hmg2, hgg⟩ := m7.store (E := kI) Tryd.underlying138 (by unfold maxLen; have := HNN.out.1; omega) (k := (k : Int)) (show (Lit.int .i64 (k : Int)).wf = true from by
            have := HNN.out.2.2.2
            have := hk.1
            simp [Lit.wf, IntKind.min, IntKind.max, IntKind.signed, IntKind.bits]
            omega) (.agg #[])
          have hfg : ∀ i, i < w.heap.size → i ≠ pb.ml → wg.heap[i]? = wf.heap[i]? := fun i h1 h2 => hgg.block i (Nat.lt_of_lt_of_le h1 (Nat.le_trans hszr hof)) (fun e => h2 (Option.some.inj e))
          have hsg := hgg.size
          have honr := HON.out
          have hwg : ∀ i, i < w.heap.size → i ≠ pb.x → i ≠ pb.g → i ≠ pb.mg → i ≠ pb.ml → wg.heap[i]? = w.heap[i]? := fun i h1 h2 h3 h4 h5 => (hfg i h1 h5).trans ((hbl i h1 h2 h3).trans (honr.block i h1 (fun e => by rcases e with e | e | e; exact h2 e; exact h3 e; exact h4 e)))
          have qf : wf.heap[pb.q]? = some (.cells #[.pointer (some ⟨pb.x, 0, none⟩), .map (some pb.ml), .map (some pb.mg)] 140 (0, 0)) := (hbl _ hlq hne.1.1 hne.1.2.1).trans HQ.out
          have pg : wg.heap[P]? = w.heap[P]? := hwg P hPl (fun e => hPn (.inr (.inl e))) (fun e => hPn (.inr (.inr (.inl e)))) (fun e => hPn (.inr (.inr (.inr (.inr e))))) (fun e => hPn (.inr (.inr (.inr (.inl e)))))
          have pb0 := pg.trans HH.out.box
          refine ⟨rfl, by simp [World.cell?, qf], wg, hst2, by simp [World.cell?, pb0], HFIN.out wg _ ⟨(hfg _ hlq hne.1.2.2.1).trans qf, ⟨cc', xw', ?_⟩, ⟨_, hmg2.ext (fun j _ => ?_), by split <;> omega⟩, ⟨_, hmgN.1.block ((hfg _ hlmg (fun e => hne.2.2 e.symm)).trans (hbl _ hlmg (fun e => hne.2.1.2.1 e.symm) (fun e => hne.2.1.2.2.2 e.symm))), by have := hmgN.2; omega⟩, hne⟩ ⟨hgg.os.trans (ho.os.trans honr.os), hgg.tape.trans (ho.tape.trans honr.tape), hgg.output.trans (ho.output.trans honr.output), Nat.le_trans honr.size (Nat.le_trans hof hsg), fun j hj hn => hwg j hj (fun e => hn (.inl e)) (fun e => hn (.inr (.inl e))) (fun e => hn (.inr (.inr (.inl e)))) (fun e => hn (.inr (.inr (.inr e))))⟩⟩
          · exact hcf.kept (hfg _ hlx hne.2.1.1) (hfg _ hlg hne.2.1.2.2.1)
          · show (if j = (k : Int) then some (.agg #[]) else lentV pt.lent j) = lentV (updB pt.lent k true) j
            unfold lentV updB
            by_cases e : j = (k : Int)
            · subst e; simp
            · rw [if_neg e]
              by_cases h0 : 0 ≤ j
              · have : ¬ j.toNat = k := by omega
                simp [h0, this]
              · simp [h0])
        have hk64 := hk.1
        have hm64 := HNN.out.2.2.2
        have hlow2 := HNN.out.2.1
        have HCST := Lib.hid (show ((low + k : Nat) : Int) = (low : Int) + (k : Int) from by omega)
        have HADD := Lib.hid (show wrap64 ((low : Int) + (k : Int)) = (low : Int) + (k : Int) from by unfold wrap64; omega)
        clear hT hmgN kpw hlq hlml hlmg hlx hlg hPl hPn hne hszr hk hn' hc hm64 hlow2 hk64
        go_wp2_with (go_at_call 61; refine HTK.out.mono ?_; rintro e wf ⟨rfl, p1, wg, hst3, p0g, hfin⟩; have HF := Lib.hid hfin; clear hfin)
        go_ret2
        refine ⟨?_, HF.out⟩
        show Ending.returned (.tuple #[.int .i64 (wrap64 ((low : Int) + (k : Int))), .int .i64 0]) = .returned (.tuple #[.int .i64 ((low + k : Nat) : Int), .int .i64 0])
        rw [HADD.out, HCST.out]
    · intro x v kl y1 y2 w3 cnt1 hkey hlk hRv hat hrg3 hlt3 hg3 hs3 hen
      obtain ⟨x', ex, rfl, hwx⟩ := Maps.keyOf_int_inv int3 hkey
      cases ex
      obtain ⟨hd1, _⟩ := HGI.out x hwx
      have hsome : ∃ i u : Nat, x = (i : Int) ∧ gv i = some u ∧ v = .int .i64 (u : Int) := by
        cases hgv : givenV gv x with
        | none =>
          have h1 := (hd1 (.int .i64 0)).symm.trans (hat (.held (.int .i64 0)))
          have h2 := (hd1 (.int .i64 1)).symm.trans (hat (.held (.int .i64 1)))
          rw [hgv] at h1 h2
          have h3 := h1.trans h2.symm
          cases h3
        | some v0 =>
          unfold givenV at hgv
          by_cases h0 : 0 ≤ x
          · rw [if_pos h0] at hgv
            cases hgx : gv x.toNat with
            | none => rw [hgx] at hgv; cases hgv
            | some u =>
              refine ⟨x.toNat, u, by omega, hgx, ?_⟩
              have h1 := hat (.held v)
              have h2 := hd1 v
              unfold givenV at h2
              rw [if_pos h0, hgx] at h2
              have h3 : D.atKey (.int .i64 x) (.held v) = .held (Value.int .i64 (u : Int)) := h2
              rw [h3] at h1
              cases hRv
              have h1 : DataW.held (Value.int .i64 (u : Int)) = DataW.held v := h1
              cases h1
              rfl
          · rw [if_neg h0] at hgv
            cases hgv
      obtain ⟨i, u, rfl, hgi, rfl⟩ := hsome
      obtain ⟨e1, e2⟩ := HRI.out.on i hlk
      rw [hgi] at e1
      obtain ⟨him, hiu⟩ := HGU.out i u e1.symm
      rw [hiu] at e2
      have hen : (Instr.entry (.pointer (some ⟨rr, 0, none⟩))).run Tryd.prog w3 = .ok (.tuple #[.int .i64 (i : Int), .int .i64 (u : Int)]) w3 := hen
      have hkeep3 : ∀ j, j < w.heap.size → w3.heap[j]? = wr.heap[j]? := fun j hj => hg3.block j (Nat.lt_of_lt_of_le hj HSZ.out) (fun e => by have := Option.some.inj e; have := HRR.out; omega)
      have HC3 := Lib.hid (HCU.out.kept (w' := w3) (hkeep3 _ (HMEM.out _ (.inr (.inl rfl))).1) (hkeep3 _ (HMEM.out _ (.inr (.inr (.inl rfl)))).1))
      have HQ3 := Lib.hid ((hkeep3 pb.q (HMEM.out _ (.inl rfl)).1).trans HQ.out)
      have HON3 := Lib.hid (show Only (fun b => b = pb.x ∨ b = pb.g ∨ b = pb.mg) w w3 from ⟨hg3.os.trans HON.out.os, hg3.tape.trans HON.out.tape, hg3.output.trans HON.out.output, Nat.le_trans HON.out.size hg3.size, fun j hj hn => (hkeep3 j hj).trans (HON.out.block j hj hn)⟩)
      have HL3 := Lib.hid hlt3
      have HR3 := Lib.hid hrg3
      have HSZ3 := Lib.hid (Nat.le_trans HSZ.out hg3.size)
      have HI := Lib.hid (And.intro him (And.intro hgi (And.intro e1 e2)))
      have HWX := Lib.hid hwx
      by_cases hun : u ≤ now
      · have hunI : (u : Int) ≤ (now : Int) := by omega
        have hrs : rested pt now i = true := by unfold rested; rw [← e1]; exact decide_eq_true hun
        obtain ⟨w4, cnt2, hrun, hr4, hle4, ht4⟩ := hrg3.drop (int_keyed int3) Tryd.underlying108 hkey 0
        rw [Maps.strike_twice] at hr4
        have hg4 := ht4.grown
        have hk4 : ∀ j, j < w.heap.size → j ≠ pb.mg → w4.heap[j]? = w3.heap[j]? := fun j hj hne => hg4.block j (Nat.lt_of_lt_of_le hj HSZ3.out) (fun e => hne (Option.some.inj e))
        have hne := HNE.out
        have c4 := HC3.out.kept (w' := w4) (hk4 _ (HMEM.out _ (.inr (.inl rfl))).1 hne.2.1.2.1) (hk4 _ (HMEM.out _ (.inr (.inr (.inl rfl)))).1 hne.2.1.2.2.2)
        have q4 := (hk4 pb.q (HMEM.out _ (.inl rfl)).1 hne.1.2.2.2).trans HQ3.out
        have hrun : (Builtin.delete_ #[108, 3] 0 #[.map (some pb.mg), .int .i64 (i : Int)]).run Tryd.prog w3 = .ok (.tuple #[]) w4 := hrun
        have HFR := Lib.hid (free_ok c4 i him e2)
        have d2 : w3.cell? ⟨pb.q, 2, none⟩ = some (.map (some pb.mg)) := by have := HQ3.out; simp [World.cell?, this]
        have d0 : w4.cell? ⟨pb.q, 0, none⟩ = some (.pointer (some ⟨pb.x, 0, none⟩)) := by simp [World.cell?, q4]
        have HR4 := Lib.hid hr4
        have HQ4 := Lib.hid q4
        have HON4 := Lib.hid (show Only (fun b => b = pb.x ∨ b = pb.g ∨ b = pb.mg) w w4 from ⟨hg4.os.trans HON3.out.os, hg4.tape.trans HON3.out.tape, hg4.output.trans HON3.out.output, Nat.le_trans HON3.out.size hg4.size, fun j hj hn => (hk4 j hj (fun e => hn (.inr (.inr e)))).trans (HON3.out.block j hj hn)⟩)
        have HLE4 := Lib.hid hle4
        have HRS := Lib.hid hrs
        have HSZ4 := Lib.hid (Nat.le_trans HSZ3.out hg4.size)
        clear hkey hlk hRv hat hrg3 hlt3 hg3 hs3 hd1 hgi e1 e2 him hiu hkeep3 hwx hr4 hle4 ht4 hg4 hk4 hne c4 q4 hrs
        go_wp2_with (first
          | (go_at_call 59; refine (HCL.out _).mono ?_; rintro e wx ⟨rfl, rfl⟩)
          | (go_at_call 60; refine HFR.out.mono ?_; rintro e w5 ⟨rfl, hc5, ho5⟩; have HC5 := Lib.hid hc5; have HO5 := Lib.hid ho5; clear hc5 ho5))
        go_roundw
        case rel =>
          obtain ⟨cc5, xw5, hc5⟩ := HC5.out
          have hk5 : ∀ j, j < w4.heap.size → j ≠ pb.x → j ≠ pb.g → w5.heap[j]? = w4.heap[j]? := fun j hj h1 h2 => HO5.out.block j hj (fun e => by rcases e with e | e; exact h1 e; exact h2 e)
          have hrrl := HR4.out.lt
          have hmgl := Nat.lt_of_lt_of_le (HMEM.out _ (.inr (.inr (.inr (.inr rfl))))).1 HSZ4.out
          have hne := HNE.out
          have hxr : rr ≠ pb.x := fun e => by have := (HMEM.out pb.x (.inr (.inl rfl))).1; have := HRR.out; omega
          have hgr : rr ≠ pb.g := fun e => by have := (HMEM.out pb.g (.inr (.inr (.inl rfl)))).1; have := HRR.out; omega
          have hr5 : w5.ranges Tryd.prog 3 heldR pb.mg rr nG (D.del (.int .i64 (i : Int))) (fun z => left z && !z.sameKey (.int .i64 (i : Int))) cnt2 := by
            obtain ⟨es, clock, since, seen, c0, k1, k2⟩ := HR4.out
            exact ⟨es, clock, since, seen, c0, (hk5 _ hmgl (fun e => hne.2.1.2.1 e.symm) (fun e => hne.2.1.2.2.2 e.symm)).trans k1, k2.1, k2.2.1, k2.2.2.1, (hk5 _ hrrl hxr hgr).trans k2.2.2.2.1, k2.2.2.2.2⟩
          refine ⟨updN gv i none, updB usd i false, D.del (.int .i64 (i : Int)), _, cnt2, cc5, xw5, hr5, HGI.out.del i, hc5, ⟨fun j hj => ?_, fun j hj => ?_⟩, ⟨HO5.out.os.trans HON4.out.os, HO5.out.tape.trans HON4.out.tape, HO5.out.output.trans HON4.out.output, Nat.le_trans HON4.out.size HO5.out.size, fun j hj hn => (hk5 j (Nat.lt_of_lt_of_le hj HSZ4.out) (fun e => hn (.inl e)) (fun e => hn (.inr (.inl e)))).trans (HON4.out.block j hj hn)⟩, (hk5 pb.q (Nat.lt_of_lt_of_le (HMEM.out _ (.inl rfl)).1 HSZ4.out) hne.1.1 hne.1.2.1).trans HQ4.out, Nat.le_trans HSZ4.out HO5.out.size⟩
          · simp only [Bool.and_eq_true, same_lit, Bool.not_eq_true', decide_eq_false_iff_not] at hj
            have := HRI.out.on j hj.1
            unfold updN updB
            rw [if_neg hj.2, if_neg hj.2]
            exact this
          · by_cases e : j = i
            · subst e
              unfold updN updB afterP
              simp [HRS.out]
            · have h1 : left (.int .i64 (j : Int)) = false := by
                simp only [same_lit, Bool.and_eq_false_iff, Bool.not_eq_false', decide_eq_true_eq] at hj
                rcases hj with h2 | h2
                · exact h2
                · exact (e h2).elim
              have := HRI.out.off j h1
              unfold updN updB
              rw [if_neg e, if_neg e]
              exact this
        case measure =>
          have hk5 : ∀ j, j < w4.heap.size → j ≠ pb.x → j ≠ pb.g → w5.heap[j]? = w4.heap[j]? := fun j hj h1 h2 => HO5.out.block j hj (fun e => by rcases e with e | e; exact h1 e; exact h2 e)
          have hrrl := HR4.out.lt
          have hmgl := Nat.lt_of_lt_of_le (HMEM.out _ (.inr (.inr (.inr (.inr rfl))))).1 HSZ4.out
          have hne := HNE.out
          have hxr : rr ≠ pb.x := fun e => by have := (HMEM.out pb.x (.inr (.inl rfl))).1; have := HRR.out; omega
          have hgr : rr ≠ pb.g := fun e => by have := (HMEM.out pb.g (.inr (.inr (.inl rfl)))).1; have := HRR.out; omega
          have e5 : w5.rangeLeft pb.mg rr = w4.rangeLeft pb.mg rr := by
            unfold World.rangeLeft
            rw [hk5 _ hmgl (fun e => hne.2.1.2.1 e.symm) (fun e => hne.2.1.2.2.2 e.symm), hk5 _ hrrl hxr hgr]
          rw [e5, HR4.out.left_eq, HRG.out.left_eq]
          exact Nat.lt_of_le_of_lt HLE4.out HL3.out
      · have hunI : ¬ (u : Int) ≤ (now : Int) := by omega
        have hrs : rested pt now i = false := by unfold rested; rw [← e1]; exact decide_eq_false hun
        have HRS := Lib.hid hrs
        clear hkey hlk hRv hat hrg3 hlt3 hg3 hs3 hd1 hgi e1 e2 him hiu hkeep3 hwx hrs
        go_wp2_with (go_at_call 59; refine (HCL.out _).mono ?_; rintro e wx ⟨rfl, rfl⟩)
        go_roundw
        case rel =>
          refine ⟨gv, usd, D, _, cnt1, cc, xw, HR3.out, HGI.out, HC3.out, ⟨fun j hj => ?_, fun j hj => ?_⟩, HON3.out, HQ3.out, HSZ3.out⟩
          · simp only [Bool.and_eq_true] at hj
            exact HRI.out.on j hj.1
          · by_cases e : j = i
            · subst e
              obtain ⟨_, g2, g3, g4⟩ := HI.out
              unfold afterP
              simp only [HRS.out, g2, g4, Bool.not_false, Bool.and_true]
              exact ⟨g3, (HGU.out j u g3.symm).2.symm⟩
            · have h1 : left (.int .i64 (j : Int)) = false := by
                simp only [same_lit, Bool.and_eq_false_iff, Bool.not_eq_false', decide_eq_true_eq] at hj
                rcases hj with h2 | h2
                · exact h2
                · exact (e h2).elim
              exact HRI.out.off j h1
        case measure =>
          rw [HR3.out.left_eq, HRG.out.left_eq]
          exact HL3.out
end
end Go.Proofs.YtpbknbnhljjjcaaDoor
