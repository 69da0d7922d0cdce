import Derived.Test.YtbahcpejippcjaaDoorV4
namespace Go.Proofs.YtbahcpejippcjaaDoor
open Go.RowKit Go.Shelf

/-- What the program's Add and the reference's answer, and what is served then. -/
structure BothAdd (f : Nat → Svc) (s : Svc) (a e : Int) (f' : Nat → Svc) : Prop where
  prog : ∀ {N T M : Nat} {w : World}, N < 1000000 → SvcTab N T M f w →
    Calls Tryd.prog 18 #[.pointer (some ⟨T, 0, none⟩), s.val] w fun x w' => x = .returned (.tuple #[.int .i64 a, .int .i64 e]) ∧ SvcTab (N + 1) T M f' w' ∧ Two T M w w'
  ref : ∀ {base X : Nat} {w : World}, RefIs base X (listOf f) w →
    Calls Tryd.prog 25 #[.pointer (some ⟨X, 0, none⟩), s.val] w fun x w' => x = .returned (.tuple #[.int .i64 a, .int .i64 e]) ∧ RefIs base X (listOf f') w' ∧ Two X X w w'
theorem SvcTab.more {N T M : Nat} {f : Nat → Svc} {W : World} (h : SvcTab N T M f W) : SvcTab (N + 1) T M f W := by
  obtain ⟨n, g, h1, h2, h3⟩ := h.map
  exact ⟨h.tab, h.ne, ⟨n, g, by omega, h2, h3⟩, h.good⟩
theorem RefIs.below {base X : Nat} {l : List (Nat × Svc)} {W W' : World} (h : RefIs base X l W) (hb : Below W.heap.size W W') : RefIs base X l W' := by
  obtain ⟨A, c, h⟩ := h
  exact ⟨A, c, h.below hb⟩
theorem RefIs.two {base X T M : Nat} {l : List (Nat × Svc)} {W W' : World} (h : RefIs base X l W) (h2 : Two T M W W') (hT : T < base ∧ T ≠ X) (hM : M < base ∧ M ≠ X) : RefIs base X l W' := by
  obtain ⟨A, c, h⟩ := h
  exact ⟨A, c, h.two h2 hT hM⟩
theorem SvcTab.two {N T M X : Nat} {f : Nat → Svc} {W W' : World} (h : SvcTab N T M f W) (h2 : Two X X W W') (hT : T ≠ X) (hM : M ≠ X) : SvcTab N T M f W' :=
  h.kept h2.size (h2.block T h.tab.low hT hT) (h2.block M h.lowM hM hM)
open Classical in
theorem both_add (f : Nat → Svc) (hu : ∀ p v q k j, Has f p v q k → Has f p v q j → j = k) (s : Svc) (hw : (Lit.int .i64 s.proto).wf = true ∧ (Lit.int .i64 s.port).wf = true ∧ s.ok) : ∃ a e f', BothAdd f s a e f' := by
  cases hr : rightB s
  · refine ⟨0, 1, f, fun {N T M w} hN h => ?_, fun {base X w} h => ?_⟩
    · refine (tadd_bad h s hw hr).mono ?_
      rintro x w' ⟨hx, hb⟩
      exact ⟨hx, h.more.below hb, Two.of hb⟩
    · refine (ref25_bad s hr).mono ?_
      rintro x w' ⟨hx, hb⟩
      exact ⟨hx, h.below hb, Two.of hb⟩
  · by_cases hh : ∃ k, Has f s.proto s.vip s.port k
    · obtain ⟨k, hk⟩ := hh
      refine ⟨0, 20, f, fun {N T M w} hN h => ?_, fun {base X w} h => ?_⟩
      · refine (tadd_there h s hw.2.2 hr hk).mono ?_
        rintro x w' ⟨hx, hb⟩
        exact ⟨hx, h.more.below hb, Two.of hb⟩
      · have h0 := h
        obtain ⟨A, c, h1⟩ := h0
        refine (ref25_there h1 (by have := listOf_len f; omega) s hr (find_has_some hk (fun j hj => hu _ _ _ _ _ hk hj))).mono ?_
        rintro x w' ⟨hx, hb⟩
        exact ⟨hx, h.below hb, Two.of hb⟩
    · have hn : ∀ k, ¬ Has f s.proto s.vip s.port k := fun k hk => hh ⟨k, hk⟩
      rcases first_free f 64 with hf | ⟨y, h1, h2, h3⟩
      · refine ⟨0, 16, f, fun {N T M w} hN h => ?_, fun {base X w} h => ?_⟩
        · refine (tadd_full h s hw.2.2 hr hn hf).mono ?_
          rintro x w' ⟨hx, hb⟩
          exact ⟨hx, h.more.below hb, Two.of hb⟩
        · have h0 := h
          obtain ⟨A, c, h1⟩ := h0
          refine (ref25_full h1 (full_len hf) s hr (find_has_none hn)).mono ?_
          rintro x w' ⟨hx, hb⟩
          exact ⟨hx, h.below hb, Two.of hb⟩
      · refine ⟨(y : Int) + 1, 0, upd f (y + 1) s, fun {N T M w} hN h => ?_, fun {base X w} h => ?_⟩
        · refine (tadd_ok (y := y + 1) h hN s hw.2.2 hr hn (by omega) h1 h2 (fun k a b => h3 k a (by omega))).mono ?_
          rintro x w' ⟨hx, hb, hc⟩
          exact ⟨by rw [hx]; rfl, hb, hc⟩
        · have h0 := h
          obtain ⟨A, c, h4⟩ := h0
          refine (ref25_ok h4 (not_full_len h1 h2 h3) s hr (find_has_none hn) (gap_of h1 h2 h3)).mono ?_
          rintro x w' ⟨hx, hb, hc⟩
          rw [ins_of h1 h2 h3 (right_proto hr)] at hb
          exact ⟨hx, hb, hc⟩
structure BothRem (f : Nat → Svc) (id : Int) (b : Bool) (f' : Nat → Svc) : Prop where
  prog : ∀ {N T M : Nat} {w : World}, SvcTab N T M f w →
    Calls Tryd.prog 20 #[.pointer (some ⟨T, 0, none⟩), .int .i64 id] w fun x w' => x = .returned (.bool b) ∧ SvcTab (N + 1) T M f' w' ∧ Two T M w w'
  ref : ∀ {base X : Nat} {w : World}, RefIs base X (listOf f) w →
    Calls Tryd.prog 21 #[.pointer (some ⟨X, 0, none⟩), .int .i64 id] w fun x w' => x = .returned (.bool b) ∧ RefIs base X (listOf f') w' ∧ Two X X w w'
open Classical in
theorem both_rem (f : Nat → Svc) (id : Int) : ∃ b f', BothRem f id b f' := by
  by_cases h : there f id
  · obtain ⟨k, rfl⟩ : ∃ k : Nat, id = (k : Int) := ⟨id.toNat, by have := h.1; omega⟩
    obtain ⟨h1, h2, h3⟩ := h
    rw [Int.toNat_natCast] at h3
    refine ⟨true, upd f k zeroS, fun {N T M w} ht => ?_, fun {base X w} hr => ?_⟩
    · refine (trem_yes ht (by omega) (by omega) h3).mono ?_
      rintro x w' ⟨hx, hb, hc⟩
      exact ⟨hx, hb.more, hc⟩
    · obtain ⟨A, c, hr⟩ := hr
      refine (ref21 hr (by have := listOf_len f; omega) (k : Int)).mono ?_
      rintro x w' ⟨hx, hb, hc⟩
      have hs := rem_shorter (f := f) (k := k) (by omega) (by omega) h3
      rw [rem_is] at hb
      exact ⟨by rw [hx, decide_eq_true hs], hb, hc⟩
  · refine ⟨false, f, fun {N T M w} ht => ?_, fun {base X w} hr => ?_⟩
    · refine (remove_no ht.tab h).mono ?_
      rintro x w' ⟨hx, hb⟩
      exact ⟨hx, ht.more.below hb, Two.of hb⟩
    · obtain ⟨A, c, hr⟩ := hr
      refine (ref21 hr (by have := listOf_len f; omega) id).mono ?_
      rintro x w' ⟨hx, hb, hc⟩
      rw [rem_not h] at hb hx
      exact ⟨by rw [hx]; simp, hb, hc⟩
structure BothGet (f : Nat → Svc) (id : Int) (s : Svc) (b : Bool) : Prop where
  prog : ∀ {N T M : Nat} {w : World}, SvcTab N T M f w →
    Calls Tryd.prog 22 #[.pointer (some ⟨T, 0, none⟩), .int .i64 id] w fun x w' => x = .returned (.tuple #[.agg #[.int .i64 s.proto, .int .u32 (s.vip : Int), .int .i64 s.port, .bool s.dsr, .int .u32 (s.nat : Int)], .bool b]) ∧ Below w.heap.size w w'
  ref : ∀ {base X : Nat} {w : World}, RefIs base X (listOf f) w →
    Calls Tryd.prog 23 #[.pointer (some ⟨X, 0, none⟩), .int .i64 id] w fun x w' => x = .returned (.tuple #[.agg #[.int .i64 s.proto, .int .u32 (s.vip : Int), .int .i64 s.port, .bool s.dsr, .int .u32 (s.nat : Int)], .bool b]) ∧ Below w.heap.size w w'
open Classical in
theorem both_get (f : Nat → Svc) (id : Int) : ∃ s b, BothGet f id s b := by
  by_cases h : there f id
  · obtain ⟨k, rfl⟩ : ∃ k : Nat, id = (k : Int) := ⟨id.toNat, by have := h.1; omega⟩
    obtain ⟨h1, h2, h3⟩ := h
    rw [Int.toNat_natCast] at h3
    refine ⟨f k, true, fun {N T M w} ht => ?_, fun {base X w} hr => ?_⟩
    · refine (get_yes ht.tab (by omega) (by omega) h3).mono ?_
      rintro x w' ⟨hx, rfl⟩
      exact ⟨hx, (Below.refl _ _).alloc (Nat.le_refl _) _⟩
    · obtain ⟨A, c, hr⟩ := hr
      refine (ref23 hr (by have := listOf_len f; omega) (k : Int)).mono ?_
      rintro x w' ⟨hx, hb⟩
      rw [get_some' (by omega) (by omega) h3] at hx
      exact ⟨hx, hb⟩
  · refine ⟨zeroS, false, fun {N T M w} ht => ?_, fun {base X w} hr => ?_⟩
    · refine (get_no ht.tab h).mono ?_
      rintro x w' ⟨hx, rfl⟩
      exact ⟨hx, (Below.refl _ _).alloc (Nat.le_refl _) _⟩
    · obtain ⟨A, c, hr⟩ := hr
      refine (ref23 hr (by have := listOf_len f; omega) id).mono ?_
      rintro x w' ⟨hx, hb⟩
      rw [get_none' h] at hx
      exact ⟨hx, hb⟩
structure BothFind (f : Nat → Svc) (p : Int) (v : Nat) (q : Int) (k : Nat) (b : Bool) : Prop where
  prog : ∀ {N T M : Nat} {w : World}, SvcTab N T M f w →
    Calls Tryd.prog 19 #[.pointer (some ⟨T, 0, none⟩), .int .i64 p, .int .u32 (v : Int), .int .i64 q] w fun x w' => x = .returned (.tuple #[.int .i64 (k : Int), .bool b]) ∧ Below w.heap.size w w'
  ref : ∀ {base X : Nat} {w : World}, RefIs base X (listOf f) w →
    Calls Tryd.prog 24 #[.pointer (some ⟨X, 0, none⟩), .int .i64 p, .int .u32 (v : Int), .int .i64 q] w fun x w' => x = .returned (.tuple #[.int .i64 (k : Int), .bool b]) ∧ Below w.heap.size w w'
open Classical in
theorem both_find (f : Nat → Svc) (hu : ∀ p v q k j, Has f p v q k → Has f p v q j → j = k) {p q : Int} {v : Nat} (hp : (Lit.int .i64 p).wf = true) (hq : (Lit.int .i64 q).wf = true) (hv : v < 4294967296) : ∃ k b, BothFind f p v q k b := by
  by_cases hh : ∃ k, Has f p v q k
  · obtain ⟨k, hk⟩ := hh
    refine ⟨k, true, fun {N T M w} ht => find_yes ht hk hp hq (wf_u32 hv), fun {base X w} hr => ?_⟩
    obtain ⟨A, c, hr⟩ := hr
    refine (ref24 hr (by have := listOf_len f; omega) p q v).mono ?_
    rintro x w' ⟨hx, hb⟩
    rw [find_has_some hk (fun j hj => hu _ _ _ _ _ hk hj)] at hx
    exact ⟨hx, hb⟩
  · have hn : ∀ k, ¬ Has f p v q k := fun k hk => hh ⟨k, hk⟩
    refine ⟨0, false, fun {N T M w} ht => find_no ht hn hp hq (wf_u32 hv), fun {base X w} hr => ?_⟩
    obtain ⟨A, c, hr⟩ := hr
    refine (ref24 hr (by have := listOf_len f; omega) p q v).mono ?_
    rintro x w' ⟨hx, hb⟩
    rw [find_has_none hn] at hx
    exact ⟨hx, hb⟩
theorem SvcTab.uniq {N T M : Nat} {f : Nat → Svc} {W : World} (h : SvcTab N T M f W) : ∀ p v q k j, Has f p v q k → Has f p v q j → j = k := by
  intro p v q k j h1 h2
  obtain ⟨a1, a2, a3, a4, a5, a6⟩ := h1
  obtain ⟨g1, g2⟩ := h.good k a1 a2 a3
  obtain ⟨kl, hk, _⟩ := right_key g1 g2
  obtain ⟨n, g, _, _, h3⟩ := h.map
  rw [a4, a5, a6] at hk
  exact h3.uniq hk h2 ⟨a1, a2, a3, a4, a5, a6⟩
end Go.Proofs.YtbahcpejippcjaaDoor
