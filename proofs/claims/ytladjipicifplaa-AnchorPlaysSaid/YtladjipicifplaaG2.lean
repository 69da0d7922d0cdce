import Derived.Test.YtladjipicifplaaG0
import Derived.Test.YtladjipicifplaaG1
import Derived.Test.YtladjipicifplaaE5
namespace Go.Proofs.Ytladjipicifplaa
open Go.RowKit Go.Shelf

theorem between_gone {a : Anc} {k : Nat} {pre : List Nat} {x : Nat} (h : pre ++ [x] <+: workTo a k) : (a.gone x = 0 ∧ x < k) ∧ ∀ b : Nat, lastOf pre < (b : Int) → b < x → a.gone b ≠ 0 := by
  have hx : x ∈ workTo a k := h.subset (by simp)
  rw [mem_workTo] at hx
  refine ⟨⟨hx.2, hx.1⟩, fun b h1 h2 h3 => ?_⟩
  have hb : b ∈ workTo a k := (mem_workTo a k b).2 ⟨by omega, h3⟩
  have hp : List.Pairwise (· < ·) (workTo a k) := List.Pairwise.filter _ List.pairwise_lt_range
  obtain ⟨rest, hr⟩ := h
  rw [← hr] at hb hp
  simp only [List.mem_append, List.mem_cons, List.not_mem_nil, or_false] at hb
  rcases hb with (hb | hb) | hb
  · unfold lastOf at h1
    cases e : pre.getLast? with
    | none => rw [List.getLast?_eq_none_iff] at e; subst e; cases hb
    | some y =>
      rw [e] at h1
      simp only at h1
      obtain ⟨ys, rfl⟩ : ∃ ys, pre = ys ++ [y] := by
        rw [List.getLast?_eq_some_iff] at e
        exact e
      rw [List.mem_append, List.mem_singleton] at hb
      rcases hb with hb | rfl
      · have h5 : List.Pairwise (· < ·) (ys ++ [y]) := (List.pairwise_append.1 (List.pairwise_append.1 hp).1).1
        have := (List.pairwise_append.1 h5).2.2 b hb y (by simp)
        omega
      · omega
  · omega
  · have := (List.pairwise_append.1 hp).2.2 x (by simp) b hb
    omega

/-- Where the range's cursor stands: the bucket that is told next. -/
theorem cursor_is {a : Anc} {k : Nat} {pre : List Nat} {x t : Nat} (h : pre ++ [x] <+: workTo a k) (h1 : lastOf pre < (t : Int)) (h2 : ∀ b : Nat, lastOf pre < (b : Int) → b < t → a.gone b ≠ 0) (h3 : k ≤ t ∨ a.gone t = 0) : x = t := by
  obtain ⟨⟨g1, g2⟩, g3⟩ := between_gone h
  have hl := lastOf_lt h
  rcases Nat.lt_trichotomy x t with e | e | e
  · exact absurd g1 (h2 x hl e)
  · exact e
  · rcases h3 with h3 | h3
    · omega
    · exact absurd h3 (g3 t h1 e)

/-- Where the walk's boxes lie, and both anchors: the room's box, the result's, and what is guarded. -/
structure PlaySt (w : World) (B X Y r : Nat) (Cs : List (Nat × Obj)) (c c2 : Anc) (wr : World) : Prop where
  both : PairC B Cs X Y r c c2 wr
  room : wr.heap[w.heap.size]? = some (.cells #[.int .i64 (r : Int)] 3 (0, 0))
  res : wr.heap[w.heap.size + 1]? = some (.cells #[.bool false] 4 (0, 0))
  low : w.heap.size + 1 < B
  old : Below w.heap.size w wr

theorem PlaySt.step {w : World} {B X Y r : Nat} {Cs Cs' : List (Nat × Obj)} {c c2 c' c2' : Anc} {wr w' : World} (h : PlaySt w B X Y r Cs c c2 wr) (hb : Below B wr w') (hp : PairC B Cs' X Y r c' c2' w') : PlaySt w B X Y r Cs' c' c2' w' :=
  ⟨hp, (hb.block _ (by have := h.low; omega)).trans h.room, (hb.block _ h.low).trans h.res, h.low, h.old.trans (hb.mono (by have := h.low; omega))⟩
theorem PlaySt.size {w : World} {B X Y r : Nat} {Cs : List (Nat × Obj)} {c c2 : Anc} {wr : World} (h : PlaySt w B X Y r Cs c c2 wr) : B ≤ wr.heap.size := h.both.lies.size
theorem PlaySt.below {w : World} {B X Y r : Nat} {Cs : List (Nat × Obj)} {c c2 : Anc} {wr w' : World} (h : PlaySt w B X Y r Cs c c2 wr) (hb : Below wr.heap.size wr w') : PlaySt w B X Y r Cs c c2 w' := h.step (hb.mono h.size) (h.both.below hb)
theorem PlaySt.push {w : World} {B X Y r : Nat} {Cs : List (Nat × Obj)} {c c2 : Anc} {wr w' : World} (h : PlaySt w B X Y r Cs c c2 wr) (hb : Below wr.heap.size wr w') {D : Nat} {o : Obj} (hD : wr.heap.size ≤ D) (ho : w'.heap[D]? = some o) : PlaySt w B X Y r ((D, o) :: Cs) c c2 w' := h.step (hb.mono h.size) (h.both.push hb hD ho)
theorem PlaySt.drop {w : World} {B X Y r : Nat} {p : Nat × Obj} {Cs : List (Nat × Obj)} {c c2 : Anc} {wr : World} (h : PlaySt w B X Y r (p :: Cs) c c2 wr) : PlaySt w B X Y r Cs c c2 wr := ⟨h.both.drop, h.room, h.res, h.low, h.old⟩

theorem PlaySt.remove {w : World} {B X Y r : Nat} {Cs : List (Nat × Obj)} {c c2 : Anc} {wr : World} (h : PlaySt w B X Y r Cs c c2 wr) (b : Int) :
    Calls Try.prog 25 #[.pointer (some ⟨X, 0, none⟩), .int .i64 b] wr fun e w' => e = .returned (.int .i64 ((remOut c b).1 : Int)) ∧ PlaySt w B X Y r Cs (remOut c b).2 c2 w' :=
  (pairC_remove h.both b).mono fun _ _ ⟨he, hp, hb⟩ => ⟨he, h.step hb hp⟩
theorem PlaySt.refRemove {w : World} {B X Y r : Nat} {Cs : List (Nat × Obj)} {c c2 : Anc} {wr : World} (h : PlaySt w B X Y r Cs c c2 wr) (b : Int) :
    Calls Try.prog 26 #[.pointer (some ⟨Y, 0, none⟩), .int .i64 b] wr fun e w' => e = .returned (.int .i64 ((remOut c2 b).1 : Int)) ∧ PlaySt w B X Y r Cs c (remOut c2 b).2 w' :=
  (pairC_refRemove h.both b).mono fun _ _ ⟨he, hp, hb⟩ => ⟨he, h.step hb hp⟩
theorem PlaySt.add {w : World} {B X Y r : Nat} {Cs : List (Nat × Obj)} {c c2 : Anc} {wr : World} (h : PlaySt w B X Y r Cs c c2 wr) :
    Calls Try.prog 23 #[.pointer (some ⟨X, 0, none⟩)] wr fun e w' => e = .returned (.tuple #[.int .i64 ((addOut c).1 : Int), .int .i64 ((addOut c).2.1 : Int)]) ∧ PlaySt w B X Y r Cs (addOut c).2.2 c2 w' :=
  (pairC_add h.both).mono fun _ _ ⟨he, hp, hb⟩ => ⟨he, h.step hb hp⟩
theorem PlaySt.refAdd {w : World} {B X Y r : Nat} {Cs : List (Nat × Obj)} {c c2 : Anc} {wr : World} (h : PlaySt w B X Y r Cs c c2 wr) :
    Calls Try.prog 24 #[.pointer (some ⟨Y, 0, none⟩)] wr fun e w' => e = .returned (.tuple #[.int .i64 ((addOut c2).1 : Int), .int .i64 ((addOut c2).2.1 : Int)]) ∧ PlaySt w B X Y r Cs c (addOut c2).2.2 w' :=
  (pairC_refAdd h.both).mono fun _ _ ⟨he, hp, hb⟩ => ⟨he, h.step hb hp⟩
theorem PlaySt.bucket {w : World} {B X Y r : Nat} {Cs : List (Nat × Obj)} {c c2 : Anc} {wr : World} (h : PlaySt w B X Y r Cs c c2 wr) (k v : Nat) (hf : Find c k (drawN k c.room c.room) v) :
    Calls Try.prog 27 #[.pointer (some ⟨X, 0, none⟩), .int .u64 (k : Int)] wr fun e w' => e = .returned (.int .i64 (v : Nat)) ∧ ∃ m, w' = wr.drewN m := lies_bucket_q h.both.lies k v hf
theorem PlaySt.refBucket {w : World} {B X Y r : Nat} {Cs : List (Nat × Obj)} {c c2 : Anc} {wr : World} (h : PlaySt w B X Y r Cs c c2 wr) (k v : Nat) (hf : Find c2 k (drawN k c2.room c2.room) v) :
    Calls Try.prog 28 #[.pointer (some ⟨Y, 0, none⟩), .int .u64 (k : Int)] wr fun e w' => e = .returned (.int .i64 (v : Nat)) ∧ ∃ m, w' = wr.drewN m := pair_refBucket h.both.pair k v hf
theorem PlaySt.drewN {w : World} {B X Y r : Nat} {Cs : List (Nat × Obj)} {c c2 : Anc} {wr : World} (h : PlaySt w B X Y r Cs c c2 wr) (m : Nat) : PlaySt w B X Y r Cs c c2 (wr.drewN m) := h.below (below_drewN wr m)
/-- What the walk reads: the room's box, the result's box. -/
theorem PlaySt.boxes {w : World} {B X Y r : Nat} {Cs : List (Nat × Obj)} {c c2 : Anc} {wr : World} (h : PlaySt w B X Y r Cs c c2 wr) :
    (wr.cell? ⟨w.heap.size, 0, none⟩ = some (.int .i64 (r : Int)) ∧ wr.frozen? ⟨w.heap.size, 0, none⟩ = false) ∧ wr.cell? ⟨w.heap.size + 1, 0, none⟩ = some (.bool false) ∧ wr.frozen? ⟨w.heap.size + 1, 0, none⟩ = false :=
  ⟨box_cell5 h.room, (box_cell5 h.res).1, (box_cell5 h.res).2⟩
/-- The reference's fields that the walk reads. -/
theorem PlaySt.ref {w : World} {B X Y r : Nat} {Cs : List (Nat × Obj)} {c c2 : Anc} {wr : World} (h : PlaySt w B X Y r Cs c c2 wr) :
    wr.cell? ⟨Y, 5, none⟩ = some (.int .i64 (c2.n : Int)) ∧ ∃ gA, wr.cell? ⟨Y, 0, none⟩ = some (.slice (some ⟨gA, 0, none⟩) r r) ∧ ∀ i, i < r → wr.cell? ⟨gA, i, none⟩ = some (.int .i64 (c2.gone i : Int)) := by
  obtain ⟨L, base, gA, gW, gL, gK, rbase, cW, cL, cK, sv, rsv, h, b, ⟨_, r2⟩, ⟨r3, _⟩, _⟩ := h.both
  obtain ⟨_, e⟩ := r2.inv r3
  refine ⟨h.r.f5, gA, by have := h.r.f0; rwa [e] at this, fun i hi => (h.r.cA i (by omega)).1⟩
end Go.Proofs.Ytladjipicifplaa
