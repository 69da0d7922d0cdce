import Derived.Test.YtlipkffnllmkgaaE0
namespace Go.Proofs.Ytlipkffnllmkgaa
open Go.RowKit Go.Shelf

theorem ownsRow_block {w w' : World} {base : Nat} {e : TypeId} {size : Nat} {v : Value} {n : Nat} {xs : List Value} (h : w.ownsRow base e size v n xs) (hb : ∀ g, v.ownBlock = some g → w'.heap[g]? = w.heap[g]?) : w'.ownsRow base e size v n xs := by
  obtain ⟨hl, h | ⟨g, cap, cur, hv, hbg, hgb, hr⟩⟩ := h
  · exact ⟨hl, .inl h⟩
  · exact ⟨hl, .inr ⟨g, cap, cur, hv, hbg, (hb g (by rw [hv]; rfl)).trans hgb, hr⟩⟩

/-- An anchor lies below C, and a row of numbers from C on. -/
def Two (d : Prop) (B C X n : Nat) (a : Anc) (sw : Value) (ws : List Nat) (w : World) : Prop :=
  ∃ L base sv, AncAt X L base sv a w ∧ (B ≤ X ∧ B ≤ L ∧ X < C ∧ L < C) ∧ (d → ∀ g, sv.ownBlock = some g → g < C) ∧ w.ownsRow C 3 1 sw ws.length (ints ws) ∧ Reach n a ∧ (1 ≤ n ∧ n ≤ 65536) ∧ C ≤ w.heap.size

theorem Two.start {B X n : Nat} {a : Anc} {w : World} (h : Lies B X n a w) : Two True B w.heap.size X n a (.slice none 0 0) [] w := by
  obtain ⟨L, base, sv, h, h1, h2, h3, h4, h5⟩ := h
  have := h.hb
  have := h.hX
  have := h.hL
  exact ⟨L, base, sv, h, ⟨h1, h2, by omega, by omega⟩, fun _ g hg => (h.own.lt g hg).2, ⟨rfl, .inl ⟨rfl, rfl⟩⟩, h3, ⟨h4, h5⟩, Nat.le_refl _⟩
theorem Two.lies {d : Prop} {B C X n : Nat} {a : Anc} {sw : Value} {ws : List Nat} {w : World} (h : Two d B C X n a sw ws w) : Lies B X n a w := by
  obtain ⟨L, base, sv, h, ⟨h1, h2, _⟩, _, _, h3, ⟨h4, h5⟩, _⟩ := h
  exact ⟨L, base, sv, h, h1, h2, h3, h4, h5⟩
theorem Two.row {d : Prop} {B C X n : Nat} {a : Anc} {sw : Value} {ws : List Nat} {w : World} (h : Two d B C X n a sw ws w) : w.ownsRow C 3 1 sw ws.length (ints ws) := by
  obtain ⟨L, base, sv, h, _, _, h2, _⟩ := h
  exact h2
theorem Two.size {d : Prop} {B C X n : Nat} {a : Anc} {sw : Value} {ws : List Nat} {w : World} (h : Two d B C X n a sw ws w) : C ≤ w.heap.size := by
  obtain ⟨L, base, sv, h, _, _, _, _, _, h2⟩ := h
  exact h2
theorem Two.below {d : Prop} {B C X n : Nat} {a : Anc} {sw : Value} {ws : List Nat} {w w' : World} (h : Two d B C X n a sw ws w) (hb : Below w.heap.size w w') : Two d B C X n a sw ws w' := by
  obtain ⟨L, base, sv, h, h1, h2, h3, h4, h5, h6⟩ := h
  exact ⟨L, base, sv, h.below hb, h1, h2, ownsRow_block h3 (fun g hg => hb.block g (h3.lt g hg).2), h4, h5, Nat.le_trans h6 hb.size⟩
theorem Two.append {B C X n : Nat} {a : Anc} {sw : Value} {ws : List Nat} {w w' : World} (h : Two True B C X n a sw ws w) (hg : w.grownBy w' sw.ownBlock) (sw' : Value) (b : Nat) (hr : w'.ownsRow C 3 1 sw' (ws.length + 1) (ints ws ++ [.int .i64 (b : Int)])) : Two True B C X n a sw' (ws ++ [b]) w' := by
  obtain ⟨L, base, sv, h, h1, h2, h3, h4, h5, h6⟩ := h
  have hX := h.hX
  have hb := h.hb
  have hL := h.hL
  have ne : ∀ g, g < C → some g ≠ sw.ownBlock := fun g hgc e => by have := (h3.lt g e.symm).1; omega
  refine ⟨L, base, sv, ⟨h.fields.block (hg.block X (by omega) (ne X h1.2.2.1)), h.places.block (hg.block L (by omega) (ne L h1.2.2.2)), ?_, h.hX, h.hL, h.hXL, Nat.le_trans hb hg.size⟩, h1, h2, ?_, h4, h5, Nat.le_trans h6 hg.size⟩
  · exact ownsRow_block h.own (fun g hgo => hg.block g (h.own.lt g hgo).2 (ne g (h2 trivial g hgo)))
  · simpa [ints] using hr
theorem two_remove {B C X n : Nat} {a : Anc} {sw : Value} {ws : List Nat} {w : World} (h : Two True B C X n a sw ws w) (b : Nat) (hb : b < a.room) (hg : a.gone b = 0) (hn : 2 ≤ a.n) :
    Calls Try.prog 45 #[.pointer (some ⟨X, 0, none⟩), .int .i64 (b : Int)] w fun e w' => e = .returned (.int .i64 0) ∧ Two False B C X n (rem a b) sw ws w' ∧ Below B w w' := by
  obtain ⟨I, hr⟩ := h.lies.inv
  obtain ⟨L, base, sv, h, h1, h2, h3, h4, h5, h6⟩ := h
  refine (remove_ok X L base sv a w b h I hb (by omega) hg (a.n - 1) (by omega) (by omega)).mono ?_
  rintro e w' ⟨he, sv', hA, hM⟩
  refine ⟨he, ⟨L, base, sv', hA, h1, fun f => f.elim, ownsRow_block h3 (fun g hgo => ?_), h4.rem a b hb hg hn, h5, Nat.le_trans h6 hM.size⟩, Below.moves h h1.1 h1.2.1 hM⟩
  have hgg := h3.lt g hgo
  exact hM.block g hgg.2 (by omega) (by omega) (fun e => by have := h2 trivial g e.symm; omega)
theorem two_add {d : Prop} {B C X n : Nat} {a : Anc} {sw : Value} {ws : List Nat} {w : World} (h : Two d B C X n a sw ws w) (b : Nat) (st : List Nat) (hs : a.stack = b :: st) :
    Calls Try.prog 29 #[.pointer (some ⟨X, 0, none⟩)] w fun e w' => e = .returned (.tuple #[.int .i64 (b : Int), .int .i64 0]) ∧ Two False B C X n (back a b) sw ws w' ∧ Below B w w' := by
  obtain ⟨I, hr⟩ := h.lies.inv
  obtain ⟨L, base, sv, h, h1, h2, h3, h4, h5, h6⟩ := h
  obtain ⟨p1, p2, _⟩ := h4.pop h5.1 hs
  refine (add_ok X L base sv a w b st h I (by omega) hs (by omega)).mono ?_
  rintro e w' ⟨he, sv', hA, hM, _⟩
  refine ⟨he, ⟨L, base, sv', hA, h1, fun f => f.elim, ownsRow_block h3 (fun g hgo => ?_), p1, h5, Nat.le_trans h6 hM.size⟩, Below.moves_none h h1.1 h1.2.1 hM⟩
  have hgg := h3.lt g hgo
  exact hM.block g hgg.2 (by omega) (by omega) (fun e => by cases e)
theorem Two.read {d : Prop} {B C X n : Nat} {a : Anc} {sw : Value} {ws : List Nat} {w : World} (h : Two d B C X n a sw ws w) (i : Nat) (hi : i < ws.length) :
    ∃ g cap, sw = .slice (some ⟨g, 0, none⟩) ws.length cap ∧ ws.length ≤ cap ∧ cap ≤ maxLen ∧ w.cell? ⟨g, i, none⟩ = some (.int .i64 ((ws.getD i 0 : Nat) : Int)) := by
  have h3 := h.row
  rcases h3.2 with ⟨_, h0⟩ | ⟨g, cap, cur, hv, _, _, h5, h6, _⟩
  · omega
  · refine ⟨g, cap, hv, h5, h6, ?_⟩
    have := h3.cells (g := g) (by rw [hv]; rfl) i (.int .i64 ((ws.getD i 0 : Nat) : Int)) (by simp [ints, hi, List.getD_eq_getElem?_getD])
    rwa [addr_add] at this
theorem new_cell (w : World) (v : Value) (t : TypeId) : ∀ (j : Nat) (u : Value), [v][j]? = some u → (w.alloc (.cells #[v] t)).cell? ((⟨w.heap.size, 0, none⟩ : Addr).add j) = some u := by
  intro j u hj
  rcases j with _ | j
  · simp at hj
    subst hj
    rw [addr_add]
    have := World.alloc_heap_new w (.cells #[v] t)
    unfold World.cell?
    dsimp only
    rw [this]
    rfl
  · simp at hj
theorem lies_bucket_q {B X room : Nat} {a : Anc} {w : World} (h : Lies B X room a w) (k r : Nat) (hf : Find a k (drawN k a.room a.room) r) :
    Calls Try.prog 33 #[.pointer (some ⟨X, 0, none⟩), .int .u64 (k : Int)] w fun e w' => e = .returned (.int .i64 (r : Nat)) ∧ ∃ m, w' = w.drewN m := by
  obtain ⟨I, hr⟩ := h.inv
  obtain ⟨L, base, sv, h, h1, h2, h3, h4, h5⟩ := h
  exact bucket_calls X L a w k r I h.places h.fields.1 (by omega) hf
theorem Lies.mono {B B' X room : Nat} {a : Anc} {w : World} (h : Lies B X room a w) (hb : B' ≤ B) : Lies B' X room a w := by
  obtain ⟨L, base, sv, h, h1, h2, h3⟩ := h
  exact ⟨L, base, sv, h, by omega, by omega, h3⟩
theorem Two.read' {d : Prop} {B C X n m : Nat} {R : Nat → Nat} {a : Anc} {sw : Value} {w : World} (h : Two d B C X n a sw ((List.range m).map R) w) (i : Nat) (hi : i < m) :
    ∃ g cap, sw = .slice (some ⟨g, 0, none⟩) m cap ∧ m ≤ cap ∧ cap ≤ 9223372036854775807 ∧ w.cell? ⟨g, i, none⟩ = some (.int .i64 (R i : Int)) := by
  obtain ⟨g, cap, h1, h2, h3, h4⟩ := h.read i (by simpa using hi)
  rw [List.length_map, List.length_range] at h1 h2
  refine ⟨g, cap, h1, h2, h3, ?_⟩
  rw [h4]
  simp [List.getD_eq_getElem?_getD, hi]
theorem below_drewN (w : World) (n : Nat) : Below w.heap.size w (w.drewN n) := ⟨rfl, rfl, rfl, Nat.le_refl _, fun _ _ => rfl⟩
theorem Lies.drewN {B X room : Nat} {a : Anc} {w : World} (h : Lies B X room a w) (n : Nat) : Lies B X room a (w.drewN n) := h.below (below_drewN w n)
theorem after_rem {B X room : Nat} {a : Anc} {w : World} (h : Lies B X room a w) (k : Nat) (hk : k < a.room) (hg : a.gone k = 0) (h2 : 2 ≤ a.n) (key r : Nat) (hf : Find a key (drawN key a.room a.room) r) :
    ∃ b, Find (rem a k) key (drawN key (rem a k).room (rem a k).room) b ∧ b ≠ k ∧ (r ≠ k → b = r) := by
  have I := h.inv.1
  have hgk : (rem a k).gone k ≠ 0 := by
    show upd a.gone k (a.n - 1) k ≠ 0
    rw [upd_same]; omega
  by_cases e : r = k
  · obtain ⟨b, hb⟩ := find_all (rem_inv I hk hg h2) key
    exact ⟨b, hb, fun e2 => hgk (by have h := hb.low.1; rw [e2] at h; exact h), fun e2 => absurd e e2⟩
  · exact ⟨r, find_rem I hg h2 hf e, e, fun _ => rfl⟩
end Go.Proofs.Ytlipkffnllmkgaa
