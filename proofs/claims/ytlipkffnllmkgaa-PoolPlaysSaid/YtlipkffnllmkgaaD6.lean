import Derived.Test.YtlipkffnllmkgaaD5
import Derived.Test.YtlipkffnllmkgaaDG
import Derived.Laws.MakeOwn
import Derived.Laws.OwnMore
namespace Go.Proofs.Ytlipkffnllmkgaa
open Go.RowKit Go.Shelf
attribute [local go_sem] Oper.semAt_some

/-- An anchor of which the last j have gone. -/
def newAnc (room j : Nat) : Anc := ⟨room, fun b => if room - j ≤ b ∧ b < room then b else 0, fun i => i, fun i => i, fun i => i, ((List.range j).map fun i => room - 1 - i).reverse, room - j⟩
theorem newAnc_zero (room : Nat) : newAnc room 0 = full room := by
  unfold newAnc full
  congr 1
  funext b
  rw [if_neg (by omega)]
theorem newAnc_succ (room j : Nat) (h : j + 2 ≤ room) : rem (newAnc room j) (room - 1 - j) = newAnc room (j + 1) := by
  unfold newAnc rem
  dsimp only
  rw [show room - j - 1 = room - 1 - j from by omega]
  have e0 : upd (fun b => if room - j ≤ b ∧ b < room then b else 0) (room - 1 - j) (room - 1 - j) = fun b => if room - (j + 1) ≤ b ∧ b < room then b else 0 := by
    funext b
    unfold upd
    dsimp only
    by_cases e : b = room - 1 - j
    · rw [if_pos e, if_pos (by omega)]; exact e.symm
    · rw [if_neg e]
      by_cases e2 : room - j ≤ b ∧ b < room
      · rw [if_pos e2, if_pos (by omega)]
      · rw [if_neg e2, if_neg (by omega)]
  have e1 : upd (fun i => i) (room - 1 - j) (room - 1 - j) = fun i => i := by
    funext b
    unfold upd
    by_cases e : b = room - 1 - j
    · rw [if_pos e]; exact e.symm
    · rw [if_neg e]
  rw [e0, e1, List.range_succ]
  simp
  omega
theorem newAnc_reach (room : Nat) : ∀ j, j + 1 ≤ room → Reach room (newAnc room j)
  | 0, _ => by rw [newAnc_zero]; exact .full
  | j + 1, h => by
    rw [← newAnc_succ room j (by omega)]
    refine .rem _ _ (newAnc_reach room j (by omega)) (by show room - 1 - j < room; omega) ?_ (by show 2 ≤ room - j; omega)
    show (if room - j ≤ room - 1 - j ∧ room - 1 - j < room then room - 1 - j else 0) = 0
    rw [if_neg (by omega)]

theorem info93 : (Try.prog.info? 93).map (fun i => (i.zero, i.size, i.bytes)) = some (some (.agg #[.int .i64 0, .int .i64 0, .int .i64 0, .int .i64 0]), 4, 32) := by kernel_rfl

theorem new_bad (r k : Int) (w : World) (h : r < 1 ∨ 65536 < r ∨ k < 1 ∨ r < k) : Calls Try.prog 18 #[.int .i64 r, .int .i64 k] w fun e w' => e = .returned (.tuple #[.pointer none, .int .i64 1]) ∧ w' = w := by
  by_cases h1 : r < 1
  · clear h
    go_enter Try.func18, Try.ntmps18
    go_wp2
    go_ret2
    exact ⟨rfl, rfl⟩
  · by_cases h2 : 65536 < r
    · clear h
      go_enter Try.func18, Try.ntmps18
      go_wp2
      go_ret2
      exact ⟨rfl, rfl⟩
    · by_cases h3 : k < 1
      · clear h
        go_enter Try.func18, Try.ntmps18
        go_wp2
        go_ret2
        exact ⟨rfl, rfl⟩
      · have h4 : r < k := by omega
        clear h
        go_enter Try.func18, Try.ntmps18
        go_wp2
        go_ret2
        exact ⟨rfl, rfl⟩

/-- The places as far as they are filled. -/
def fillAnc (r j : Nat) : Anc := ⟨r, fun _ => 0, fun i => if i < j then i else 0, fun i => if i < j then i else 0, fun i => if i < j then i else 0, [], r⟩
theorem fill_upd (j : Nat) : upd (fun i => if i < j then i else 0) j j = fun i => if i < j + 1 then i else 0 := by
  funext i
  unfold upd
  by_cases e : i = j
  · subst e; rw [if_pos rfl, if_pos (by omega)]
  · rw [if_neg e]
    dsimp only
    by_cases e2 : i < j
    · rw [if_pos e2, if_pos (by omega)]
    · rw [if_neg e2, if_neg (by omega)]
theorem fill_step {L r j : Nat} {w : World} (h : Places L (fillAnc r j) w) (hj : j < r) : Places L (fillAnc r (j + 1)) ((((w.setCell ⟨L, j * 4, none⟩ (.int .i64 0)).setCell ⟨L, j * 4 + 1, none⟩ (.int .i64 (j : Int))).setCell ⟨L, j * 4 + 2, none⟩ (.int .i64 (j : Int))).setCell ⟨L, j * 4 + 3, none⟩ (.int .i64 (j : Int))) := by
  have h4 := (((h.set0 j hj 0).set1 j hj j).set2 j hj j).set3 j hj j
  have e : ({ fillAnc r j with gone := upd (fillAnc r j).gone j 0, works := upd (fillAnc r j).works j j, at_ := upd (fillAnc r j).at_ j j, next := upd (fillAnc r j).next j j } : Anc) = fillAnc r (j + 1) := by
    unfold fillAnc
    dsimp only
    rw [fill_upd]
    congr 1
    funext i
    unfold upd
    split <;> rfl
  rw [← e]
  exact h4
theorem made_cell (L r i : Nat) (w : World) (hL : L = w.heap.size) (hi : i < r * 4) : (w.alloc (.cells (madeCells #[.int .i64 0, .int .i64 0, .int .i64 0, .int .i64 0] (r * 4)) 93)).cell? ⟨L, i, none⟩ = some (.int .i64 0) ∧ (w.alloc (.cells (madeCells #[.int .i64 0, .int .i64 0, .int .i64 0, .int .i64 0] (r * 4)) 93)).frozen? ⟨L, i, none⟩ = false := by
  subst hL
  refine ⟨(World.cell?_alloc_mark w _ 93 (0, 0) i).trans ?_, World.frozen?_alloc_new _ _ _ _⟩
  unfold madeCells
  rw [Array.getElem?_map, Array.getElem?_range, if_pos hi]
  have h4 : i % 4 < 4 := Nat.mod_lt _ (by decide)
  have hc : i % 4 = 0 ∨ i % 4 = 1 ∨ i % 4 = 2 ∨ i % 4 = 3 := by omega
  rcases hc with h | h | h | h <;> simp [h]
theorem made_places (r : Nat) (w : World) : Places w.heap.size (fillAnc r 0) (w.alloc (.cells (madeCells #[.int .i64 0, .int .i64 0, .int .i64 0, .int .i64 0] (r * 4)) 93)) := by
  intro i hi
  have hi : i < r := hi
  have m := fun o (ho : o < r * 4) => made_cell w.heap.size r o w rfl ho
  exact ⟨⟨(m _ (by omega)).1, (m _ (by omega)).1, (m _ (by omega)).1, (m _ (by omega)).1⟩, (m _ (by omega)).2, (m _ (by omega)).2, (m _ (by omega)).2, (m _ (by omega)).2⟩

/-- An anchor while its places are being taken: pre have gone. -/
def midAnc (r k : Nat) (pre : List Nat) : Anc := ⟨r, fun b => if b ∈ pre then b else 0, fun i => i, fun i => i, fun i => i, pre.reverse, k⟩
theorem mid_places {L r k : Nat} {w : World} (h : Places L (fillAnc r r) w) : Places L (midAnc r k []) w := by
  intro i hi
  have hi : i < r := hi
  have h := h i hi
  simpa [fillAnc, midAnc, hi] using h
theorem midAnc_all (r k : Nat) (hk : 1 ≤ k) (h : k ≤ r) : midAnc r k (fallList r k) = newAnc r (r - k) := by
  have hr : r - (r - k) = k := by omega
  unfold midAnc newAnc
  rw [hr]
  congr 1
  funext b
  have : b ∈ fallList r k ↔ k ≤ b ∧ b < r := by
    unfold fallList
    simp only [List.mem_map, List.mem_range]
    constructor
    · rintro ⟨i, hi, rfl⟩; omega
    · rintro ⟨h1, h2⟩; exact ⟨r - 1 - b, by omega, by omega⟩
  by_cases e : b ∈ fallList r k
  · rw [if_pos e, if_pos (this.1 e)]
  · rw [if_neg e, if_neg (fun h => e (this.2 h))]
def mid1 (r k : Nat) (pre : List Nat) (x : Nat) : Anc := { midAnc r k pre with gone := upd (midAnc r k pre).gone x x }
theorem midAnc_gone (r k : Nat) (pre : List Nat) (b : Nat) : upd (midAnc r k pre).gone b b = (midAnc r k (pre ++ [b])).gone := by
  funext i
  unfold upd midAnc
  dsimp only
  by_cases e : i = b
  · subst e; simp
  · rw [if_neg e]; simp [e]
theorem AncAt.kept {X L base : Nat} {sv : Value} {a : Anc} {W W' : World} {row : Option Nat} {B : Nat} (h : AncAt X L base sv a W) (hg : W.grownBy W' row) (hr : ∀ r, row = some r → B ≤ r ∧ ∃ o : Obj, W.heap[r]? = some o ∧ o.isCells = false) (hX : X < B) (hL : L < B) : AncAt X L base sv a W' := by
  have hs := h.hb
  have eX : W'.heap[X]? = W.heap[X]? := hg.block X (by have := h.hX; omega) (fun e => by have := (hr X e.symm).1; omega)
  have eL : W'.heap[L]? = W.heap[L]? := hg.block L (by have := h.hL; omega) (fun e => by have := (hr L e.symm).1; omega)
  refine ⟨h.fields.block eX, h.places.block eL, h.own.kept hg ?_, h.hX, h.hL, h.hXL, Nat.le_trans hs hg.size⟩
  rcases h.own.2 with ⟨e, _⟩ | ⟨g, cap, cur, e, _, hgb, _⟩
  · rw [e]; exact .inl rfl
  · rw [e]
    refine .inr fun e' => ?_
    obtain ⟨_, o, ho, hw⟩ := hr g (by simpa [Value.ownBlock] using e'.symm)
    rw [hgb] at ho; cases ho; cases hw
theorem wpIn_gen {F : Fence} {n : Nat} {P : Program} {c : Code} {Q : Exit → Act → World → Prop} {w : World} (a : Act) (h : ∀ A, A = a → c.wpIn F n P Q A w) : c.wpIn F n P Q a w := h a rfl

set_option maxRecDepth 100000 in
set_option maxHeartbeats 4000000 in
theorem new_ok (r k : Nat) (w : World) (h1 : 1 ≤ k) (h2 : k ≤ r) (h3 : r ≤ 65536) :
    Calls Try.prog 18 #[.int .i64 (r : Int), .int .i64 (k : Int)] w fun e w' => ∃ X L base sv, e = .returned (.tuple #[.pointer (some ⟨X, 0, none⟩), .int .i64 0]) ∧ AncAt X L base sv (newAnc r (r - k)) w' ∧ Below w.heap.size w w' ∧ w.heap.size ≤ X ∧ w.heap.size ≤ L := by
  obtain ⟨i3, hi3, hz3, hy3, hw3⟩ := info_parts info3
  have HI3 := Lib.hid (And.intro hi3 (And.intro hz3 (And.intro hy3 hw3)))
  clear hi3 hz3 hy3 hw3
  obtain ⟨i0, hi, hz0, hz1, hz2⟩ := info_parts info93
  have hmk := run_makeSlice (P := Try.prog) w 89 93 i0 (.agg #[.int .i64 0, .int .i64 0, .int .i64 0, .int .i64 0]) Try.underlying89 hi hz0 .i64 .i64 r r (by omega) (by omega) (by rw [hz1]; omega) (by rw [hz2]; omega) (by omega)
  rw [Int.toNat_natCast, hz1] at hmk
  refine (callsIn_wide (n := 9)).1 ?_
  refine callsIn_of_wp_marks Try.func18 rfl trivial ?_ rfl
  simp only [Try.ntmps18, List.size_toArray, List.length_cons, List.length_nil, Nat.reduceAdd, Nat.reduceSub, Array.replicate_succ, Array.replicate_zero, List.push_toArray, List.append_toArray, List.nil_append, List.cons_append]
  gi_wp2
  clear hmk hi hz0 hz1 hz2
  have hW : ∃ W0 : World, (((w.alloc (.cells (madeCells #[.int .i64 0, .int .i64 0, .int .i64 0, .int .i64 0] (r * 4)) 93)).alloc (.cells #[.slice (some ⟨w.heap.size, 0, none⟩) r r, .slice none 0 0, .int .i64 (k : Int)] 91)).alloc (.cells #[.pointer (some ⟨w.heap.size + 1, 0, none⟩)] 60)) = W0 ∧
      Places w.heap.size (fillAnc r 0) W0 ∧ W0.heap[w.heap.size + 1]? = some (.cells #[.slice (some ⟨w.heap.size, 0, none⟩) r r, .slice none 0 0, .int .i64 (k : Int)] 91 (0, 0)) ∧ W0.heap[w.heap.size + 2]? = some (.cells #[.pointer (some ⟨w.heap.size + 1, 0, none⟩)] 60 (0, 0)) ∧ Below w.heap.size w W0 ∧ W0.heap.size = w.heap.size + 3 := by
    refine ⟨_, rfl, ?_, ?_, ?_, ?_, ?_⟩
    · exact ((made_places r w).block (Below.heap_alloc _ _ _ (by simp))).block (Below.heap_alloc _ _ _ (by simp; omega))
    · have h5 := World.alloc_heap_new (w.alloc (.cells (madeCells #[.int .i64 0, .int .i64 0, .int .i64 0, .int .i64 0] (r * 4)) 93)) (.cells #[.slice (some ⟨w.heap.size, 0, none⟩) r r, .slice none 0 0, .int .i64 (k : Int)] 91)
      rw [World.size_alloc] at h5
      exact (Below.heap_alloc _ _ _ (by simp)).trans h5
    · have h5 := World.alloc_heap_new ((w.alloc (.cells (madeCells #[.int .i64 0, .int .i64 0, .int .i64 0, .int .i64 0] (r * 4)) 93)).alloc (.cells #[.slice (some ⟨w.heap.size, 0, none⟩) r r, .slice none 0 0, .int .i64 (k : Int)] 91)) (.cells #[.pointer (some ⟨w.heap.size + 1, 0, none⟩)] 60)
      rwa [World.size_alloc, World.size_alloc] at h5
    · exact (((Below.refl _ w).alloc (Nat.le_refl _) _).alloc (by simp) _).alloc (by simp; omega) _
    · simp
  obtain ⟨W0, hW0, hpl, hbX, hbV, hbel, hsz⟩ := hW
  rw [hW0]
  have HPL := Lib.hid hpl
  have HBX := Lib.hid hbX
  have HBV := Lib.hid hbV
  have HBEL := Lib.hid hbel
  have HSZ := Lib.hid hsz
  clear hW0 hpl hbX hbV hbel hsz
  gi_loopw [7, 34] (fun _ i wr => ∃ j : Nat, j ≤ r ∧ i = .int .i64 (j : Int) ∧ Places w.heap.size (fillAnc r j) wr ∧ wr.heap[w.heap.size + 1]? = some (.cells #[.slice (some ⟨w.heap.size, 0, none⟩) r r, .slice none 0 0, .int .i64 (k : Int)] 91 (0, 0)) ∧ wr.heap[w.heap.size + 2]? = some (.cells #[.pointer (some ⟨w.heap.size + 1, 0, none⟩)] 60 (0, 0)) ∧ Below w.heap.size w wr ∧ wr.heap.size = w.heap.size + 3)
    (fun _ i _ => r - (intOf i).toNat)
  case atStart => exact ⟨0, Nat.zero_le _, rfl, HPL.out, HBX.out, HBV.out, HBEL.out, HSZ.out⟩
  case round =>
    obtain ⟨j, hj, rfl, hpl, hbX, hbV, hbel, hsz⟩ := hrel
    have v0 : wr.cell? ⟨w.heap.size + 2, 0, none⟩ = some (.pointer (some ⟨w.heap.size + 1, 0, none⟩)) := by simp [World.cell?, hbV]
    have x0 : wr.cell? ⟨w.heap.size + 1, 0, none⟩ = some (.slice (some ⟨w.heap.size, 0, none⟩) r r) := by simp [World.cell?, hbX]
    have HPL := Lib.hid hpl
    have HBX := Lib.hid hbX
    have HBV := Lib.hid hbV
    have HBEL := Lib.hid hbel
    have HSZ := Lib.hid hsz
    clear hpl hbX hbV hbel hsz
    by_cases hlt : j < r
    · obtain ⟨⟨p0, p1, p2, p3⟩, f0, f1, f2, f3⟩ := HPL.out j hlt
      gi_wp2
      go_roundw
      case rel =>
        have hne : ∀ (W : World) (o : Nat) (v : Value) (b : Nat), b ≠ w.heap.size → (W.setCell ⟨w.heap.size, o, none⟩ v).heap[b]? = W.heap[b]? := fun W o v b hb => Below.heap_setCell W ⟨w.heap.size, o, none⟩ v b hb
        refine ⟨j + 1, by omega, by go_num, fill_step HPL.out hlt, ?_, ?_, (((HBEL.out.setCell (p := ⟨w.heap.size, j * 4, none⟩) (Nat.le_refl _) _).setCell (p := ⟨w.heap.size, j * 4 + 1, none⟩) (Nat.le_refl _) _).setCell (p := ⟨w.heap.size, j * 4 + 2, none⟩) (Nat.le_refl _) _).setCell (p := ⟨w.heap.size, j * 4 + 3, none⟩) (Nat.le_refl _) _, by have := HSZ.out; simpa [World.setCell] using this⟩
        · rw [hne _ _ _ _ (by omega), hne _ _ _ _ (by omega), hne _ _ _ _ (by omega), hne _ _ _ _ (by omega)]; exact HBX.out
        · rw [hne _ _ _ _ (by omega), hne _ _ _ _ (by omega), hne _ _ _ _ (by omega), hne _ _ _ _ (by omega)]; exact HBV.out
      case measure => simp [intOf]; omega
    · gi_wp2_with (refine ⟨trivial, ?_⟩; gi_at_call 34; refine (falling_in Fence.wide 8 trivial rfl _ _ _).mono ?_; rintro e w' ⟨rfl, rfl⟩)
      have hj' : j = r := by omega
      have hpl := HPL.out
      rw [hj'] at hpl
      have hbX := HBX.out
      have hbV := HBV.out
      have hbel := HBEL.out
      have hsz := HSZ.out
      have hm0 : Places w.heap.size (midAnc r k []) wr := mid_places hpl
      clear HPL HBX HBV HBEL HSZ hpl hj' hlt v0 x0
      obtain ⟨W2, hW2⟩ : ∃ W2, (wr.alloc (.cells #[.int .i64 (r : Int)] 3)).alloc (.cells #[.int .i64 (k : Int)] 3) = W2 := ⟨_, rfl⟩
      have hk2 : ∀ b, b < wr.heap.size → W2.heap[b]? = wr.heap[b]? := by
        intro b hb
        rw [← hW2]
        exact (Below.heap_alloc _ _ _ (by simp; omega)).trans (Below.heap_alloc _ _ _ hb)
      have hs2 : W2.heap.size = w.heap.size + 5 := by rw [← hW2]; simp; omega
      have hB1 : W2.heap[wr.heap.size]? = some (.cells #[.int .i64 (r : Int)] 3 (0, 0)) := by
        rw [← hW2]
        exact (Below.heap_alloc _ _ _ (by simp)).trans (World.alloc_heap_new wr _)
      have hB2 : W2.heap[wr.heap.size + 1]? = some (.cells #[.int .i64 (k : Int)] 3 (0, 0)) := by
        have h5 := World.alloc_heap_new (wr.alloc (.cells #[.int .i64 (r : Int)] 3)) (.cells #[.int .i64 (k : Int)] 3)
        rw [World.size_alloc, hW2] at h5
        exact h5
      have hbel2 : Below w.heap.size w W2 := by
        rw [← hW2]
        exact (hbel.alloc (by omega) _).alloc (by simp; omega) _
      have hm2 : Places w.heap.size (midAnc r k []) W2 := hm0.block (hk2 _ (by omega))
      have hX2 : W2.heap[w.heap.size + 1]? = some (.cells #[.slice (some ⟨w.heap.size, 0, none⟩) r r, .slice none 0 0, .int .i64 (k : Int)] 91 (0, 0)) := (hk2 _ (by omega)).trans hbX
      have hV2 : W2.heap[w.heap.size + 2]? = some (.cells #[.pointer (some ⟨w.heap.size + 1, 0, none⟩)] 60 (0, 0)) := (hk2 _ (by omega)).trans hbV
      have hA2 : AncAt (w.heap.size + 1) w.heap.size (w.heap.size + 5) (.slice none 0 0) (midAnc r k []) W2 :=
        ⟨by refine ⟨?_, ?_, ?_, ?_, ?_, ?_⟩ <;> simp [World.cell?, World.frozen?, hX2, midAnc], hm2, ⟨by simp [midAnc, ints], .inl ⟨rfl, rfl⟩⟩, by omega, by omega, by omega, by omega⟩
      rw [hW2]
      have HSZ := Lib.hid hsz
      have HS2 := Lib.hid hs2
      refine wpIn_gen _ ?_
      intro A hA
      refine wpIn_rangeFunc_ownG (α := {x : Nat // x < r}) rfl (by omega) (gf := 51) (lb := #[.pointer (some ⟨wr.heap.size, 0, none⟩), .pointer (some ⟨wr.heap.size + 1, 0, none⟩)]) (by rw [hA]; rfl) trivial (enters_of Try.func51 (by kernel_rfl) rfl)
        (falling_stops Fence.wide 8 trivial rfl (by omega) wr.heap.size (wr.heap.size + 1) r k h2 h1 h3 W2 hB1 hB2)
        (fun h h' => ⟨h'.1.trans h.1, h'.2.trans h.2⟩) (fun W l o o' hl hlo _ _ => ?keep) (Below.refl _ _) (fun _ => rfl)
        (fun pre W => ((∃ sv, AncAt (w.heap.size + 1) w.heap.size (w.heap.size + 5) sv (midAnc r k (pre.map (·.1))) W) ∧ W.heap[w.heap.size + 2]? = some (.cells #[.pointer (some ⟨w.heap.size + 1, 0, none⟩)] 60 (0, 0))) ∧ Below w.heap.size w W)
        (fun _ _ _ => False)
        (OwnFrom.and ?own (ownFrom_below (Nat.le_refl _) (by omega)))
        (fun _ _ _ _ _ hs _ _ => hs)
        ⟨⟨⟨_, hA2⟩, hV2⟩, hbel2⟩
        (fun x => { tmps := (A.tmps.setIfInBounds 51 (.int .i64 (x.1 : Int))).setIfInBounds 8 (.int .i64 (x.1 : Int)), defers := [] }) ?assign ?body ?done ?stop
      case keep =>
        exact ⟨(grownBy_putObj' W l o').block _ (by have := (Array.getElem?_eq_some_iff.1 hlo).1; omega) (fun e => by cases e; omega), (grownBy_putObj' W l o').block _ (by have := (Array.getElem?_eq_some_iff.1 hlo).1; omega) (fun e => by cases e; omega)⟩
      case own =>
        rintro pre A1 B1 row ⟨⟨sv, hs⟩, hv⟩ hg hr
        refine ⟨⟨sv, hs.kept hg hr (by omega) (by omega)⟩, (hg.block _ (Array.getElem?_eq_some_iff.1 hv).1 (fun e => by have := (hr _ e.symm).1; omega)).trans hv⟩
      case assign =>
        intro l x W K hK
        subst hA
        clear hsz hs2
        simp only [List.setIfInBounds_toArray, List.set_cons_zero, List.set_cons_succ] at hK
        gi_wp2
        exact hK
      case body =>
        rintro l pre x W ⟨⟨⟨sv, hAt⟩, hV⟩, hB⟩ hlen
        subst hA
        clear hsz hs2
        obtain ⟨⟨c0, c1, c2, f0, f1, f2⟩, hpl, hown, hX, hL, hXL, hbs⟩ := hAt
        obtain ⟨⟨p0, _, _, _⟩, q0, _, _, _⟩ := hpl x.1 x.2
        have v0 : W.cell? ⟨w.heap.size + 2, 0, none⟩ = some (.pointer (some ⟨w.heap.size + 1, 0, none⟩)) := by simp [World.cell?, hV]
        have hxr : x.1 < r := x.2
        simp only [List.setIfInBounds_toArray, List.set_cons_zero, List.set_cons_succ]
        gi_wp2
        have hAt3 : AncAt (w.heap.size + 1) w.heap.size (w.heap.size + 5) sv (mid1 r k (pre.map (·.1)) x.1) _ := (AncAt.set0 ⟨⟨c0, c1, c2, f0, f1, f2⟩, hpl, hown, hX, hL, hXL, hbs⟩ x.1 hxr x.1).drew
        have hM3 := ((Moves.refl (w.heap.size + 1) w.heap.size sv.ownBlock W).setCell (p := ⟨w.heap.size, x.1 * 4, none⟩) (.inr rfl) (.int .i64 (x.1 : Int))).drew
        have hK3 := (KeepsOthers.setCell W ⟨w.heap.size, x.1 * 4, none⟩ (.int .i64 (x.1 : Int))).trans (KeepsOthers.drew _)
        have v3 : (W.setCell ⟨w.heap.size, x.1 * 4, none⟩ (.int .i64 (x.1 : Int))).drew.cell? ⟨w.heap.size + 2, 0, none⟩ = some (.pointer (some ⟨w.heap.size + 1, 0, none⟩)) := cell_set_far (w := W) v0 (by omega)
        clear c0 c1 c2 f0 f1 f2 hpl p0 q0 v0
        obtain ⟨W3, hW3⟩ : ∃ W3, (W.setCell ⟨w.heap.size, x.1 * 4, none⟩ (.int .i64 (x.1 : Int))).drew = W3 := ⟨_, rfl⟩
        rw [hW3] at hAt3 hM3 hK3 v3
        have c1 := hAt3.fields.2.1
        have f1 := hAt3.fields.2.2.2.2.1
        have hln : pre.length ≤ 65536 := by omega
        have hln2 : (pre.map (·.1)).reverse.length = pre.length := by simp
        have hown4 : (W3.alloc (.cells #[.int .i64 (x.1 : Int)] 3)).ownsRow (w.heap.size + 5) 3 1 sv pre.length (ints (pre.map (·.1))) := by
          have := hAt3.own.alloc (.cells #[.int .i64 (x.1 : Int)] 3)
          rw [show (mid1 r k (pre.map (·.1)) x.1).stack = (pre.map (·.1)).reverse from rfl, hln2, List.reverse_reverse] at this
          exact this
        have hN4 : ∀ (j : Nat) (u : Value), [Value.int .i64 (x.1 : Int)][j]? = some u → (W3.alloc (.cells #[.int .i64 (x.1 : Int)] 3)).cell? ((⟨W3.heap.size, 0, none⟩ : Addr).add j) = some u := by
          intro j u hj
          rcases j with _ | j
          · simp at hj
            subst hj
            simp [Addr.add, go_sem]
          · simp at hj
        have HO4 := Lib.hid hown4
        have HN4 := Lib.hid hN4
        have HS4 : Hid (w.heap.size + 5 ≤ (W3.alloc (.cells #[.int .i64 (x.1 : Int)] 3)).heap.size) := Lib.hid (by have := hAt3.hb; simp; omega)
        have HAT := Lib.hid hAt3
        clear hAt3 hown hown4 hN4 hln2
        refine wpIn_G (Good := fun W' => W'.cell? ⟨w.heap.size + 2, 0, none⟩ = some (.pointer (some ⟨w.heap.size + 1, 0, none⟩)) ∧ W'.cell? ⟨w.heap.size + 1, 1, none⟩ = some sv) 8 2 [0, 5, 1, 2, 3, 4] (by kernel_rfl) (by kernel_rfl) (by kernel_rfl) (by kernel_rfl) (by kernel_rfl) (by kernel_rfl) rfl (fun _ _ _ _ _ h => h) (by kernel_rfl) (by rw [hW3]; exact ⟨v3, c1⟩) ?_
        rw [hW3]
        clear hW3
        iterate 6 (refine stepsG_cons (v := ?_) rfl rfl rfl (fun w hw => ?_) ?_; rotate_left; (obtain ⟨hgood1, hgood2⟩ := hw; go_simp; try with_reducible rfl); go_simp)
        refine wpG_one (k := 6) (by kernel_rfl) (by omega) rfl rfl (fun K hK => ?_)
        go_simp
        refine hK _ _ ⟨(cell_kept v3 (World.grownBy_alloc _ _ none) (fun r e => by cases e)), (cell_kept c1 (World.grownBy_alloc _ _ none) (fun r e => by cases e))⟩ ?_
        refine wpG_one (k := 7) (by kernel_rfl) (by omega) rfl rfl (fun K hK => ?_)
        refine opIn_append_own _ _ _ 44 rfl (w.heap.size + 5) 3 i3 (.int .i64 0) 1 8 Try.underlying44 HI3.out.1 HI3.out.2.1 HI3.out.2.2.1 HI3.out.2.2.2 rfl (by decide) sv pre.length (ints (pre.map (·.1))) rfl HO4.out ⟨W3.heap.size, 0, none⟩ 1 1 [.int .i64 (x.1 : Int)] rfl rfl HN4.out (by simp [Value.oneCell']) (by unfold maxLen; omega) (by omega) HS4.out ?_
        intro v' w1 hown' hgrow
        obtain ⟨g', cap', rfl⟩ := ownsRow_succ hown'
        have hsv := HO4.out.lt
        have hne : ∀ b, b < w.heap.size + 5 → some b ≠ sv.ownBlock := fun b hb e => by have := (hsv b e.symm).1; omega
        have hb3 := HAT.out.hb
        have hk1 : ∀ b, b < w.heap.size + 5 → w1.heap[b]? = W3.heap[b]? := fun b hb => (hgrow.block b (by simp; omega) (hne b hb)).trans (Below.heap_alloc _ _ _ (by omega))
        have hF1 := HAT.out.fields.block (hk1 (w.heap.size + 1) (by omega))
        have hP1 := HAT.out.places.block (hk1 w.heap.size (by omega))
        have v1 : w1.cell? ⟨w.heap.size + 2, 0, none⟩ = some (.pointer (some ⟨w.heap.size + 1, 0, none⟩)) := (World.cell?_of_block (w := W3) (hk1 (w.heap.size + 2) (by omega))).trans v3
        have HF1 := Lib.hid hF1
        obtain ⟨d0, d1, d2, g0, g1, g2⟩ := hF1
        refine hK _ _ ⟨v1, d1⟩ ⟨by kernel_rfl, ?_⟩
        clear v3 c1 f1 hne hb3
        have HK1 := Lib.hid hk1
        have HGR := Lib.hid hgrow
        have HSV := Lib.hid hsv
        have HOW := Lib.hid hown'
        clear hk1 hgrow hsv hown'
        gi_wp2
        have hsz := HSZ.out
        have hsv := HSV.out
        have hgrow := HGR.out
        generalize hsl : Value.slice (some { block := g', off := 0 }) (pre.length + 1) cap' = v' at *
        have hK4 : KeepsOthers W (w1.setCell ⟨w.heap.size + 1, 1, none⟩ v') := ((hK3.trans (KeepsOthers.alloc _ _)).trans (KeepsOthers.of_grownBy hgrow (fun j o e ho => by
          rcases HO4.out.2 with ⟨e', _⟩ | ⟨g, cap, cur, e', _, hgb, _⟩
          · rw [e'] at e; cases e
          · rw [e'] at e; cases e
            rw [hgb] at ho; cases ho; rfl))).trans (KeepsOthers.setCell _ _ _)
        have hM4 : Moves (w.heap.size + 1) w.heap.size sv.ownBlock W (w1.setCell ⟨w.heap.size + 1, 1, none⟩ v') := ((hM3.alloc _).grown hgrow).setCell (p := ⟨w.heap.size + 1, 1, none⟩) (.inl rfl) _
        have hne : ∀ b, b < w.heap.size + 5 → some b ≠ sv.ownBlock := fun b hb e => by have := (hsv b e.symm).1; omega
        have hk : ∀ b, b < w.heap.size + 5 → b ≠ w.heap.size + 1 → b ≠ w.heap.size → (w1.setCell ⟨w.heap.size + 1, 1, none⟩ v').heap[b]? = W.heap[b]? := fun b hb h1 h2 => hM4.block b (by omega) h1 h2 (hne b hb)
        refine ⟨hK4.from _, ⟨hk _ (by omega) (by omega) (by omega), hk _ (by omega) (by omega) (by omega)⟩, ⟨⟨v', ?_⟩, (hk _ (by omega) (by omega) (by omega)).trans hV⟩, ?_⟩
        · refine ⟨⟨cell_set_ne d0 (by omega), cell_set_eq d1, cell_set_ne d2 (by omega), by rw [World.frozen?_setCell]; exact g0, by rw [World.frozen?_setCell]; exact g1, by rw [World.frozen?_setCell]; exact g2⟩, ?_, ?_, by omega, by omega, by omega, ?_⟩
          · have := hP1.block (Below.heap_setCell w1 ⟨w.heap.size + 1, 1, none⟩ v' w.heap.size (by simp))
            change Places w.heap.size (midAnc r k ((pre ++ [x]).map (·.1))) _
            rw [show midAnc r k ((pre ++ [x]).map (·.1)) = { mid1 r k (pre.map (·.1)) x.1 with stack := (midAnc r k ((pre ++ [x]).map (·.1))).stack } from by
              rw [List.map_append, List.map_cons, List.map_nil]
              unfold mid1
              rw [midAnc_gone]
              rfl]
            exact this
          · have := ownsRow_setCell_below HOW.out (a := ⟨w.heap.size + 1, 1, none⟩) (by simp) v'
            change World.ownsRow _ _ _ _ _ (midAnc r k ((pre ++ [x]).map (·.1))).stack.length (ints (midAnc r k ((pre ++ [x]).map (·.1))).stack.reverse)
            rw [show (midAnc r k ((pre ++ [x]).map (·.1))).stack.length = pre.length + 1 from by simp [midAnc]]
            rw [show (midAnc r k ((pre ++ [x]).map (·.1))).stack.reverse = pre.map (·.1) ++ [x.1] from by simp [midAnc]]
            simpa [ints, hsl] using this
          · have h1 := hM4.size
            omega
        · exact hB.trans ⟨hM4.os, hM4.tape, hM4.output, hM4.size, fun b hb => hk b (by omega) (by omega) (by omega)⟩
      case stop =>
        rintro D c pre W _ _ h _
        exact h.elim
      case done =>
        rintro D ys W hD hys ⟨⟨⟨sv, hs⟩, hV⟩, hB⟩ hK
        subst hA
        have v0 : W.cell? ⟨w.heap.size + 2, 0, none⟩ = some (.pointer (some ⟨w.heap.size + 1, 0, none⟩)) := by simp [World.cell?, hV]
        rw [hys, midAnc_all r k h1 h2] at hs
        have hD2 : w.heap.size + 5 ≤ D := by rw [HS2.out] at hD; exact hD
        have HK := Lib.hid hK
        have HS := Lib.hid hs
        have HB := Lib.hid hB
        clear hK hs hB hsz hs2 hV hys hD
        gi_wp2
        refine ⟨by simp, .inl ⟨_, _, rfl, run_takeDeferred HK.out, ?_⟩⟩
        refine ⟨.tuple #[.pointer (some ⟨w.heap.size + 1, 0, none⟩), .int .i64 0], by simp [results, Try.f18, go_sem], _, _, _, _, rfl, HS.out.kept (B := w.heap.size + 5) (grownBy_putObj' _ D _) (fun r e => by cases e; exact ⟨hD2, _, HK.out, rfl⟩) (by omega) (by omega), HB.out.trans (belowK_b (w := w) (Nat.le_refl _) W D _ _ (by omega) HK.out rfl rfl), by omega, by omega⟩
end Go.Proofs.Ytlipkffnllmkgaa
