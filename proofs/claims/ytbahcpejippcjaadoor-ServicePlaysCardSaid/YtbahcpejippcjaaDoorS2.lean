import Derived.Test.YtbahcpejippcjaaDoorS1
namespace Go.Proofs.YtbahcpejippcjaaDoor
open Go.RowKit Go.Shelf

def tcpB : ByteArray := ⟨#[116, 99, 112]⟩
def zeroV : Value := .agg #[.int .i64 0, .int .u32 0, .int .i64 0, .bool false, .int .u32 0]
theorem text_any (s : Svc) (ho : s.ok) (R : ByteArray) (b : Bool) (hR : R = if rightB s then ⟨(svcL s).toArray⟩ else ⟨#[]⟩) (hb : b = rightB s) (w : World) (hE : Env w) : Calls Tryd.prog 10 #[s.val] w fun e w' => e = .returned (.tuple #[.string R, .bool b]) ∧ Below w.heap.size w w' := by
  subst hR
  subst hb
  cases h : rightB s with
  | true => exact text_yes s h ho w hE
  | false => exact text_no s h w
theorem put5 {w wx : World} {b : Nat} {u0 u1 u2 u3 u4 : Value} {t : TypeId} (h : wx.heap[b]? = some (.cells #[u0, u1, u2, u3, u4] t (0, 0))) (hb : w.heap.size ≤ b) (hB : Below w.heap.size w wx) (x y z u v : Value) :
    (((((wx.setCell ⟨b, 0, none⟩ x).setCell ⟨b, 1, none⟩ y).setCell ⟨b, 2, none⟩ z).setCell ⟨b, 3, none⟩ u).setCell ⟨b, 4, none⟩ v).heap[b]? = some (.cells #[x, y, z, u, v] t (0, 0)) ∧ Below w.heap.size w (((((wx.setCell ⟨b, 0, none⟩ x).setCell ⟨b, 1, none⟩ y).setCell ⟨b, 2, none⟩ z).setCell ⟨b, 3, none⟩ u).setCell ⟨b, 4, none⟩ v) := by
  refine ⟨by simp [World.setCell, Array.getElem?_modify, h], ?_⟩
  exact ((((hB.setCell (p := ⟨b, 0, none⟩) hb _).setCell (p := ⟨b, 1, none⟩) hb _).setCell (p := ⟨b, 2, none⟩) hb _).setCell (p := ⟨b, 3, none⟩) hb _).setCell (p := ⟨b, 4, none⟩) hb _
theorem set_c0 {wx : World} {b : Nat} {u0 u1 u2 u3 u4 : Value} {t : TypeId} (h : wx.heap[b]? = some (.cells #[u0, u1, u2, u3, u4] t (0, 0))) (x : Value) : (wx.setCell ⟨b, 0, none⟩ x).heap[b]? = some (.cells #[x, u1, u2, u3, u4] t (0, 0)) := by simp [World.setCell, Array.getElem?_modify, h]
theorem set_c1 {wx : World} {b : Nat} {u0 u1 u2 u3 u4 : Value} {t : TypeId} (h : wx.heap[b]? = some (.cells #[u0, u1, u2, u3, u4] t (0, 0))) (x : Value) : (wx.setCell ⟨b, 1, none⟩ x).heap[b]? = some (.cells #[u0, x, u2, u3, u4] t (0, 0)) := by simp [World.setCell, Array.getElem?_modify, h]
theorem set_c2 {wx : World} {b : Nat} {u0 u1 u2 u3 u4 : Value} {t : TypeId} (h : wx.heap[b]? = some (.cells #[u0, u1, u2, u3, u4] t (0, 0))) (x : Value) : (wx.setCell ⟨b, 2, none⟩ x).heap[b]? = some (.cells #[u0, u1, x, u3, u4] t (0, 0)) := by simp [World.setCell, Array.getElem?_modify, h]
theorem set_c3 {wx : World} {b : Nat} {u0 u1 u2 u3 u4 : Value} {t : TypeId} (h : wx.heap[b]? = some (.cells #[u0, u1, u2, u3, u4] t (0, 0))) (x : Value) : (wx.setCell ⟨b, 3, none⟩ x).heap[b]? = some (.cells #[u0, u1, u2, x, u4] t (0, 0)) := by simp [World.setCell, Array.getElem?_modify, h]
theorem set_c4 {wx : World} {b : Nat} {u0 u1 u2 u3 u4 : Value} {t : TypeId} (h : wx.heap[b]? = some (.cells #[u0, u1, u2, u3, u4] t (0, 0))) (x : Value) : (wx.setCell ⟨b, 4, none⟩ x).heap[b]? = some (.cells #[u0, u1, u2, u3, x] t (0, 0)) := by simp [World.setCell, Array.getElem?_modify, h]
set_option maxRecDepth 100000 in
set_option maxHeartbeats 1000000 in
theorem parse_short (line : ByteArray) (hs : line.size < 4294967281) (h3 : (wordsOf line).length < 3) (w : World) (hE : Env w) :
    Calls Tryd.prog 13 #[.string line] w fun e w' => e = .returned (.tuple #[zeroV, .bool false]) ∧ Below w.heap.size w w' := by
  obtain ⟨L, hL⟩ : ∃ L, (wordsOf line).length = L := ⟨_, rfl⟩
  have h3' : (L : Int) < 3 := by omega
  have HS := Lib.hid (fun w hE => split_words line hs w hE L hL)
  have HB := Lib.hid (Below.refl w.heap.size w)
  have HE := Lib.hid hE
  clear hL h3 hE
  go_enter Tryd.func13, Tryd.ntmps13
  go_wp2_with (go_at_call 32; refine (HS.out _ (by first | exact HE.out | exact HE.out.below ((Below.refl _ _).alloc (Nat.le_refl _) _))).mono ?_; rintro e wx ⟨rfl, _, hB⟩; have hX := box_on hB; obtain ⟨⟨d0, d1, d2, d3, d4⟩, e0, e1, e2, e3, e4⟩ := cells5 hX; replace HB := Lib.hid (below_step (HB.out.alloc HB.out.size _) hB); clear hB)
  obtain ⟨hp, hbe⟩ := put5 hX (Nat.le_refl _) HB.out (.int .i64 0) (.int .u32 0) (.int .i64 0) (.bool false) (.int .u32 0)
  obtain ⟨⟨f0, f1, f2, f3, f4⟩, _⟩ := cells5 hp
  exact ⟨rfl, .tuple #[zeroV, .bool false], by simp [results, Tryd.f13, go_sem, f0, f1, f2, f3, f4, zeroV], rfl, hbe⟩

/-- What stands while a line is read: the result's box, the words; from b on the service that is read. -/
structure Rd (w : World) (L : Nat) (line : ByteArray) (W : World) : Prop where
  below : Below w.heap.size w W
  res : W.heap[w.heap.size]? = some (.cells #[.int .i64 0, .int .u32 0, .int .i64 0, .bool false, .int .u32 0] 24 (0, 0))
  row : ∀ i, i < L → W.cell? ⟨w.heap.size + 1, i, none⟩ = some (.string (word (wordsOf line) i))
structure Rs (w : World) (L : Nat) (line : ByteArray) (b : Nat) (p v q d n : Value) (W : World) : Prop where
  rd : Rd w L line W
  lt : w.heap.size + 1 < b
  box : W.heap[b]? = some (.cells #[p, v, q, d, n] 24 (0, 0))
theorem cell_go {w w' : World} {a : Addr} {v : Value} (h : w.cell? a = some v) (hB : Below w.heap.size w w') : w'.cell? a = some v := (hB.cell (World.block_lt_of_cell? _ _ h)).trans h
theorem Rd.go {w W W' : World} {L : Nat} {line : ByteArray} (h : Rd w L line W) (hb : Below W.heap.size W W') : Rd w L line W' :=
  ⟨below_step h.below hb, box_go h.res hb, fun i hi => cell_go (h.row i hi) hb⟩
theorem Rs.go {w W W' : World} {L b : Nat} {line : ByteArray} {p v q d n : Value} (h : Rs w L line b p v q d n W) (hb : Below W.heap.size W W') : Rs w L line b p v q d n W' :=
  ⟨h.rd.go hb, h.lt, box_go h.box hb⟩
theorem Rd.set {w W : World} {L b k : Nat} {line : ByteArray} (h : Rd w L line W) (hb : w.heap.size + 1 < b) (v : Value) : Rd w L line (W.setCell ⟨b, k, none⟩ v) :=
  ⟨h.below.setCell (p := ⟨b, k, none⟩) (by simp; omega) _, (Below.heap_setCell _ _ _ _ (by simp; omega)).trans h.res, fun i hi => (World.cell?_of_block (w := W) (Below.heap_setCell _ _ _ _ (by simp; omega))).trans (h.row i hi)⟩
theorem Rs.start {w W : World} {L : Nat} {line : ByteArray} {p v q d n : Value} (h : Rd w L line W) (hL : 1 ≤ L) : Rs w L line W.heap.size p v q d n (W.alloc (.cells #[p, v, q, d, n] 24)) :=
  ⟨h.go ((Below.refl _ _).alloc (Nat.le_refl _) _), World.block_lt_of_cell? _ _ (h.row 0 (by omega)), World.alloc_heap_new W _⟩
theorem Rs.set1 {w W : World} {L b : Nat} {line : ByteArray} {p v q d n : Value} (h : Rs w L line b p v q d n W) (x : Value) : Rs w L line b p x q d n (W.setCell ⟨b, 1, none⟩ x) := ⟨h.rd.set h.lt x, h.lt, set_c1 h.box x⟩
theorem Rs.set2 {w W : World} {L b : Nat} {line : ByteArray} {p v q d n : Value} (h : Rs w L line b p v q d n W) (x : Value) : Rs w L line b p v x d n (W.setCell ⟨b, 2, none⟩ x) := ⟨h.rd.set h.lt x, h.lt, set_c2 h.box x⟩
theorem Rs.set3 {w W : World} {L b : Nat} {line : ByteArray} {p v q d n : Value} (h : Rs w L line b p v q d n W) (x : Value) : Rs w L line b p v q x n (W.setCell ⟨b, 3, none⟩ x) := ⟨h.rd.set h.lt x, h.lt, set_c3 h.box x⟩
theorem Rs.set4 {w W : World} {L b : Nat} {line : ByteArray} {p v q d n : Value} (h : Rs w L line b p v q d n W) (x : Value) : Rs w L line b p v q d x (W.setCell ⟨b, 4, none⟩ x) := ⟨h.rd.set h.lt x, h.lt, set_c4 h.box x⟩

theorem right_port {p q : Int} {v n : Nat} {d : Bool} (h : q < 1 ∨ 65535 < q) : rightB ⟨p, v, q, d, n⟩ = false := by
  cases e : rightB ⟨p, v, q, d, n⟩ with
  | false => rfl
  | true =>
    obtain ⟨_, h1, h2, _⟩ := right_facts e
    dsimp only at h1 h2
    omega
theorem parse_end {line X Y x0 x1 x2 x3 : ByteArray} {L : Nat} {p q : Int} {v n : Nat} {d : Bool} (hl : (wordsOf line).length = L) (h3 : 3 ≤ L) (e0 : word (wordsOf line) 0 = x0) (e1 : word (wordsOf line) 1 = x1) (e2 : word (wordsOf line) 2 = x2) (e3 : word (wordsOf line) 3 = x3) (hX : vipOf x1 = X) (hY : portOf x1 = Y)
    (hp : p = protoOf x0) (hv : v = (parseOf X).getD 0) (hq : q = portN Y ∨ (portN Y = 0 ∧ (q < 1 ∨ 65535 < q))) (hd : d = decide (x2 = ⟨#[100, 115, 114]⟩)) (hn : n = if L = 4 then (parseOf x3).getD 0 else 0) :
    (rightB ⟨p, v, q, d, n⟩ = true → svcL ⟨p, v, q, d, n⟩ = line.data.toList → parseS line = some ⟨p, v, q, d, n⟩) ∧ (rightB ⟨p, v, q, d, n⟩ = false ∨ svcL ⟨p, v, q, d, n⟩ ≠ line.data.toList → parseS line = none) := by
  have hr : readS (wordsOf line) = ⟨p, v, portN Y, d, n⟩ := by
    unfold readS
    rw [e0, e1, e2, e3, hX, hY, hl, ← hp, ← hv, ← hd, ← hn]
  have h3' : ¬ (wordsOf line).length < 3 := by omega
  rcases hq with hq | ⟨hq0, hq⟩
  · subst hq
    refine ⟨fun a b => ?_, fun a => ?_⟩
    · unfold parseS
      rw [if_neg h3', hr, if_pos ⟨a, b⟩]
    · unfold parseS
      rw [if_neg h3', hr, if_neg]
      rintro ⟨b, c⟩
      rcases a with a | a
      · rw [a] at b; cases b
      · exact a c
  · have k1 : rightB ⟨p, v, q, d, n⟩ = false := right_port hq
    have k2 : rightB ⟨p, v, portN Y, d, n⟩ = false := right_port (by rw [hq0]; omega)
    refine ⟨fun a _ => (by rw [k1] at a; cases a), fun _ => ?_⟩
    unfold parseS
    rw [if_neg h3', hr, if_neg]
    rintro ⟨b, c⟩
    rw [k2] at b
    cases b
theorem list_eq {x y : ByteArray} : (x.toList == y.data.toList) = decide (x = y) := by
  rw [ByteArray.toList_eq]
  by_cases h : x = y
  · subst h; simp
  · have : ¬ x.data.toList = y.data.toList := fun e => h (Go.WideShapes.bytes_inj e)
    rw [decide_eq_false h]
    simp only [beq_eq_false_iff_ne]
    exact this
theorem dsr_at (x : ByteArray) : (x.toList == [100, 115, 114]) = decide (x = ⟨#[100, 115, 114]⟩) := list_eq (y := ⟨#[100, 115, 114]⟩)
theorem proto_tcp {x : ByteArray} (h : (x.toList == [116, 99, 112]) = true) : (6 : Int) = protoOf x := by
  have h2 : decide (x = ⟨#[116, 99, 112]⟩) = true := (list_eq (y := ⟨#[116, 99, 112]⟩)).symm.trans h
  unfold protoOf
  rw [if_pos (by simpa using h2)]
theorem proto_udp {x : ByteArray} (h : (x.toList == [117, 100, 112]) = true) : (17 : Int) = protoOf x := by
  have h2 : decide (x = ⟨#[117, 100, 112]⟩) = true := (list_eq (y := ⟨#[117, 100, 112]⟩)).symm.trans h
  have h3 : x = ⟨#[117, 100, 112]⟩ := by simpa using h2
  subst h3
  decide
theorem proto_none {x : ByteArray} (h1 : (x.toList == [116, 99, 112]) = false) (h : (x.toList == [117, 100, 112]) = false) : (0 : Int) = protoOf x := by
  have h2 : decide (x = ⟨#[117, 100, 112]⟩) = false := (list_eq (y := ⟨#[117, 100, 112]⟩)).symm.trans h
  have h3 : decide (x = ⟨#[116, 99, 112]⟩) = false := (list_eq (y := ⟨#[116, 99, 112]⟩)).symm.trans h1
  unfold protoOf
  rw [if_neg (by simpa using h3), if_neg (by simpa using h2)]
theorem leaf_end {line X Y x0 x1 x2 x3 : ByteArray} {L : Nat} {p q : Int} {v n : Nat} {d : Bool} (hl : (wordsOf line).length = L) (h3 : 3 ≤ L) (e0 : word (wordsOf line) 0 = x0) (e1 : word (wordsOf line) 1 = x1) (e2 : word (wordsOf line) 2 = x2) (e3 : word (wordsOf line) 3 = x3) (hXY : vipOf x1 = X ∧ portOf x1 = Y) {R : ByteArray} {ok : Bool}
    (hR : ok = rightB ⟨p, v, q, d, n⟩ ∧ (ok = true → R.data.toList = svcL ⟨p, v, q, d, n⟩)) (hp : p = protoOf x0) (hv : v = (parseOf X).getD 0) (hq : q = portN Y ∨ (portN Y = 0 ∧ (q < 1 ∨ 65535 < q))) (hd : d = (x2.toList == [100, 115, 114])) (hn : n = if L = 4 then (parseOf x3).getD 0 else 0) :
    (ok = true → (!R.toList == line.toList) = false → parseS line = some ⟨p, v, q, d, n⟩) ∧ (ok = true → (!R.toList == line.toList) = true → parseS line = none) ∧ (¬ ok = true → parseS line = none) := by
  obtain ⟨k1, k2⟩ := parse_end hl h3 e0 e1 e2 e3 hXY.1 hXY.2 hp hv hq (hd.trans (dsr_at x2)) hn
  obtain ⟨r1, r2⟩ := hR
  have hx : (R.toList == line.toList) = (R.data.toList == line.data.toList) := by rw [ByteArray.toList_eq, ByteArray.toList_eq]
  refine ⟨fun a b => ?_, fun a b => ?_, fun a => ?_⟩
  · have r3 := r2 a
    rw [hx, r3] at b
    exact k1 (r1.symm.trans a) (by simpa using b)
  · have r3 := r2 a
    rw [hx, r3] at b
    exact k2 (.inr (by simpa using b))
  · exact k2 (.inl (by rw [← r1]; simpa using a))
theorem text_at (p q : Int) (v n : Nat) (d : Bool) (hv : v < 4294967296) (hn : n < 4294967296) (w : World) (hE : Env w) : ∃ (R : ByteArray) (b : Bool), (b = rightB ⟨p, v, q, d, n⟩ ∧ (b = true → R.data.toList = svcL ⟨p, v, q, d, n⟩)) ∧
    Calls Tryd.prog 10 #[.agg #[.int .i64 p, .int .u32 (v : Int), .int .i64 q, .bool d, .int .u32 (n : Int)]] w fun e w' => e = .returned (.tuple #[.string R, .bool b]) ∧ Below w.heap.size w w' := by
  refine ⟨_, _, ⟨rfl, ?_⟩, text_any ⟨p, v, q, d, n⟩ ⟨hv, hn⟩ _ _ rfl rfl w hE⟩
  intro h
  rw [h]
  simp
theorem foldNum_lt : ∀ (l : List ByteArray) (a b : Nat), foldNum l a = some b → b < (a + 1) * 256 ^ l.length
  | [], a, b, h => by simp [foldNum] at h; subst h; simp
  | p :: r, a, b, h => by
    unfold foldNum at h
    split at h
    · rename_i n hn
      have h1 := foldNum_lt r _ b h
      have h2 := numOf_le hn
      rw [List.length_cons, Nat.pow_succ]
      have h3 : (a * 256 + n + 1) * 256 ^ r.length ≤ (a * 256 + 256) * 256 ^ r.length := Nat.mul_le_mul_right _ (by omega)
      have h4 : (a * 256 + 256) * 256 ^ r.length = (a + 1) * (256 ^ r.length * 256) := by rw [show a * 256 + 256 = (a + 1) * 256 by omega, Nat.mul_assoc, Nat.mul_comm 256]
      omega
    · cases h
theorem parseOf_lt {s : ByteArray} {a : Nat} (h : parseOf s = some a) : a < 4294967296 := by
  unfold parseOf at h
  split at h
  · rename_i h4
    have := foldNum_lt _ _ _ h
    rw [h4] at this
    simpa using this
  · cases h
theorem parse_lt (s : ByteArray) : (parseOf s).getD 0 < 4294967296 := by
  cases h : parseOf s with
  | none => simp
  | some a => exact parseOf_lt h
theorem rs_text {w W : World} {L b : Nat} {line : ByteArray} {p q : Int} {v n : Nat} {d : Bool} (h : Rs w L line b (.int .i64 p) (.int .u32 (v : Int)) (.int .i64 q) (.bool d) (.int .u32 (n : Int)) W) (hE : Env w) (hv : v < 4294967296) (hn : n < 4294967296) : ∃ (R : ByteArray) (ok : Bool), (ok = rightB ⟨p, v, q, d, n⟩ ∧ (ok = true → R.data.toList = svcL ⟨p, v, q, d, n⟩)) ∧
    Calls Tryd.prog 10 #[.agg #[.int .i64 p, .int .u32 (v : Int), .int .i64 q, .bool d, .int .u32 (n : Int)]] W fun e w' => e = .returned (.tuple #[.string R, .bool ok]) ∧ Rs w L line b (.int .i64 p) (.int .u32 (v : Int)) (.int .i64 q) (.bool d) (.int .u32 (n : Int)) w' := by
  obtain ⟨R, ok, h1, h2⟩ := text_at p q v n d hv hn W (hE.below h.rd.below)
  refine ⟨R, ok, h1, h2.mono ?_⟩
  rintro e w' ⟨he, hb⟩
  exact ⟨he, h.go hb⟩
set_option maxRecDepth 100000 in
set_option maxHeartbeats 4000000 in
theorem parse_long (line : ByteArray) (hs : line.size < 4294967281) (h3 : 3 ≤ (wordsOf line).length) (w : World) (hE : Env w) :
    Calls Tryd.prog 13 #[.string line] w fun e w' => e = .returned (.tuple #[((parseS line).map Svc.val).getD zeroV, .bool (parseS line).isSome]) ∧ Below w.heap.size w w' := by
  obtain ⟨L, hL⟩ : ∃ L, (wordsOf line).length = L := ⟨_, rfl⟩
  have h30 : ¬ (L : Int) < 3 := by omega
  have l0 : 0 < L := by omega
  have l1 : 1 < L := by omega
  have l2 : 2 < L := by omega
  have HS := Lib.hid (fun w hE => split_words line hs w hE L hL)
  have HE := Lib.hid hE
  obtain ⟨x0, hx0⟩ : ∃ x, word (wordsOf line) 0 = x := ⟨_, rfl⟩
  obtain ⟨x1, hx1⟩ : ∃ x, word (wordsOf line) 1 = x := ⟨_, rfl⟩
  obtain ⟨x2, hx2⟩ : ∃ x, word (wordsOf line) 2 = x := ⟨_, rfl⟩
  obtain ⟨x3, hx3⟩ : ∃ x, word (wordsOf line) 3 = x := ⟨_, rfl⟩
  have z1 : x1.size < 4294967281 := by have := words_size line 1; rw [hx1] at this; omega
  have z3 : x3.size < 4294967281 := by have := words_size line 3; rw [hx3] at this; omega
  have z4 := vip_size x1
  obtain ⟨X, hX⟩ : ∃ X, vipOf x1 = X := ⟨_, rfl⟩
  obtain ⟨Y, hY⟩ : ∃ Y, portOf x1 = Y := ⟨_, rfl⟩
  rw [hX, hY] at z4
  have HX0 := Lib.hid hx0
  have HX1 := Lib.hid hx1
  have HX2 := Lib.hid hx2
  have HX3 := Lib.hid hx3
  have HCUT := Lib.hid (cut_colon x1 z1)
  rw [hX, hY] at HCUT
  have HXY := Lib.hid (And.intro hX hY)
  have HP1 := Lib.hid (parse_calls X (by omega))
  have HP3 := Lib.hid (parse_calls x3 z3)
  have HAT := Lib.hid (atoi_any Y (by omega))
  have HL := Lib.hid hL
  have HPL := Lib.hid (And.intro (parse_lt X) (parse_lt x3))
  have ST := Stage.mk 0
  clear hL h3 hE hx0 hx1 hx2 hx3 z1 z3 hX hY z4
  by_cases h4 : L = 4
  case' pos =>
    have h4' : ((L : Int) == 4) = true := by simp; omega
    have l3 : 3 < L := by omega
  case' neg =>
    have h4' : ((L : Int) == 4) = false := by simp; omega
  all_goals
    have H4 := Lib.hid h4
    clear h4
    go_enter Tryd.func13, Tryd.ntmps13
    go_wp2_with (first
      | (go_at_call 32; refine (HS.out _ (HE.out.below ((Below.refl _ _).alloc (Nat.le_refl _) _))).mono ?_; rintro e wx ⟨rfl, hc, hB⟩; simp only [World.size_alloc] at hc; have HR := Lib.hid (Rd.mk (((Below.refl _ _).alloc (Nat.le_refl _) _).trans (hB.mono (by simp))) (box_on hB) hc); have c1 := hc 1 l1; rw [HX1.out] at c1; clear hB hc)
      | (go_at_call 33; refine (HCUT.out _ (HE.out.below HR.out.below)).mono ?_; rintro e wy ⟨⟨bc, rfl⟩, hB⟩; replace HR := Lib.hid (HR.out.go hB); have c0 := (HR.out.go ((Below.refl _ _).alloc (Nat.le_refl _) (.cells #[.int .i64 0, .int .u32 0, .int .i64 0, .bool false, .int .u32 0] 24))).row 0 l0; rw [HX0.out] at c0; clear hB c1)
      | (go_at_call 34; have := (ST : Stage 0); clear this; replace ST := Stage.mk 1; refine (HP1.out _ (HE.out.below (Rs.start HR.out l0).rd.below)).mono ?_; rintro e wz ⟨rfl, hB⟩; have HT := Lib.hid ((Rs.start HR.out l0).go hB); obtain ⟨⟨g0, g1, g2, g3, g4⟩, e0, e1, e2, e3, e4⟩ := cells5 HT.out.box; clear hB c0 HR)
      | (go_at_call 35; refine (HAT.out _ (HE.out.below (HT.out.set1 _).rd.below)).mono ?_; rintro e wu ⟨⟨nn, xx, hnn, rfl⟩, hB⟩; clear g0 g1 g2 g3 g4 e0 e1 e2 e3 e4; replace HT := Lib.hid ((HT.out.set1 _).go hB); have HNN := Lib.hid hnn; obtain ⟨⟨g0, g1, g2, g3, g4⟩, e0, e1, e2, e3, e4⟩ := cells5 HT.out.box; have c2 := (HT.out.set2 (.int .i64 nn)).rd.row 2 l2; rw [HX2.out] at c2; try (have c3 := ((HT.out.set2 (.int .i64 nn)).set3 (.bool (x2.toList == [100, 115, 114]))).rd.row 3 l3; rw [HX3.out] at c3); clear hB hnn)
      | (go_at_call 34; have := (ST : Stage 1); clear this; replace ST := Stage.mk 2; refine (HP3.out _ (HE.out.below ((HT.out.set2 _).set3 _).rd.below)).mono ?_; rintro e wv ⟨rfl, hB⟩; clear g0 g1 g2 g3 g4 e0 e1 e2 e3 e4; replace HT := Lib.hid (((HT.out.set2 _).set3 _).go hB); obtain ⟨⟨g0, g1, g2, g3, g4⟩, e0, e1, e2, e3, e4⟩ := cells5 HT.out.box; clear hB c2 c3)
      | (go_at_call 10; have := (ST : Stage 2); clear this; obtain ⟨R, ok, hR, hcall⟩ := rs_text (HT.out.set4 (.int .u32 (((parseOf x3).getD 0 : Nat) : Int))) HE.out HPL.out.1 HPL.out.2; refine hcall.mono ?_; rintro e wt ⟨rfl, hF⟩; have HRR := Lib.hid hR; clear hcall hR g0 g1 g2 g3 g4 e0 e1 e2 e3 e4 HT; have HF := Lib.hid hF; obtain ⟨⟨g0, g1, g2, g3, g4⟩, e0, e1, e2, e3, e4⟩ := cells5 HF.out.box; obtain ⟨⟨d0, d1, d2, d3, d4⟩, f0, f1, f2, f3, f4⟩ := cells5 HF.out.rd.res; clear hF)
      | (go_at_call 10; have := (ST : Stage 1); clear this; obtain ⟨R, ok, hR, hcall⟩ := rs_text (n := 0) ((HT.out.set2 (.int .i64 nn)).set3 (.bool (x2.toList == [100, 115, 114]))) HE.out HPL.out.1 (by omega); refine hcall.mono ?_; rintro e wt ⟨rfl, hF⟩; have HRR := Lib.hid hR; clear hcall hR g0 g1 g2 g3 g4 e0 e1 e2 e3 e4 HT; have HF := Lib.hid hF; obtain ⟨⟨g0, g1, g2, g3, g4⟩, e0, e1, e2, e3, e4⟩ := cells5 HF.out.box; obtain ⟨⟨d0, d1, d2, d3, d4⟩, f0, f1, f2, f3, f4⟩ := cells5 HF.out.rd.res; clear hF))
    all_goals
      have hle := leaf_end HL.out l2 HX0.out HX1.out HX2.out HX3.out HXY.out HRR.out (by first | exact proto_tcp ‹_› | exact proto_udp ‹_› | exact proto_none ‹_› ‹_›) rfl HNN.out rfl (by first | rw [if_pos H4.out] | rw [if_neg H4.out])
      have hres := HF.out.rd.res
      first
        | (have hps := hle.1 ‹_› ‹_›
           rw [hps]
           refine ⟨rfl, .tuple #[Svc.val ⟨_, _, _, _, _⟩, .bool true], ?_, rfl, (put5 hres (Nat.le_refl _) HF.out.rd.below _ _ _ _ _).2⟩
           simp [results, Tryd.f13, go_sem, World.cell?, World.setCell, Array.getElem?_modify, hres, Svc.val])
        | (have hps : parseS line = none := by first | exact hle.2.1 ‹_› ‹_› | exact hle.2.2 ‹_›
           rw [hps]
           refine ⟨rfl, .tuple #[zeroV, .bool false], ?_, rfl, (put5 hres (Nat.le_refl _) HF.out.rd.below _ _ _ _ _).2⟩
           simp [results, Tryd.f13, go_sem, World.cell?, World.setCell, Array.getElem?_modify, hres, zeroV])
theorem parse_line (line : ByteArray) (hs : line.size < 4294967281) (w : World) (hE : Env w) :
    Calls Tryd.prog 13 #[.string line] w fun e w' => e = .returned (.tuple #[((parseS line).map Svc.val).getD zeroV, .bool (parseS line).isSome]) ∧ Below w.heap.size w w' := by
  by_cases h : 3 ≤ (wordsOf line).length
  · exact parse_long line hs h w hE
  · have h2 : parseS line = none := by unfold parseS; rw [if_pos (by omega)]
    rw [h2]
    exact parse_short line hs (by omega) w hE
end Go.Proofs.YtbahcpejippcjaaDoor
