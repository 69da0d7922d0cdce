import Derived.Test.YtbahcpejippcjaaDoorTE
namespace Go.Proofs.YtbahcpejippcjaaDoor
open Go.RowKit Go.Shelf

def tcpW : ByteArray := ⟨#[116, 99, 112]⟩
theorem text12_any (s : Svc) (ho : s.ok) (w : World) : Calls Tryd.prog 12 #[s.val] w fun e w' => e = .returned (.tuple #[.string (textS s), .bool (rightB s)]) ∧ Below w.heap.size w w' := by
  unfold textS
  cases h : rightB s
  · exact text12_no s h w
  · exact text12_yes s h ho w
theorem endR_list {l r : List UInt8} (h : (58 : UInt8) ∉ l) : endR ⟨(l ++ 58 :: r).toArray⟩ = ((parseOf ⟨l.toArray⟩).getD 0, (numR ⟨r.toArray⟩).getD 0, (parseOf ⟨l.toArray⟩).isSome && (numR ⟨r.toArray⟩).isSome) := by
  have hsz : (⟨(l ++ 58 :: r).toArray⟩ : ByteArray).size = l.length + 1 + r.length := by rw [size_of_list]; simp; omega
  have hi : l.length < (⟨(l ++ 58 :: r).toArray⟩ : ByteArray).size := by omega
  have h1 : (⟨(l ++ 58 :: r).toArray⟩ : ByteArray)[l.length] = 58 := by simp [ByteArray.getElem_eq_getElem_data]
  have h2 : ∀ j (hj : j < (⟨(l ++ 58 :: r).toArray⟩ : ByteArray).size), j < l.length → (⟨(l ++ 58 :: r).toArray⟩ : ByteArray)[j] ≠ 58 := by
    intro j hj hjl e
    apply h
    rw [← e]
    simp [ByteArray.getElem_eq_getElem_data, List.getElem_append_left hjl]
  have e1 : (⟨(l ++ 58 :: r).toArray⟩ : ByteArray).extract 0 l.length = ⟨l.toArray⟩ := by
    apply Go.WideShapes.bytes_inj
    rw [ByteArray.data_extract]
    simp
  have e2 : (⟨(l ++ 58 :: r).toArray⟩ : ByteArray).extract (l.length + 1) (⟨(l ++ 58 :: r).toArray⟩ : ByteArray).size = ⟨r.toArray⟩ := by
    apply Go.WideShapes.bytes_inj
    rw [ByteArray.data_extract, hsz]
    simp
  rw [endR_at _ hi h1 h2, e1, e2]
/-- What a written service's line reads as. -/
theorem svc_reads {y : Svc} {line : ByteArray} (hr : rightB y = true) (ho : y.ok) (hl : svcL y = line.data.toList) :
    3 ≤ (wordsOf line).length ∧ (endR (word (wordsOf line) 1)).2.2 = true ∧ (3 < (wordsOf line).length → parseOf (word (wordsOf line) 3) = some y.nat) ∧
    y = ⟨if ((word (wordsOf line) 0).toList == [116, 99, 112]) = true then 6 else 17, (endR (word (wordsOf line) 1)).1, ((endR (word (wordsOf line) 1)).2.1 : Int), ((word (wordsOf line) 2).toList == [100, 115, 114]), if 3 < (wordsOf line).length then (parseOf (word (wordsOf line) 3)).getD 0 else 0⟩ := by
  obtain ⟨hpr, hp1, hp2, hv, hd⟩ := right_facts hr
  obtain ⟨q, hq, hq2⟩ := port_nat hr
  have hline : line = ⟨(svcL y).toArray⟩ := Go.WideShapes.bytes_inj (by rw [hl])
  have hw := svc_words hr
  rw [← hline] at hw
  have hat : endR ⟨(atL y).toArray⟩ = (y.vip, q, true) := by
    unfold atL
    rw [endR_list (addr_no (by decide) (by decide)), parse_text _ ho.1, hq, itoa_nat, numR_dec (by omega)]
    rfl
  have hnat := parse_text y.nat ho.2
  have hp6 : ((⟨(protoL y.proto).toArray⟩ : ByteArray).toList == [116, 99, 112]) = decide (y.proto = 6) := by
    rw [ByteArray.toList_eq]
    rcases hpr with h | h <;> (rw [h]; rfl)
  have hpp : (if decide (y.proto = 6) = true then (6 : Int) else 17) = y.proto := by
    rcases hpr with h | h <;> (rw [h]; rfl)
  obtain ⟨p, v, o, d, n⟩ := y
  cases d
  · rw [if_neg (by simp)] at hw
    rw [hw]
    simp only [word, List.getD_cons_zero, List.getD_cons_succ, List.length_cons, List.length_nil]
    rw [hat, hp6, hpp, hnat, ByteArray.toList_eq, ← hq]
    exact ⟨by omega, rfl, fun _ => rfl, rfl⟩
  · rw [if_pos (by simp)] at hw
    have hn0 : n = 0 := by simpa using hd
    rw [hw]
    simp only [word, List.getD_cons_zero, List.getD_cons_succ, List.length_cons, List.length_nil]
    rw [hat, hp6, hpp, ByteArray.toList_eq, ← hq, hn0]
    exact ⟨by omega, rfl, fun h => absurd h (by omega), rfl⟩
/-- What the reference reads of a line. -/
theorem ref_none {line : ByteArray} (h : (wordsOf line).length < 3 ∨ (endR (word (wordsOf line) 1)).2.2 = false ∨ (3 < (wordsOf line).length ∧ parseOf (word (wordsOf line) 3) = none)) : parseS line = none := by
  cases hp : parseS line with
  | none => rfl
  | some y =>
    exfalso
    obtain ⟨h1, h2⟩ := svc_parse hp
    have ho : y.ok := by have := @got_ok line; unfold gotS at this; rw [hp] at this; exact this
    obtain ⟨r1, r2, r3, r4⟩ := svc_reads h1 ho h2
    rcases h with h | h | ⟨h, h'⟩
    · omega
    · rw [h] at r2; cases r2
    · rw [r3 h] at h'; cases h'
theorem ref_is {line x0 x1 x2 x3 : ByteArray} {L : Nat} {p : Int} {v n q : Nat} {ok d : Bool} (hl : (wordsOf line).length = L) (e0 : word (wordsOf line) 0 = x0) (e1 : word (wordsOf line) 1 = x1) (e2 : word (wordsOf line) 2 = x2) (e3 : word (wordsOf line) 3 = x3)
    (he : endR x1 = (v, q, ok)) (hp : p = if (x0.toList == [116, 99, 112]) = true then 6 else 17) (hd : d = (x2.toList == [100, 115, 114])) (hn : n = if 3 < L then (parseOf x3).getD 0 else 0) (ho : v < 4294967296 ∧ n < 4294967296) :
    (rightB ⟨p, v, (q : Int), d, n⟩ = true → svcL ⟨p, v, (q : Int), d, n⟩ = line.data.toList → parseS line = some ⟨p, v, (q : Int), d, n⟩) ∧
    (¬ (rightB ⟨p, v, (q : Int), d, n⟩ = true ∧ svcL ⟨p, v, (q : Int), d, n⟩ = line.data.toList) → parseS line = none) := by
  refine ⟨fun h1 h2 => ?_, fun h => ?_⟩
  · have hline : line = ⟨(svcL ⟨p, v, (q : Int), d, n⟩).toArray⟩ := Go.WideShapes.bytes_inj (by rw [h2])
    rw [hline]
    exact parse_svc h1 ho
  · cases hps : parseS line with
    | none => rfl
    | some y =>
      exfalso
      obtain ⟨h1, h2⟩ := svc_parse hps
      have hyo : y.ok := by have := @got_ok line; unfold gotS at this; rw [hps] at this; exact this
      obtain ⟨r1, r2, r3, r4⟩ := svc_reads h1 hyo h2
      rw [hl, e0, e1, e2, e3, he, ← hp, ← hd, ← hn] at r4
      rw [r4] at h1 h2
      exact h ⟨h1, h2⟩
theorem endR_lt (s : ByteArray) : (endR s).1 < 4294967296 ∧ (endR s).2.1 ≤ 230000000000 := by
  unfold endR
  split
  · refine ⟨parse_lt _, ?_⟩
    dsimp only
    cases h : numR (s.extract (_ + 1) s.size) with
    | none => simp
    | some m => exact numR_lt h
  · exact ⟨by decide, by decide⟩
/-- What the reference holds as it reads. -/
structure Rq (w : World) (L : Nat) (line : ByteArray) (g : Nat) (W : World) : Prop where
  below : Below w.heap.size w W
  res : W.heap[w.heap.size]? = some (.cells #[.int .i64 0, .int .u32 0, .int .i64 0, .bool false, .int .u32 0] 28 (0, 0))
  row : ∀ i, i < L → W.cell? ⟨g, i, none⟩ = some (.string (word (wordsOf line) i))
  gt : w.heap.size < g
structure Rt (w : World) (L : Nat) (line : ByteArray) (g b : Nat) (p v q d n : Value) (W : World) : Prop where
  rq : Rq w L line g W
  lt : g < b
  box : W.heap[b]? = some (.cells #[p, v, q, d, n] 28 (0, 0))
theorem Rq.go {w W W' : World} {L g : Nat} {line : ByteArray} (h : Rq w L line g W) (hb : Below W.heap.size W W') : Rq w L line g W' :=
  ⟨below_step h.below hb, box_go h.res hb, fun i hi => cell_go (h.row i hi) hb, h.gt⟩
theorem Rt.go {w W W' : World} {L g b : Nat} {line : ByteArray} {p v q d n : Value} (h : Rt w L line g b p v q d n W) (hb : Below W.heap.size W W') : Rt w L line g b p v q d n W' :=
  ⟨h.rq.go hb, h.lt, box_go h.box hb⟩
theorem Rq.set {w W : World} {L g b k : Nat} {line : ByteArray} (h : Rq w L line g W) (hb : g < b) (v : Value) : Rq w L line g (W.setCell ⟨b, k, none⟩ v) := by
  have hg := h.gt
  refine ⟨h.below.setCell (p := ⟨b, k, none⟩) (by simp; omega) _, ?_, fun i hi => ?_, hg⟩
  · rw [Below.heap_setCell _ _ _ _ (by simp; omega)]; exact h.res
  · rw [World.cell?_setCell_other _ _ _ _ (by intro e; simp only [Addr.mk.injEq] at e; omega)]; exact h.row i hi
theorem Rt.start {w W : World} {L g : Nat} {line : ByteArray} {p v q d n : Value} (h : Rq w L line g W) (hg : g < W.heap.size) : Rt w L line g W.heap.size p v q d n (W.alloc (.cells #[p, v, q, d, n] 28)) :=
  ⟨h.go ((Below.refl _ _).alloc (Nat.le_refl _) _), hg, World.alloc_heap_new W _⟩
theorem Rt.set0 {w W : World} {L g b : Nat} {line : ByteArray} {p v q d n : Value} (h : Rt w L line g b p v q d n W) (x : Value) : Rt w L line g b x v q d n (W.setCell ⟨b, 0, none⟩ x) := ⟨h.rq.set h.lt x, h.lt, set_c0 h.box x⟩
theorem Rt.set1 {w W : World} {L g b : Nat} {line : ByteArray} {p v q d n : Value} (h : Rt w L line g b p v q d n W) (x : Value) : Rt w L line g b p x q d n (W.setCell ⟨b, 1, none⟩ x) := ⟨h.rq.set h.lt x, h.lt, set_c1 h.box x⟩
theorem Rt.set2 {w W : World} {L g b : Nat} {line : ByteArray} {p v q d n : Value} (h : Rt w L line g b p v q d n W) (x : Value) : Rt w L line g b p v x d n (W.setCell ⟨b, 2, none⟩ x) := ⟨h.rq.set h.lt x, h.lt, set_c2 h.box x⟩
theorem Rt.set3 {w W : World} {L g b : Nat} {line : ByteArray} {p v q d n : Value} (h : Rt w L line g b p v q d n W) (x : Value) : Rt w L line g b p v q x n (W.setCell ⟨b, 3, none⟩ x) := ⟨h.rq.set h.lt x, h.lt, set_c3 h.box x⟩
theorem Rt.set4 {w W : World} {L g b : Nat} {line : ByteArray} {p v q d n : Value} (h : Rt w L line g b p v q d n W) (x : Value) : Rt w L line g b p v q d x (W.setCell ⟨b, 4, none⟩ x) := ⟨h.rq.set h.lt x, h.lt, set_c4 h.box x⟩
theorem words_any (line : ByteArray) (hs : line.size ≤ 1048576) (L : Nat) (hL : (wordsOf line).length = L) (w : World) :
    Calls Tryd.prog 36 #[.string line] (w.alloc (.cells #[.int .i64 0, .int .u32 0, .int .i64 0, .bool false, .int .u32 0] 28)) fun e w' => (∃ g cap : Nat, e = .returned (.slice (some ⟨g, 0, none⟩) L cap) ∧ Rq w L line g w' ∧ g < w'.heap.size) := by
  refine (words_calls line hs _).mono ?_
  rintro e w' ⟨g, cap, rfl, hc, hg1, hg2, hB⟩
  simp only [World.size_alloc] at hg1
  refine ⟨g, cap, by rw [hL], ⟨((Below.refl _ _).alloc (Nat.le_refl _) _).trans (hB.mono (by simp)), box_on hB, fun i hi => hc i (by omega), by omega⟩, hg2⟩
theorem text12_at (p q : Int) (v n : Nat) (d : Bool) (ho : v < 4294967296 ∧ n < 4294967296) {T : ByteArray} {rt : Bool} (hT : textS ⟨p, v, q, d, n⟩ = T) (hr : rightB ⟨p, v, q, d, n⟩ = rt) (w : World) :
    Calls Tryd.prog 12 #[.agg #[.int .i64 p, .int .u32 (v : Int), .int .i64 q, .bool d, .int .u32 (n : Int)]] w fun e w' => e = .returned (.tuple #[.string T, .bool rt]) ∧ Below w.heap.size w w' := by
  have h := text12_any ⟨p, v, q, d, n⟩ ho w
  rw [hT, hr] at h
  exact h
theorem ref_key {line : ByteArray} {S : Svc} (h : (rightB S = true → svcL S = line.data.toList → parseS line = some S) ∧ (¬ (rightB S = true ∧ svcL S = line.data.toList) → parseS line = none)) :
    ∃ (T : ByteArray) (rt b : Bool), (textS S = T ∧ rightB S = rt) ∧ (T.toList == line.toList) = b ∧ (T.toList != line.toList) = !b ∧ (rt = true → b = true → parseS line = some S) ∧ ((rt = false ∨ b = false) → parseS line = none) := by
  refine ⟨_, _, _, ⟨rfl, rfl⟩, rfl, rfl, fun h1 h2 => ?_, fun h1 => h.2 ?_⟩
  · refine h.1 h1 ?_
    unfold textS at h2
    rw [if_pos h1, ByteArray.toList_eq, ByteArray.toList_eq] at h2
    exact eq_of_beq h2
  · rintro ⟨h2, h3⟩
    rcases h1 with h1 | h1
    · rw [h1] at h2; cases h2
    · unfold textS at h1
      rw [if_pos h2, ByteArray.toList_eq, ByteArray.toList_eq] at h1
      simp [h3] at h1
set_option maxRecDepth 100000 in
set_option maxHeartbeats 1000000 in
theorem refParse_short (line : ByteArray) (hs : line.size ≤ 1048576) (h3 : (wordsOf line).length < 3) (w : World) :
    Calls Tryd.prog 14 #[.string line] w fun e w' => e = .returned (.tuple #[zeroV, .bool false]) ∧ Below w.heap.size w w' := by
  obtain ⟨L, hL⟩ : ∃ L, (wordsOf line).length = L := ⟨_, rfl⟩
  have HS := Lib.hid (words_any line hs L hL w)
  have h30 : (L : Int) < 3 := by omega
  clear h3 hL
  go_enter Tryd.func14, Tryd.ntmps14
  go_wp2_with (go_at_call 36; refine HS.out.mono ?_; rintro e wx ⟨g, cap, rfl, hR, hg⟩; have HR := Lib.hid hR; obtain ⟨⟨d0, d1, d2, d3, d4⟩, f0, f1, f2, f3, f4⟩ := cells5 hR.res; clear hR hg)
  have hres := HR.out.res
  refine bodyPost_ret (v := .tuple #[zeroV, .bool false]) ?_ rfl ⟨rfl, (put5 hres (Nat.le_refl _) HR.out.below _ _ _ _ _).2⟩
  simp [results, Tryd.f14, go_sem, World.cell?, World.setCell, Array.getElem?_modify, hres, zeroV]

set_option maxRecDepth 100000 in
set_option maxHeartbeats 4000000 in
theorem refParse_long (line : ByteArray) (hs : line.size ≤ 1048576) (h3 : 3 ≤ (wordsOf line).length) (w : World) :
    Calls Tryd.prog 14 #[.string line] w fun e w' => e = .returned (.tuple #[((parseS line).map Svc.val).getD zeroV, .bool (parseS line).isSome]) ∧ Below w.heap.size w w' := by
  obtain ⟨L, hL⟩ : ∃ L, (wordsOf line).length = L := ⟨_, rfl⟩
  have HS := Lib.hid (words_any line hs L hL w)
  have h30 : ¬ (L : Int) < 3 := by omega
  have l0 : 0 < L := by omega
  have l1 : 1 < L := by omega
  have l2 : 2 < L := by omega
  obtain ⟨x0, hx0⟩ : ∃ x, word (wordsOf line) 0 = x := ⟨_, rfl⟩
  obtain ⟨x1, hx1⟩ : ∃ x, word (wordsOf line) 1 = x := ⟨_, rfl⟩
  obtain ⟨x2, hx2⟩ : ∃ x, word (wordsOf line) 2 = x := ⟨_, rfl⟩
  obtain ⟨x3, hx3⟩ : ∃ x, word (wordsOf line) 3 = x := ⟨_, rfl⟩
  have z1 : x1.size < 4294967281 := by have := words_size line 1; rw [hx1] at this; omega
  have z3 : x3.size < 4294967281 := by have := words_size line 3; rw [hx3] at this; omega
  have HEND := Lib.hid (endR_calls x1 z1)
  have HP3 := Lib.hid (ref02Parse_calls x3 z3)
  have hlt := endR_lt x1
  have hn3 := ref_none (line := line)
  rw [hL, hx1, hx3] at hn3
  obtain ⟨⟨v, q, ok⟩, he⟩ : ∃ r, endR x1 = r := ⟨_, rfl⟩
  rw [he] at HEND hlt hn3
  obtain ⟨r3, hr3⟩ : ∃ r, parseOf x3 = r := ⟨_, rfl⟩
  have hr3l : r3.getD 0 < 4294967296 := by rw [← hr3]; exact parse_lt x3
  rw [hr3] at HP3 hn3
  obtain ⟨b0, hb0⟩ : ∃ b, (x0.toList == [116, 99, 112]) = b := ⟨_, rfl⟩
  obtain ⟨d, hd⟩ : ∃ b, (x2.toList == [100, 115, 114]) = b := ⟨_, rfl⟩
  have HIS := Lib.hid (fun (p : Int) (n : Nat) h1 h2 h3 => ref_is (line := line) (p := p) (n := n) hL hx0 hx1 hx2 hx3 he h1 hd.symm h2 h3)
  rw [hb0, hr3] at HIS
  have HX0 := Lib.hid hx0
  have HX1 := Lib.hid hx1
  have HX2 := Lib.hid hx2
  have HX3 := Lib.hid hx3
  have HN3 := Lib.hid hn3
  have HLT := Lib.hid hlt
  have HR3 := Lib.hid hr3l
  dsimp only at HEND
  clear h3 hL hx0 hx1 hx2 hx3 z1 z3 he hr3 hn3 hlt hr3l hs
  cases ok
  · -- the second word is no end
    have hps : parseS line = none := HN3.out (.inr (.inl rfl))
    rw [hps]
    cases b0
    all_goals
      go_enter Tryd.func14, Tryd.ntmps14
      go_wp2_with (first
        | (go_at_call 36; refine HS.out.mono ?_; rintro e wx ⟨g, cap, rfl, hR, hg⟩; have HT0 := Lib.hid (Rt.start (p := .int .i64 17) (v := .int .u32 0) (q := .int .i64 0) (d := .bool false) (n := .int .u32 0) hR hg); obtain ⟨⟨g0, g1, g2, g3, g4⟩, e0, e1, e2, e3, e4⟩ := cells5 HT0.out.box; have c0 := HT0.out.rq.row 0 l0; rw [HX0.out] at c0; have c1 := HT0.out.rq.row 1 l1; rw [HX1.out] at c1; have HT6 := Lib.hid (Rt.start (p := .int .i64 6) (v := .int .u32 0) (q := .int .i64 0) (d := .bool false) (n := .int .u32 0) hR hg); have c1' := HT6.out.rq.row 1 l1; rw [HX1.out] at c1'; have HG := Lib.hid hg; clear hR hg)
        | (go_at_call 37; refine (HEND.out _).mono ?_; rintro e wy ⟨rfl, hB⟩; clear c0 c1 c1' g0 g1 g2 g3 g4 e0 e1 e2 e3 e4; obtain ⟨pp, hF⟩ : ∃ p, Rt w L line g _ p (.int .u32 0) (.int .i64 0) (.bool false) (.int .u32 0) wy := (by first | exact ⟨_, HT6.out.go hB⟩ | exact ⟨_, HT0.out.go hB⟩); have HF := Lib.hid hF; obtain ⟨⟨d0, d1, d2, d3, d4⟩, f0, f1, f2, f3, f4⟩ := cells5 HF.out.rq.res; clear hB hF))
      have hres := HF.out.rq.res
      refine bodyPost_ret (v := .tuple #[zeroV, .bool false]) ?_ rfl ⟨rfl, (put5 hres (Nat.le_refl _) HF.out.rq.below _ _ _ _ _).2⟩
      simp [results, Tryd.f14, go_sem, World.cell?, World.setCell, Array.getElem?_modify, hres, zeroV]
  · by_cases h3L : 3 < L
    · have h3L' : (3 : Int) < (L : Int) := by omega
      cases r3 with
      | none =>
        have hps : parseS line = none := HN3.out (.inr (.inr ⟨h3L, rfl⟩))
        rw [hps]
        cases b0
        all_goals
          go_enter Tryd.func14, Tryd.ntmps14
          go_wp2_with (first
            | (go_at_call 36; refine HS.out.mono ?_; rintro e wx ⟨g, cap, rfl, hR, hg⟩; have HT0 := Lib.hid (Rt.start (p := .int .i64 17) (v := .int .u32 0) (q := .int .i64 0) (d := .bool false) (n := .int .u32 0) hR hg); obtain ⟨⟨g0, g1, g2, g3, g4⟩, e0, e1, e2, e3, e4⟩ := cells5 HT0.out.box; have c0 := HT0.out.rq.row 0 l0; rw [HX0.out] at c0; have c1 := HT0.out.rq.row 1 l1; rw [HX1.out] at c1; have HT6 := Lib.hid (Rt.start (p := .int .i64 6) (v := .int .u32 0) (q := .int .i64 0) (d := .bool false) (n := .int .u32 0) hR hg); have c1' := HT6.out.rq.row 1 l1; rw [HX1.out] at c1'; have HG := Lib.hid hg; clear hR hg)
            | (go_at_call 37; refine (HEND.out _).mono ?_; rintro e wy ⟨rfl, hB⟩; clear c0 c1 c1' g0 g1 g2 g3 g4 e0 e1 e2 e3 e4; obtain ⟨pp, hF⟩ : ∃ p, Rt w L line g _ p (.int .u32 0) (.int .i64 0) (.bool false) (.int .u32 0) wy := (by first | exact ⟨_, HT6.out.go hB⟩ | exact ⟨_, HT0.out.go hB⟩); have HF := Lib.hid hF; obtain ⟨⟨g0, g1, g2, g3, g4⟩, e0, e1, e2, e3, e4⟩ := cells5 HF.out.box; have c2 := ((HF.out.set1 (.int .u32 (v : Int))).set2 (.int .i64 (q : Int))).rq.row 2 l2; rw [HX2.out] at c2; have c3 := (((HF.out.set1 (.int .u32 (v : Int))).set2 (.int .i64 (q : Int))).set3 (.bool d)).rq.row 3 h3L; rw [HX3.out] at c3; clear hB hF)
            | (go_at_call 38; refine (HP3.out _).mono ?_; rintro e wz ⟨rfl, hB⟩; clear c2 c3 g0 g1 g2 g3 g4 e0 e1 e2 e3 e4; replace HF := Lib.hid ((((HF.out.set1 (.int .u32 (v : Int))).set2 (.int .i64 (q : Int))).set3 (.bool d)).go hB); obtain ⟨⟨d0, d1, d2, d3, d4⟩, f0, f1, f2, f3, f4⟩ := cells5 HF.out.rq.res; clear hB))
          have hres := HF.out.rq.res
          refine bodyPost_ret (v := .tuple #[zeroV, .bool false]) ?_ rfl ⟨rfl, (put5 hres (Nat.le_refl _) HF.out.rq.below _ _ _ _ _).2⟩
          simp [results, Tryd.f14, go_sem, World.cell?, World.setCell, Array.getElem?_modify, hres, zeroV]
      | some n =>
        have hIS := HIS.out (if b0 = true then 6 else 17) n rfl (by rw [if_pos h3L]; rfl) ⟨HLT.out.1, HR3.out⟩
        clear HN3
        cases b0
        · simp only [Bool.false_eq_true, if_false] at hIS
          obtain ⟨T, rt, b, HTR, hb1, hb2, hy, hn⟩ := ref_key hIS
          have HTX := Lib.hid (text12_at 17 (q : Int) v n d ⟨HLT.out.1, HR3.out⟩ HTR.1 HTR.2)
          have HY := Lib.hid hy
          have HN := Lib.hid hn
          clear HTR hy hn hIS HIS
          have hcase : (rt = true ∧ b = true ∧ parseS line = some ⟨17, v, (q : Int), d, n⟩) ∨ ((rt = false ∨ (rt = true ∧ b = false)) ∧ parseS line = none) := by cases rt <;> cases b <;> first | exact .inl ⟨rfl, rfl, HY.out rfl rfl⟩ | exact .inr ⟨.inl rfl, HN.out (.inl rfl)⟩ | exact .inr ⟨.inr ⟨rfl, rfl⟩, HN.out (.inr rfl)⟩
          clear HY HN
          rcases hcase with ⟨rfl, rfl, hps⟩ | ⟨hrb, hps⟩
          · rw [hps]
            go_enter Tryd.func14, Tryd.ntmps14
            go_wp2_with (first
                | (go_at_call 36; refine HS.out.mono ?_; rintro e wx ⟨g, cap, rfl, hR, hg⟩; have HT0 := Lib.hid (Rt.start (p := .int .i64 17) (v := .int .u32 0) (q := .int .i64 0) (d := .bool false) (n := .int .u32 0) hR hg); obtain ⟨⟨g0, g1, g2, g3, g4⟩, e0, e1, e2, e3, e4⟩ := cells5 HT0.out.box; have c0 := HT0.out.rq.row 0 l0; rw [HX0.out] at c0; have c1 := HT0.out.rq.row 1 l1; rw [HX1.out] at c1; have HT6 := Lib.hid (Rt.start (p := .int .i64 6) (v := .int .u32 0) (q := .int .i64 0) (d := .bool false) (n := .int .u32 0) hR hg); have c1' := HT6.out.rq.row 1 l1; rw [HX1.out] at c1'; have HG := Lib.hid hg; clear hR hg)
                | (go_at_call 37; refine (HEND.out _).mono ?_; rintro e wy ⟨rfl, hB⟩; clear c0 c1 c1' g0 g1 g2 g3 g4 e0 e1 e2 e3 e4; have HF := Lib.hid ((HT0.out).go hB); obtain ⟨⟨g0, g1, g2, g3, g4⟩, e0, e1, e2, e3, e4⟩ := cells5 HF.out.box; have c2 := ((HF.out.set1 (.int .u32 (v : Int))).set2 (.int .i64 (q : Int))).rq.row 2 l2; rw [HX2.out] at c2; have c3 := (((HF.out.set1 (.int .u32 (v : Int))).set2 (.int .i64 (q : Int))).set3 (.bool d)).rq.row 3 h3L; rw [HX3.out] at c3; clear hB)
                | (go_at_call 38; refine (HP3.out _).mono ?_; rintro e wz ⟨rfl, hB⟩; clear c2 c3 g0 g1 g2 g3 g4 e0 e1 e2 e3 e4; replace HF := Lib.hid ((((HF.out.set1 (.int .u32 (v : Int))).set2 (.int .i64 (q : Int))).set3 (.bool d)).go hB); obtain ⟨⟨g0, g1, g2, g3, g4⟩, e0, e1, e2, e3, e4⟩ := cells5 HF.out.box; clear hB)
                | (go_at_call 12; refine (HTX.out _).mono ?_; rintro e wt ⟨rfl, hB⟩; clear g0 g1 g2 g3 g4 e0 e1 e2 e3 e4; replace HF := Lib.hid ((HF.out.set4 (.int .u32 (n : Int))).go hB); obtain ⟨⟨g0, g1, g2, g3, g4⟩, e0, e1, e2, e3, e4⟩ := cells5 HF.out.box; obtain ⟨⟨d0, d1, d2, d3, d4⟩, f0, f1, f2, f3, f4⟩ := cells5 HF.out.rq.res; clear hB))
            have hres := HF.out.rq.res
            refine bodyPost_ret (v := .tuple #[Svc.val ⟨17, v, (q : Int), d, n⟩, .bool true]) ?_ rfl ⟨rfl, (put5 hres (Nat.le_refl _) HF.out.rq.below _ _ _ _ _).2⟩
            simp [results, Tryd.f14, go_sem, World.cell?, World.setCell, Array.getElem?_modify, hres, Svc.val]
          · rw [hps]
            rcases hrb with rfl | ⟨rfl, rfl⟩
            all_goals
              go_enter Tryd.func14, Tryd.ntmps14
              go_wp2_with (first
                | (go_at_call 36; refine HS.out.mono ?_; rintro e wx ⟨g, cap, rfl, hR, hg⟩; have HT0 := Lib.hid (Rt.start (p := .int .i64 17) (v := .int .u32 0) (q := .int .i64 0) (d := .bool false) (n := .int .u32 0) hR hg); obtain ⟨⟨g0, g1, g2, g3, g4⟩, e0, e1, e2, e3, e4⟩ := cells5 HT0.out.box; have c0 := HT0.out.rq.row 0 l0; rw [HX0.out] at c0; have c1 := HT0.out.rq.row 1 l1; rw [HX1.out] at c1; have HT6 := Lib.hid (Rt.start (p := .int .i64 6) (v := .int .u32 0) (q := .int .i64 0) (d := .bool false) (n := .int .u32 0) hR hg); have c1' := HT6.out.rq.row 1 l1; rw [HX1.out] at c1'; have HG := Lib.hid hg; clear hR hg)
                | (go_at_call 37; refine (HEND.out _).mono ?_; rintro e wy ⟨rfl, hB⟩; clear c0 c1 c1' g0 g1 g2 g3 g4 e0 e1 e2 e3 e4; have HF := Lib.hid ((HT0.out).go hB); obtain ⟨⟨g0, g1, g2, g3, g4⟩, e0, e1, e2, e3, e4⟩ := cells5 HF.out.box; have c2 := ((HF.out.set1 (.int .u32 (v : Int))).set2 (.int .i64 (q : Int))).rq.row 2 l2; rw [HX2.out] at c2; have c3 := (((HF.out.set1 (.int .u32 (v : Int))).set2 (.int .i64 (q : Int))).set3 (.bool d)).rq.row 3 h3L; rw [HX3.out] at c3; clear hB)
                | (go_at_call 38; refine (HP3.out _).mono ?_; rintro e wz ⟨rfl, hB⟩; clear c2 c3 g0 g1 g2 g3 g4 e0 e1 e2 e3 e4; replace HF := Lib.hid ((((HF.out.set1 (.int .u32 (v : Int))).set2 (.int .i64 (q : Int))).set3 (.bool d)).go hB); obtain ⟨⟨g0, g1, g2, g3, g4⟩, e0, e1, e2, e3, e4⟩ := cells5 HF.out.box; clear hB)
                | (go_at_call 12; refine (HTX.out _).mono ?_; rintro e wt ⟨rfl, hB⟩; clear g0 g1 g2 g3 g4 e0 e1 e2 e3 e4; replace HF := Lib.hid ((HF.out.set4 (.int .u32 (n : Int))).go hB); obtain ⟨⟨g0, g1, g2, g3, g4⟩, e0, e1, e2, e3, e4⟩ := cells5 HF.out.box; obtain ⟨⟨d0, d1, d2, d3, d4⟩, f0, f1, f2, f3, f4⟩ := cells5 HF.out.rq.res; clear hB))
              have hres := HF.out.rq.res
              refine bodyPost_ret (v := .tuple #[zeroV, .bool false]) ?_ rfl ⟨rfl, (put5 hres (Nat.le_refl _) HF.out.rq.below _ _ _ _ _).2⟩
              simp [results, Tryd.f14, go_sem, World.cell?, World.setCell, Array.getElem?_modify, hres, zeroV]
        · simp only [if_true] at hIS
          obtain ⟨T, rt, b, HTR, hb1, hb2, hy, hn⟩ := ref_key hIS
          have HTX := Lib.hid (text12_at 6 (q : Int) v n d ⟨HLT.out.1, HR3.out⟩ HTR.1 HTR.2)
          have HY := Lib.hid hy
          have HN := Lib.hid hn
          clear HTR hy hn hIS HIS
          have hcase : (rt = true ∧ b = true ∧ parseS line = some ⟨6, v, (q : Int), d, n⟩) ∨ ((rt = false ∨ (rt = true ∧ b = false)) ∧ parseS line = none) := by cases rt <;> cases b <;> first | exact .inl ⟨rfl, rfl, HY.out rfl rfl⟩ | exact .inr ⟨.inl rfl, HN.out (.inl rfl)⟩ | exact .inr ⟨.inr ⟨rfl, rfl⟩, HN.out (.inr rfl)⟩
          clear HY HN
          rcases hcase with ⟨rfl, rfl, hps⟩ | ⟨hrb, hps⟩
          · rw [hps]
            go_enter Tryd.func14, Tryd.ntmps14
            go_wp2_with (first
                | (go_at_call 36; refine HS.out.mono ?_; rintro e wx ⟨g, cap, rfl, hR, hg⟩; have HT0 := Lib.hid (Rt.start (p := .int .i64 17) (v := .int .u32 0) (q := .int .i64 0) (d := .bool false) (n := .int .u32 0) hR hg); obtain ⟨⟨g0, g1, g2, g3, g4⟩, e0, e1, e2, e3, e4⟩ := cells5 HT0.out.box; have c0 := HT0.out.rq.row 0 l0; rw [HX0.out] at c0; have c1 := HT0.out.rq.row 1 l1; rw [HX1.out] at c1; have HT6 := Lib.hid (Rt.start (p := .int .i64 6) (v := .int .u32 0) (q := .int .i64 0) (d := .bool false) (n := .int .u32 0) hR hg); have c1' := HT6.out.rq.row 1 l1; rw [HX1.out] at c1'; have HG := Lib.hid hg; clear hR hg)
                | (go_at_call 37; refine (HEND.out _).mono ?_; rintro e wy ⟨rfl, hB⟩; clear c0 c1 c1' g0 g1 g2 g3 g4 e0 e1 e2 e3 e4; have HF := Lib.hid (HT6.out.go hB); obtain ⟨⟨g0, g1, g2, g3, g4⟩, e0, e1, e2, e3, e4⟩ := cells5 HF.out.box; have c2 := ((HF.out.set1 (.int .u32 (v : Int))).set2 (.int .i64 (q : Int))).rq.row 2 l2; rw [HX2.out] at c2; have c3 := (((HF.out.set1 (.int .u32 (v : Int))).set2 (.int .i64 (q : Int))).set3 (.bool d)).rq.row 3 h3L; rw [HX3.out] at c3; clear hB)
                | (go_at_call 38; refine (HP3.out _).mono ?_; rintro e wz ⟨rfl, hB⟩; clear c2 c3 g0 g1 g2 g3 g4 e0 e1 e2 e3 e4; replace HF := Lib.hid ((((HF.out.set1 (.int .u32 (v : Int))).set2 (.int .i64 (q : Int))).set3 (.bool d)).go hB); obtain ⟨⟨g0, g1, g2, g3, g4⟩, e0, e1, e2, e3, e4⟩ := cells5 HF.out.box; clear hB)
                | (go_at_call 12; refine (HTX.out _).mono ?_; rintro e wt ⟨rfl, hB⟩; clear g0 g1 g2 g3 g4 e0 e1 e2 e3 e4; replace HF := Lib.hid ((HF.out.set4 (.int .u32 (n : Int))).go hB); obtain ⟨⟨g0, g1, g2, g3, g4⟩, e0, e1, e2, e3, e4⟩ := cells5 HF.out.box; obtain ⟨⟨d0, d1, d2, d3, d4⟩, f0, f1, f2, f3, f4⟩ := cells5 HF.out.rq.res; clear hB))
            have hres := HF.out.rq.res
            refine bodyPost_ret (v := .tuple #[Svc.val ⟨6, v, (q : Int), d, n⟩, .bool true]) ?_ rfl ⟨rfl, (put5 hres (Nat.le_refl _) HF.out.rq.below _ _ _ _ _).2⟩
            simp [results, Tryd.f14, go_sem, World.cell?, World.setCell, Array.getElem?_modify, hres, Svc.val]
          · rw [hps]
            rcases hrb with rfl | ⟨rfl, rfl⟩
            all_goals
              go_enter Tryd.func14, Tryd.ntmps14
              go_wp2_with (first
                | (go_at_call 36; refine HS.out.mono ?_; rintro e wx ⟨g, cap, rfl, hR, hg⟩; have HT0 := Lib.hid (Rt.start (p := .int .i64 17) (v := .int .u32 0) (q := .int .i64 0) (d := .bool false) (n := .int .u32 0) hR hg); obtain ⟨⟨g0, g1, g2, g3, g4⟩, e0, e1, e2, e3, e4⟩ := cells5 HT0.out.box; have c0 := HT0.out.rq.row 0 l0; rw [HX0.out] at c0; have c1 := HT0.out.rq.row 1 l1; rw [HX1.out] at c1; have HT6 := Lib.hid (Rt.start (p := .int .i64 6) (v := .int .u32 0) (q := .int .i64 0) (d := .bool false) (n := .int .u32 0) hR hg); have c1' := HT6.out.rq.row 1 l1; rw [HX1.out] at c1'; have HG := Lib.hid hg; clear hR hg)
                | (go_at_call 37; refine (HEND.out _).mono ?_; rintro e wy ⟨rfl, hB⟩; clear c0 c1 c1' g0 g1 g2 g3 g4 e0 e1 e2 e3 e4; have HF := Lib.hid (HT6.out.go hB); obtain ⟨⟨g0, g1, g2, g3, g4⟩, e0, e1, e2, e3, e4⟩ := cells5 HF.out.box; have c2 := ((HF.out.set1 (.int .u32 (v : Int))).set2 (.int .i64 (q : Int))).rq.row 2 l2; rw [HX2.out] at c2; have c3 := (((HF.out.set1 (.int .u32 (v : Int))).set2 (.int .i64 (q : Int))).set3 (.bool d)).rq.row 3 h3L; rw [HX3.out] at c3; clear hB)
                | (go_at_call 38; refine (HP3.out _).mono ?_; rintro e wz ⟨rfl, hB⟩; clear c2 c3 g0 g1 g2 g3 g4 e0 e1 e2 e3 e4; replace HF := Lib.hid ((((HF.out.set1 (.int .u32 (v : Int))).set2 (.int .i64 (q : Int))).set3 (.bool d)).go hB); obtain ⟨⟨g0, g1, g2, g3, g4⟩, e0, e1, e2, e3, e4⟩ := cells5 HF.out.box; clear hB)
                | (go_at_call 12; refine (HTX.out _).mono ?_; rintro e wt ⟨rfl, hB⟩; clear g0 g1 g2 g3 g4 e0 e1 e2 e3 e4; replace HF := Lib.hid ((HF.out.set4 (.int .u32 (n : Int))).go hB); obtain ⟨⟨g0, g1, g2, g3, g4⟩, e0, e1, e2, e3, e4⟩ := cells5 HF.out.box; obtain ⟨⟨d0, d1, d2, d3, d4⟩, f0, f1, f2, f3, f4⟩ := cells5 HF.out.rq.res; clear hB))
              have hres := HF.out.rq.res
              refine bodyPost_ret (v := .tuple #[zeroV, .bool false]) ?_ rfl ⟨rfl, (put5 hres (Nat.le_refl _) HF.out.rq.below _ _ _ _ _).2⟩
              simp [results, Tryd.f14, go_sem, World.cell?, World.setCell, Array.getElem?_modify, hres, zeroV]
    · have h3L' : ¬ (3 : Int) < (L : Int) := by omega
      have hIS := HIS.out (if b0 = true then 6 else 17) 0 rfl (by rw [if_neg h3L]) ⟨HLT.out.1, by omega⟩
      clear HN3 HP3
      cases b0
      · simp only [Bool.false_eq_true, if_false] at hIS
        obtain ⟨T, rt, b, HTR, hb1, hb2, hy, hn⟩ := ref_key hIS
        have HTX := Lib.hid (text12_at 17 (q : Int) v 0 d ⟨HLT.out.1, by omega⟩ HTR.1 HTR.2)
        have HY := Lib.hid hy
        have HN := Lib.hid hn
        clear HTR hy hn hIS HIS
        have hcase : (rt = true ∧ b = true ∧ parseS line = some ⟨17, v, (q : Int), d, 0⟩) ∨ ((rt = false ∨ (rt = true ∧ b = false)) ∧ parseS line = none) := by cases rt <;> cases b <;> first | exact .inl ⟨rfl, rfl, HY.out rfl rfl⟩ | exact .inr ⟨.inl rfl, HN.out (.inl rfl)⟩ | exact .inr ⟨.inr ⟨rfl, rfl⟩, HN.out (.inr rfl)⟩
        clear HY HN
        rcases hcase with ⟨rfl, rfl, hps⟩ | ⟨hrb, hps⟩
        · rw [hps]
          go_enter Tryd.func14, Tryd.ntmps14
          go_wp2_with (first
              | (go_at_call 36; refine HS.out.mono ?_; rintro e wx ⟨g, cap, rfl, hR, hg⟩; have HT0 := Lib.hid (Rt.start (p := .int .i64 17) (v := .int .u32 0) (q := .int .i64 0) (d := .bool false) (n := .int .u32 0) hR hg); obtain ⟨⟨g0, g1, g2, g3, g4⟩, e0, e1, e2, e3, e4⟩ := cells5 HT0.out.box; have c0 := HT0.out.rq.row 0 l0; rw [HX0.out] at c0; have c1 := HT0.out.rq.row 1 l1; rw [HX1.out] at c1; have HT6 := Lib.hid (Rt.start (p := .int .i64 6) (v := .int .u32 0) (q := .int .i64 0) (d := .bool false) (n := .int .u32 0) hR hg); have c1' := HT6.out.rq.row 1 l1; rw [HX1.out] at c1'; have HG := Lib.hid hg; clear hR hg)
              | (go_at_call 37; refine (HEND.out _).mono ?_; rintro e wy ⟨rfl, hB⟩; clear c0 c1 c1' g0 g1 g2 g3 g4 e0 e1 e2 e3 e4; have HF := Lib.hid ((HT0.out).go hB); obtain ⟨⟨g0, g1, g2, g3, g4⟩, e0, e1, e2, e3, e4⟩ := cells5 HF.out.box; have c2 := ((HF.out.set1 (.int .u32 (v : Int))).set2 (.int .i64 (q : Int))).rq.row 2 l2; rw [HX2.out] at c2; clear hB)
              | (go_at_call 12; refine (HTX.out _).mono ?_; rintro e wt ⟨rfl, hB⟩; clear c2 g0 g1 g2 g3 g4 e0 e1 e2 e3 e4; replace HF := Lib.hid ((((HF.out.set1 (.int .u32 (v : Int))).set2 (.int .i64 (q : Int))).set3 (.bool d)).go hB); obtain ⟨⟨g0, g1, g2, g3, g4⟩, e0, e1, e2, e3, e4⟩ := cells5 HF.out.box; obtain ⟨⟨d0, d1, d2, d3, d4⟩, f0, f1, f2, f3, f4⟩ := cells5 HF.out.rq.res; clear hB))
          have hres := HF.out.rq.res
          refine bodyPost_ret (v := .tuple #[Svc.val ⟨17, v, (q : Int), d, 0⟩, .bool true]) ?_ rfl ⟨rfl, (put5 hres (Nat.le_refl _) HF.out.rq.below _ _ _ _ _).2⟩
          simp [results, Tryd.f14, go_sem, World.cell?, World.setCell, Array.getElem?_modify, hres, Svc.val]
        · rw [hps]
          rcases hrb with rfl | ⟨rfl, rfl⟩
          all_goals
            go_enter Tryd.func14, Tryd.ntmps14
            go_wp2_with (first
              | (go_at_call 36; refine HS.out.mono ?_; rintro e wx ⟨g, cap, rfl, hR, hg⟩; have HT0 := Lib.hid (Rt.start (p := .int .i64 17) (v := .int .u32 0) (q := .int .i64 0) (d := .bool false) (n := .int .u32 0) hR hg); obtain ⟨⟨g0, g1, g2, g3, g4⟩, e0, e1, e2, e3, e4⟩ := cells5 HT0.out.box; have c0 := HT0.out.rq.row 0 l0; rw [HX0.out] at c0; have c1 := HT0.out.rq.row 1 l1; rw [HX1.out] at c1; have HT6 := Lib.hid (Rt.start (p := .int .i64 6) (v := .int .u32 0) (q := .int .i64 0) (d := .bool false) (n := .int .u32 0) hR hg); have c1' := HT6.out.rq.row 1 l1; rw [HX1.out] at c1'; have HG := Lib.hid hg; clear hR hg)
              | (go_at_call 37; refine (HEND.out _).mono ?_; rintro e wy ⟨rfl, hB⟩; clear c0 c1 c1' g0 g1 g2 g3 g4 e0 e1 e2 e3 e4; have HF := Lib.hid ((HT0.out).go hB); obtain ⟨⟨g0, g1, g2, g3, g4⟩, e0, e1, e2, e3, e4⟩ := cells5 HF.out.box; have c2 := ((HF.out.set1 (.int .u32 (v : Int))).set2 (.int .i64 (q : Int))).rq.row 2 l2; rw [HX2.out] at c2; clear hB)
              | (go_at_call 12; refine (HTX.out _).mono ?_; rintro e wt ⟨rfl, hB⟩; clear c2 g0 g1 g2 g3 g4 e0 e1 e2 e3 e4; replace HF := Lib.hid ((((HF.out.set1 (.int .u32 (v : Int))).set2 (.int .i64 (q : Int))).set3 (.bool d)).go hB); obtain ⟨⟨g0, g1, g2, g3, g4⟩, e0, e1, e2, e3, e4⟩ := cells5 HF.out.box; obtain ⟨⟨d0, d1, d2, d3, d4⟩, f0, f1, f2, f3, f4⟩ := cells5 HF.out.rq.res; clear hB))
            have hres := HF.out.rq.res
            refine bodyPost_ret (v := .tuple #[zeroV, .bool false]) ?_ rfl ⟨rfl, (put5 hres (Nat.le_refl _) HF.out.rq.below _ _ _ _ _).2⟩
            simp [results, Tryd.f14, go_sem, World.cell?, World.setCell, Array.getElem?_modify, hres, zeroV]
      · simp only [if_true] at hIS
        obtain ⟨T, rt, b, HTR, hb1, hb2, hy, hn⟩ := ref_key hIS
        have HTX := Lib.hid (text12_at 6 (q : Int) v 0 d ⟨HLT.out.1, by omega⟩ HTR.1 HTR.2)
        have HY := Lib.hid hy
        have HN := Lib.hid hn
        clear HTR hy hn hIS HIS
        have hcase : (rt = true ∧ b = true ∧ parseS line = some ⟨6, v, (q : Int), d, 0⟩) ∨ ((rt = false ∨ (rt = true ∧ b = false)) ∧ parseS line = none) := by cases rt <;> cases b <;> first | exact .inl ⟨rfl, rfl, HY.out rfl rfl⟩ | exact .inr ⟨.inl rfl, HN.out (.inl rfl)⟩ | exact .inr ⟨.inr ⟨rfl, rfl⟩, HN.out (.inr rfl)⟩
        clear HY HN
        rcases hcase with ⟨rfl, rfl, hps⟩ | ⟨hrb, hps⟩
        · rw [hps]
          go_enter Tryd.func14, Tryd.ntmps14
          go_wp2_with (first
              | (go_at_call 36; refine HS.out.mono ?_; rintro e wx ⟨g, cap, rfl, hR, hg⟩; have HT0 := Lib.hid (Rt.start (p := .int .i64 17) (v := .int .u32 0) (q := .int .i64 0) (d := .bool false) (n := .int .u32 0) hR hg); obtain ⟨⟨g0, g1, g2, g3, g4⟩, e0, e1, e2, e3, e4⟩ := cells5 HT0.out.box; have c0 := HT0.out.rq.row 0 l0; rw [HX0.out] at c0; have c1 := HT0.out.rq.row 1 l1; rw [HX1.out] at c1; have HT6 := Lib.hid (Rt.start (p := .int .i64 6) (v := .int .u32 0) (q := .int .i64 0) (d := .bool false) (n := .int .u32 0) hR hg); have c1' := HT6.out.rq.row 1 l1; rw [HX1.out] at c1'; have HG := Lib.hid hg; clear hR hg)
              | (go_at_call 37; refine (HEND.out _).mono ?_; rintro e wy ⟨rfl, hB⟩; clear c0 c1 c1' g0 g1 g2 g3 g4 e0 e1 e2 e3 e4; have HF := Lib.hid (HT6.out.go hB); obtain ⟨⟨g0, g1, g2, g3, g4⟩, e0, e1, e2, e3, e4⟩ := cells5 HF.out.box; have c2 := ((HF.out.set1 (.int .u32 (v : Int))).set2 (.int .i64 (q : Int))).rq.row 2 l2; rw [HX2.out] at c2; clear hB)
              | (go_at_call 12; refine (HTX.out _).mono ?_; rintro e wt ⟨rfl, hB⟩; clear c2 g0 g1 g2 g3 g4 e0 e1 e2 e3 e4; replace HF := Lib.hid ((((HF.out.set1 (.int .u32 (v : Int))).set2 (.int .i64 (q : Int))).set3 (.bool d)).go hB); obtain ⟨⟨g0, g1, g2, g3, g4⟩, e0, e1, e2, e3, e4⟩ := cells5 HF.out.box; obtain ⟨⟨d0, d1, d2, d3, d4⟩, f0, f1, f2, f3, f4⟩ := cells5 HF.out.rq.res; clear hB))
          have hres := HF.out.rq.res
          refine bodyPost_ret (v := .tuple #[Svc.val ⟨6, v, (q : Int), d, 0⟩, .bool true]) ?_ rfl ⟨rfl, (put5 hres (Nat.le_refl _) HF.out.rq.below _ _ _ _ _).2⟩
          simp [results, Tryd.f14, go_sem, World.cell?, World.setCell, Array.getElem?_modify, hres, Svc.val]
        · rw [hps]
          rcases hrb with rfl | ⟨rfl, rfl⟩
          all_goals
            go_enter Tryd.func14, Tryd.ntmps14
            go_wp2_with (first
              | (go_at_call 36; refine HS.out.mono ?_; rintro e wx ⟨g, cap, rfl, hR, hg⟩; have HT0 := Lib.hid (Rt.start (p := .int .i64 17) (v := .int .u32 0) (q := .int .i64 0) (d := .bool false) (n := .int .u32 0) hR hg); obtain ⟨⟨g0, g1, g2, g3, g4⟩, e0, e1, e2, e3, e4⟩ := cells5 HT0.out.box; have c0 := HT0.out.rq.row 0 l0; rw [HX0.out] at c0; have c1 := HT0.out.rq.row 1 l1; rw [HX1.out] at c1; have HT6 := Lib.hid (Rt.start (p := .int .i64 6) (v := .int .u32 0) (q := .int .i64 0) (d := .bool false) (n := .int .u32 0) hR hg); have c1' := HT6.out.rq.row 1 l1; rw [HX1.out] at c1'; have HG := Lib.hid hg; clear hR hg)
              | (go_at_call 37; refine (HEND.out _).mono ?_; rintro e wy ⟨rfl, hB⟩; clear c0 c1 c1' g0 g1 g2 g3 g4 e0 e1 e2 e3 e4; have HF := Lib.hid (HT6.out.go hB); obtain ⟨⟨g0, g1, g2, g3, g4⟩, e0, e1, e2, e3, e4⟩ := cells5 HF.out.box; have c2 := ((HF.out.set1 (.int .u32 (v : Int))).set2 (.int .i64 (q : Int))).rq.row 2 l2; rw [HX2.out] at c2; clear hB)
              | (go_at_call 12; refine (HTX.out _).mono ?_; rintro e wt ⟨rfl, hB⟩; clear c2 g0 g1 g2 g3 g4 e0 e1 e2 e3 e4; replace HF := Lib.hid ((((HF.out.set1 (.int .u32 (v : Int))).set2 (.int .i64 (q : Int))).set3 (.bool d)).go hB); obtain ⟨⟨g0, g1, g2, g3, g4⟩, e0, e1, e2, e3, e4⟩ := cells5 HF.out.box; obtain ⟨⟨d0, d1, d2, d3, d4⟩, f0, f1, f2, f3, f4⟩ := cells5 HF.out.rq.res; clear hB))
            have hres := HF.out.rq.res
            refine bodyPost_ret (v := .tuple #[zeroV, .bool false]) ?_ rfl ⟨rfl, (put5 hres (Nat.le_refl _) HF.out.rq.below _ _ _ _ _).2⟩
            simp [results, Tryd.f14, go_sem, World.cell?, World.setCell, Array.getElem?_modify, hres, zeroV]
theorem refParse_calls (line : ByteArray) (hs : line.size ≤ 1048576) (w : World) :
    Calls Tryd.prog 14 #[.string line] w fun e w' => e = .returned (.tuple #[(gotS line).val, .bool (parseS line).isSome]) ∧ Below w.heap.size w w' := by
  have h : Calls Tryd.prog 14 #[.string line] w fun e w' => e = .returned (.tuple #[((parseS line).map Svc.val).getD zeroV, .bool (parseS line).isSome]) ∧ Below w.heap.size w w' := by
    by_cases h3 : (wordsOf line).length < 3
    · have hp : parseS line = none := ref_none (.inl h3)
      rw [hp]
      exact refParse_short line hs h3 w
    · exact refParse_long line hs (by omega) w
  refine h.mono ?_
  rintro e w' ⟨rfl, hb⟩
  refine ⟨?_, hb⟩
  unfold gotS
  cases parseS line <;> rfl
end Go.Proofs.YtbahcpejippcjaaDoor
