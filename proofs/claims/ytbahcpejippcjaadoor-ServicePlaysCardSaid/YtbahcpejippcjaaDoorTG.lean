import Derived.Test.YtbahcpejippcjaaDoorTF
namespace Go.Proofs.YtbahcpejippcjaaDoor
open Go.RowKit Go.Shelf

/-- What the law holds in boxes. -/
structure Bx3 (b0 b1 b2 : Nat) (s x : Svc) (W : World) : Prop where
  bs : W.heap[b0]? = some (.cells #[.int .i64 s.proto, .int .u32 (s.vip : Int), .int .i64 s.port, .bool s.dsr, .int .u32 (s.nat : Int)] 24 (0, 0))
  bx : W.heap[b1]? = some (.cells #[.int .i64 x.proto, .int .u32 (x.vip : Int), .int .i64 x.port, .bool x.dsr, .int .u32 (x.nat : Int)] 24 (0, 0))
  by_ : W.heap[b2]? = some (.cells #[.int .i64 x.proto, .int .u32 (x.vip : Int), .int .i64 x.port, .bool x.dsr, .int .u32 (x.nat : Int)] 28 (0, 0))
theorem Bx3.go {b0 b1 b2 : Nat} {s x : Svc} {W W' : World} (h : Bx3 b0 b1 b2 s x W) (hB : Below W.heap.size W W') : Bx3 b0 b1 b2 s x W' := ⟨box_go h.bs hB, box_go h.bx hB, box_go h.by_ hB⟩
def C5 (W : World) (b : Nat) (s : Svc) : Prop := W.cell? ⟨b, 0, none⟩ = some (.int .i64 s.proto) ∧ W.cell? ⟨b, 1, none⟩ = some (.int .u32 (s.vip : Int)) ∧ W.cell? ⟨b, 2, none⟩ = some (.int .i64 s.port) ∧ W.cell? ⟨b, 3, none⟩ = some (.bool s.dsr) ∧ W.cell? ⟨b, 4, none⟩ = some (.int .u32 (s.nat : Int))
theorem ref11_at (p q : Int) (v n : Nat) (d : Bool) (w : World) : Calls Tryd.prog 11 #[.agg #[.int .i64 p, .int .u32 (v : Int), .int .i64 q, .bool d, .int .u32 (n : Int)]] w fun e w' => e = .returned (.agg #[.int .i64 p, .int .u32 (v : Int), .int .i64 q, .bool d, .int .u32 (n : Int)]) ∧ Below w.heap.size w w' := ref11_calls ⟨p, v, q, d, n⟩ w

theorem held_bx {b0 b1 b2 : Nat} {a0 a2 x0 x2 : Int} {a1 a4 x1 x4 : Nat} {a3 x3 : Bool} {W0 W : World} (h : Bx3 b0 b1 b2 ⟨a0, a1, a2, a3, a4⟩ ⟨x0, x1, x2, x3, x4⟩ W0) (hB : Below W0.heap.size W0 W) :
    (W.cell? ⟨b0, 0, none⟩ = some (.int .i64 a0) ∧ W.cell? ⟨b0, 1, none⟩ = some (.int .u32 (a1 : Int)) ∧ W.cell? ⟨b0, 2, none⟩ = some (.int .i64 a2) ∧ W.cell? ⟨b0, 3, none⟩ = some (.bool a3) ∧ W.cell? ⟨b0, 4, none⟩ = some (.int .u32 (a4 : Int))) ∧ (W.cell? ⟨b1, 0, none⟩ = some (.int .i64 x0) ∧ W.cell? ⟨b1, 1, none⟩ = some (.int .u32 (x1 : Int)) ∧ W.cell? ⟨b1, 2, none⟩ = some (.int .i64 x2) ∧ W.cell? ⟨b1, 3, none⟩ = some (.bool x3) ∧ W.cell? ⟨b1, 4, none⟩ = some (.int .u32 (x4 : Int))) ∧ (W.cell? ⟨b2, 0, none⟩ = some (.int .i64 x0) ∧ W.cell? ⟨b2, 1, none⟩ = some (.int .u32 (x1 : Int)) ∧ W.cell? ⟨b2, 2, none⟩ = some (.int .i64 x2) ∧ W.cell? ⟨b2, 3, none⟩ = some (.bool x3) ∧ W.cell? ⟨b2, 4, none⟩ = some (.int .u32 (x4 : Int))) := by
  have g := h.go hB
  exact ⟨(cells5 g.bs).1, (cells5 g.bx).1, (cells5 g.by_).1⟩
set_option maxRecDepth 100000 in
set_option maxHeartbeats 3200000 in
theorem walk_ServiceTexts (s : Svc) (line : ByteArray) (w : World) (ho : s.ok) (hl : line.size ≤ 1048576) (hE : Env w) :
    Calls Tryd.prog 3 #[s.val, .string line] w fun e w' => e = .returned (.bool true) ∧ Below w.heap.size w w' := by
  obtain ⟨T, hT⟩ : ∃ T, textS s = T := ⟨_, rfl⟩
  obtain ⟨rt, hrt⟩ : ∃ b, rightB s = b := ⟨_, rfl⟩
  have HT := Lib.hid (textS_any s ho)
  have HU := Lib.hid (text12_any s ho)
  have HX := Lib.hid (parse_any line (by omega))
  have HY := Lib.hid (refParse_calls line hl)
  have HR := Lib.hid (right_calls s)
  have HQ := Lib.hid (right16_calls s)
  obtain ⟨X, hX⟩ : ∃ X, gotS line = X := ⟨_, rfl⟩
  obtain ⟨ok, hok⟩ : ∃ b, (parseS line).isSome = b := ⟨_, rfl⟩
  rw [hT, hrt] at HT HU
  rw [hrt] at HR HQ
  rw [hX, hok] at HX HY
  clear hT hrt hX hok ho hl
  obtain ⟨a0, a1, a2, a3, a4⟩ := s
  obtain ⟨x0, x1, x2, x3, x4⟩ := X
  have HE := Lib.hid hE
  have HB := Lib.hid (Below.refl w.heap.size w)
  clear hE
  unfold Svc.val at *
  dsimp only at *
  go_enter Tryd.func3, Tryd.ntmps3
  go_upto_region 8 with (first
    | (go_at_call 9; refine (examples19 _ (HE.out.below (HB.out.alloc HB.out.size _))).mono ?_; rintro e wx ⟨rfl, hB⟩; have HS := Lib.hid (box_on hB); obtain ⟨⟨d0, d1, d2, d3, d4⟩, _⟩ := cells5 HS.out; replace HB := Lib.hid (below_step (HB.out.alloc HB.out.size _) hB); clear hB)
    | (go_at_call 10; refine (HT.out _ (HE.out.below HB.out)).mono ?_; rintro e w1 ⟨rfl, hB⟩; replace HS := Lib.hid (box_go HS.out hB); clear d0 d1 d2 d3 d4; obtain ⟨⟨d0, d1, d2, d3, d4⟩, _⟩ := cells5 HS.out; replace HB := Lib.hid (below_step HB.out hB); clear hB)
    | (go_at_call 11; refine (ref11_at _ _ _ _ _ _).mono ?_; rintro e w2 ⟨rfl, hB⟩; replace HS := Lib.hid (box_go HS.out hB); clear d0 d1 d2 d3 d4; replace HB := Lib.hid (below_step HB.out hB); clear hB)
    | (go_at_call 12; refine (HU.out _).mono ?_; rintro e w3 ⟨rfl, hB⟩; replace HS := Lib.hid (box_go HS.out hB); replace HB := Lib.hid (below_step HB.out hB); clear hB)
    | (go_at_call 13; refine (HX.out _ (HE.out.below HB.out)).mono ?_; rintro e w4 ⟨rfl, hB⟩; replace HS := Lib.hid (box_go HS.out hB); replace HB := Lib.hid (below_step HB.out hB); clear hB)
    | (go_at_call 14; refine (HY.out _).mono ?_; rintro e w5 ⟨rfl, hB⟩; have HX0 := Lib.hid (box_on hB); replace HS := Lib.hid (box_over HS.out hB); replace HB := Lib.hid (below_step (HB.out.alloc HB.out.size _) hB); clear hB))
  have h5 := (Below.refl w5.heap.size w5).alloc (Nat.le_refl _) (.cells #[.int .i64 x0, .int .u32 (x1 : Int), .int .i64 x2, .bool x3, .int .u32 (x4 : Int)] 28)
  have HBX := Lib.hid (Bx3.mk (s := ⟨a0, a1, a2, a3, a4⟩) (x := ⟨x0, x1, x2, x3, x4⟩) (box_go HS.out h5) (box_go HX0.out h5) (World.alloc_heap_new w5 _))
  replace HB := Lib.hid (below_step HB.out h5)
  clear h5 HS HX0
  go_region_held3 (fun W : World => (W.cell? ⟨w.heap.size, 0, none⟩ = some (.int .i64 a0) ∧ W.cell? ⟨w.heap.size, 1, none⟩ = some (.int .u32 (a1 : Int)) ∧ W.cell? ⟨w.heap.size, 2, none⟩ = some (.int .i64 a2) ∧ W.cell? ⟨w.heap.size, 3, none⟩ = some (.bool a3) ∧ W.cell? ⟨w.heap.size, 4, none⟩ = some (.int .u32 (a4 : Int))) ∧ (W.cell? ⟨w4.heap.size, 0, none⟩ = some (.int .i64 x0) ∧ W.cell? ⟨w4.heap.size, 1, none⟩ = some (.int .u32 (x1 : Int)) ∧ W.cell? ⟨w4.heap.size, 2, none⟩ = some (.int .i64 x2) ∧ W.cell? ⟨w4.heap.size, 3, none⟩ = some (.bool x3) ∧ W.cell? ⟨w4.heap.size, 4, none⟩ = some (.int .u32 (x4 : Int))) ∧ (W.cell? ⟨w5.heap.size, 0, none⟩ = some (.int .i64 x0) ∧ W.cell? ⟨w5.heap.size, 1, none⟩ = some (.int .u32 (x1 : Int)) ∧ W.cell? ⟨w5.heap.size, 2, none⟩ = some (.int .i64 x2) ∧ W.cell? ⟨w5.heap.size, 3, none⟩ = some (.bool x3) ∧ W.cell? ⟨w5.heap.size, 4, none⟩ = some (.int .u32 (x4 : Int)))) (first | exact held_bx HBX.out (Below.refl _ _) | exact held_bx HBX.out (Below.refl _ _).drew | exact held_bx HBX.out ((Below.refl _ _).alloc (Nat.le_refl _) _)) (first
    | (go_at_call 15; refine (HR.out _).mono ?_; rintro e wa ⟨rfl, hB⟩; replace HBX := Lib.hid ((HBX.out.go (below_drewN _ 1)).go hB); replace HB := Lib.hid (below_step HB.out.drew hB); clear hB)
    | (go_at_call 11; refine (ref11_at _ _ _ _ _ _).mono ?_; rintro e wb ⟨rfl, hB⟩; replace HBX := Lib.hid (HBX.out.go hB); replace HB := Lib.hid (below_step HB.out hB); clear hB)
    | (go_at_call 16; refine (HQ.out _).mono ?_; rintro e wc ⟨rfl, hB⟩; replace HBX := Lib.hid (HBX.out.go hB); replace HB := Lib.hid (below_step HB.out hB); clear hB))
  all_goals
    go_wp2_with fail
    go_ret
    exact ⟨rfl, HB.out⟩
end Go.Proofs.YtbahcpejippcjaaDoor
