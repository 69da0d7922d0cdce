import Derived.Test.YtbahcpejippcjaaDoorS5
namespace Go.Proofs.YtbahcpejippcjaaDoor
open Go.RowKit Go.Shelf Go.Maps

def exS : Svc := ⟨17, 167772161, 53, true, 0⟩
theorem part_is {a j v : Nat} {l : List UInt8} (h1 : a / 2 ^ (8 * (3 - j)) % 256 = v) (h2 : Lib.itoa (v : Int) = l) : (part a j).data.toList = l := by
  unfold part
  rw [h1, h2]
theorem ex_text : textOf 167772161 = [49, 48, 46, 48, 46, 48, 46, 49] := by
  unfold textOf
  rw [show (List.range 4).map (fun j => (part 167772161 j).data.toList) = [(part 167772161 0).data.toList, (part 167772161 1).data.toList, (part 167772161 2).data.toList, (part 167772161 3).data.toList] from rfl,
    part_is (v := 10) (l := [49, 48]) (by decide) (by simp [Lib.itoa, Lib.decDigits]), part_is (v := 0) (l := [48]) (by decide) (by simp [Lib.itoa, Lib.decDigits]), part_is (v := 0) (l := [48]) (by decide) (by simp [Lib.itoa, Lib.decDigits]), part_is (v := 1) (l := [49]) (by decide) (by simp [Lib.itoa, Lib.decDigits])]
  rfl
theorem ex_right : rightB exS = true := by decide
theorem ex_svc : svcL exS = [117, 100, 112, 32, 49, 48, 46, 48, 46, 48, 46, 49, 58, 53, 51, 32, 100, 115, 114] := by
  have h : Lib.itoa (53 : Int) = [53, 51] := by simp [Lib.itoa, Lib.decDigits]
  unfold svcL atL howL exS
  simp only [ex_text, h]
  rfl
theorem ex_ok : exS.ok := by unfold Svc.ok exS; exact ⟨by decide, by decide⟩
theorem ex_line : (⟨(svcL exS).toArray⟩ : ByteArray) = ⟨#[117, 100, 112, 32, 49, 48, 46, 48, 46, 48, 46, 49, 58, 53, 51, 32, 100, 115, 114]⟩ := by rw [ex_svc]
theorem ex_parse1 : parseS ⟨#[117, 100, 112, 32, 49, 48, 46, 48, 46, 48, 46, 49, 58, 53, 51, 32, 100, 115, 114]⟩ = some exS := by
  rw [← ex_line]
  exact parse_svc ex_right ex_ok
theorem ex_words : wordsOf ⟨#[117, 100, 112, 32, 49, 48, 46, 48, 46, 48, 46, 49, 58, 48, 53, 51, 32, 100, 115, 114]⟩ = [⟨#[117, 100, 112]⟩, ⟨#[49, 48, 46, 48, 46, 48, 46, 49, 58, 48, 53, 51]⟩, ⟨#[100, 115, 114]⟩] := by kernel_rfl
theorem ex_vip : vipOf ⟨#[49, 48, 46, 48, 46, 48, 46, 49, 58, 48, 53, 51]⟩ = ⟨#[49, 48, 46, 48, 46, 48, 46, 49]⟩ := by kernel_rfl
theorem ex_port : portOf ⟨#[49, 48, 46, 48, 46, 48, 46, 49, 58, 48, 53, 51]⟩ = ⟨#[48, 53, 51]⟩ := by kernel_rfl
theorem ex_portN : portN ⟨#[48, 53, 51]⟩ = 53 := by kernel_rfl
theorem ex_readS : readS (wordsOf ⟨#[117, 100, 112, 32, 49, 48, 46, 48, 46, 48, 46, 49, 58, 48, 53, 51, 32, 100, 115, 114]⟩) = exS := by
  have hp : parseOf ⟨#[49, 48, 46, 48, 46, 48, 46, 49]⟩ = some 167772161 := by
    have := parse_text 167772161 (by omega)
    rw [ex_text] at this
    exact this
  rw [ex_words]
  unfold readS word
  have hpr : protoOf ⟨#[117, 100, 112]⟩ = 17 := by decide
  simp only [List.getD_cons_zero, List.getD_cons_succ, ex_vip, ex_port, ex_portN, hp, hpr]
  simp [exS]
theorem ex_parse2 : parseS ⟨#[117, 100, 112, 32, 49, 48, 46, 48, 46, 48, 46, 49, 58, 48, 53, 51, 32, 100, 115, 114]⟩ = none := by
  unfold parseS
  rw [if_neg (by rw [ex_words]; simp), ex_readS, if_neg]
  rintro ⟨_, h⟩
  rw [ex_svc] at h
  exact absurd h (by decide)
theorem ex_parse_calls1 (w : World) (hE : Env w) : Calls Tryd.prog 13 #[.string ⟨#[117, 100, 112, 32, 49, 48, 46, 48, 46, 48, 46, 49, 58, 53, 51, 32, 100, 115, 114]⟩] w fun e w' => e = .returned (.tuple #[.agg #[.int .i64 17, .int .u32 167772161, .int .i64 53, .bool true, .int .u32 0], .bool true]) ∧ Below w.heap.size w w' := by
  have := parse_line ⟨#[117, 100, 112, 32, 49, 48, 46, 48, 46, 48, 46, 49, 58, 53, 51, 32, 100, 115, 114]⟩ (by decide) w hE
  rw [ex_parse1] at this
  exact this
theorem ex_parse_calls2 (w : World) (hE : Env w) : Calls Tryd.prog 13 #[.string ⟨#[117, 100, 112, 32, 49, 48, 46, 48, 46, 48, 46, 49, 58, 48, 53, 51, 32, 100, 115, 114]⟩] w fun e w' => e = .returned (.tuple #[.agg #[.int .i64 0, .int .u32 0, .int .i64 0, .bool false, .int .u32 0], .bool false]) ∧ Below w.heap.size w w' := by
  have := parse_line ⟨#[117, 100, 112, 32, 49, 48, 46, 48, 46, 48, 46, 49, 58, 48, 53, 51, 32, 100, 115, 114]⟩ (by decide) w hE
  rw [ex_parse2] at this
  exact this
theorem ex_text_calls (w : World) (hE : Env w) : Calls Tryd.prog 10 #[.agg #[.int .i64 17, .int .u32 167772161, .int .i64 53, .bool true, .int .u32 0]] w fun e w' => e = .returned (.tuple #[.string ⟨#[117, 100, 112, 32, 49, 48, 46, 48, 46, 48, 46, 49, 58, 53, 51, 32, 100, 115, 114]⟩, .bool true]) ∧ Below w.heap.size w w' := by
  have := text_yes exS ex_right ex_ok w hE
  rw [ex_line] at this
  exact this
/-- The end of the example is found behind its coming. -/
def ExIn (T M : Nat) (W : World) : Prop := (∃ g' kl, MapE M 1 g' W ∧ g' kl = some (.int .i64 1) ∧ keyOf Tryd.prog 83 (endV 17 167772161 53) = some kl ∧ WideAt.IsKeyLit kl) ∧ W.cell? ⟨T, 325, none⟩ = some (.map (some M))
theorem ex_add {W : World} {B T M : Nat} (hT : TabM T M (fun _ => zeroS) W) (hM : MapE M 0 (fun _ => none) W) (hTM : T ≠ M) (hBT : B ≤ T) (hBM : B ≤ M) :
    Calls Tryd.prog 18 #[.pointer (some ⟨T, 0, none⟩), .agg #[.int .i64 17, .int .u32 167772161, .int .i64 53, .bool true, .int .u32 0]] W fun e w' => e = .returned (.tuple #[.int .i64 1, .int .i64 0]) ∧ Below B W w' ∧ ExIn T M w' := by
  obtain ⟨kl, h1, h2⟩ := ex_read
  refine (add_first hT hM hTM (by unfold maxLen; omega) exS ex_right (fun _ _ _ => rfl) h1 h2 rfl hBT hBM).mono ?_
  rintro e w' ⟨he, hb, ⟨g', h3, h4⟩, h5⟩
  exact ⟨he, hb, ⟨g', kl, h3, h4, h1, h2⟩, h5⟩
theorem ex_find {W : World} {T M : Nat} (h : ExIn T M W) : Calls Tryd.prog 19 #[.pointer (some ⟨T, 0, none⟩), .int .i64 17, .int .u32 167772161, .int .i64 53] W fun e w' => e = .returned (.tuple #[.int .i64 1, .bool true]) ∧ Below W.heap.size W w' := by
  obtain ⟨⟨g', kl, h3, h4, h1, h2⟩, h5⟩ := h
  exact find_is h5 h3 h1 h2 1 true (by rw [h4]; exact ⟨rfl, rfl⟩)
theorem new_map {W w' : World} (h : w'.heap[W.heap.size]? = some (.map #[] 0)) : MapE W.heap.size 0 (fun _ => none) w' := (MapE.made W).block (h.trans (World.alloc_heap_new W _).symm)
set_option maxRecDepth 100000 in
set_option maxHeartbeats 600000 in
theorem examples19 (w : World) (hE : Env w) : Calls Tryd.prog 9 #[] w fun e w' => e = .returned (.bool true) ∧ Below w.heap.size w w' := by
  have HE := Lib.hid hE
  have HB := Lib.hid (Below.refl w.heap.size w)
  have ST := Stage.mk 0
  clear hE
  go_enter Tryd.func9, Tryd.ntmps9
  go_wp2_with (first
    | (go_at_call 13; have := (ST : Stage 0); clear this; replace ST := Stage.mk 1; refine (ex_parse_calls1 _ (HE.out.below HB.out)).mono ?_; rintro e w1 ⟨rfl, hB⟩; replace HB := Lib.hid (below_step HB.out hB); clear hB)
    | (go_at_call 10; refine (ex_text_calls _ (HE.out.below (HB.out.alloc HB.out.size _))).mono ?_; rintro e w2 ⟨rfl, hB⟩; have HS := Lib.hid (box_on hB); replace HB := Lib.hid (below_step (HB.out.alloc HB.out.size _) hB); clear hB)
    | (go_at_call 13; have := (ST : Stage 1); clear this; replace ST := Stage.mk 2; refine (ex_parse_calls2 _ (HE.out.below HB.out)).mono ?_; rintro e w3 ⟨rfl, hB⟩; replace HS := Lib.hid (box_go HS.out hB); replace HB := Lib.hid (below_step HB.out hB); clear hB)
    | (go_at_call 17; refine (new_calls _).mono ?_; rintro e w4 ⟨rfl, hT, hM, hB⟩; have hM := new_map hM; simp only [World.size_alloc] at hT hM; have HM := Lib.hid hM; have HT := Lib.hid hT; have hS := box_go (box_go HS.out ((Below.refl _ _).alloc (Nat.le_refl _) _)) hB; obtain ⟨⟨d0, d1, d2, d3, d4⟩, _⟩ := cells5 hS; have HSZ := Lib.hid HB.out.size; replace HB := Lib.hid (below_step (HB.out.alloc HB.out.size _) hB); clear hB hT hM hS)
    | (go_at_call 18; refine (ex_add (B := w.heap.size) HT.out HM.out (by omega) (by have := HSZ.out; omega) (by have := HSZ.out; omega)).mono ?_; rintro e w5 ⟨rfl, hB, hI⟩; replace HB := Lib.hid (HB.out.trans hB); have HI := Lib.hid hI; clear hB hI)
    | (go_at_call 19; refine (ex_find HI.out).mono ?_; rintro e w6 ⟨rfl, hB⟩; replace HB := Lib.hid (below_step HB.out hB); clear hB))
  go_ret
  exact ⟨rfl, HB.out⟩
end Go.Proofs.YtbahcpejippcjaaDoor
