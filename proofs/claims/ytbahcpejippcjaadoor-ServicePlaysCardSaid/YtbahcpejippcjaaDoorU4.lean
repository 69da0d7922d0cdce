import Derived.Test.YtbahcpejippcjaaDoorU3
import Derived.BigRegion
namespace Go.Proofs.YtbahcpejippcjaaDoor
open Go.RowKit Go.Shelf Go.Maps

set_option maxRecDepth 100000 in
set_option maxHeartbeats 1000000 in
theorem add_bad {T M n : Nat} {f : Nat → Svc} {g : Lit → Option Value} {w : World} (h : TabM T M f w) (hm : MapE M n g w) (s : Svc) (hr : rightB s = false) {kl : Lit} (hk : keyOf Tryd.prog 83 (endV s.proto s.vip s.port) = some kl) (hkl : WideAt.IsKeyLit kl) :
    Calls Tryd.prog 18 #[.pointer (some ⟨T, 0, none⟩), s.val] w fun e w' => e = .returned (.tuple #[.int .i64 0, .int .i64 1]) ∧ Below w.heap.size w w' := by
  have HR := Lib.hid (right_calls s)
  rw [hr] at HR
  have HH := Lib.hid h
  have HM := Lib.hid hm
  have HB := Lib.hid (Below.refl w.heap.size w)
  unfold Svc.val at *
  clear h hm hr
  go_enter Tryd.func18, Tryd.ntmps18
  go_wp2_with fail
  refine wp_genP _ ?_
  intro W5 hW5
  have HX : Boxes w T s W5 := by rw [hW5]; exact Boxes.made w T s
  obtain ⟨x, ok, hxo⟩ : ∃ (x : Value) (ok : Bool), ∀ j, (Instr.lookup 78 (.map (some M)) (.agg #[.int .i64 s.proto, .int .u32 (s.vip : Int), .int .i64 s.port]) true).run Tryd.prog (W5.drewN j) = .ok (.tuple #[x, .bool ok]) (W5.drewN j) :=
    ⟨_, _, fun j => (HM.out.block (w' := W5.drewN j) (HX.below.block M HM.out.lt)).look_ok Tryd.underlying78 (zero3 _) hk hkl⟩
  have hT5 := HH.out.below HX.below
  have c1 := hT5.ids
  obtain ⟨x0, _⟩ := cell1 HX.b0
  obtain ⟨y0, y1, y2⟩ := cells3 HX.b4
  obtain ⟨⟨z0, z1, z2, z3, z4⟩, _⟩ := cells5 HX.b1
  have HBX := Lib.hid HX
  clear hW5 HX hT5
  go_quiet (fail)
  clear hxo c1 x0 y0 y1 y2
  obtain ⟨k2, k2f⟩ := cell1 HBX.out.b2
  obtain ⟨k3, k3f⟩ := cell1 HBX.out.b3
  go_wp2_with (go_at_call 15; refine (HR.out _).mono ?_; rintro e W6 ⟨rfl, hB⟩; clear k2 k2f k3 k3f; replace HBX := Lib.hid ((HBX.out.go (below_drewN _ _)).go hB); obtain ⟨k2, k2f⟩ := cell1 HBX.out.b2; obtain ⟨k3, k3f⟩ := cell1 HBX.out.b3; clear hB)
  refine bodyPost_ret (v := .tuple #[.int .i64 0, .int .i64 1]) ?_ rfl ⟨rfl, (HBX.out.below.setCell (p := ⟨w.heap.size + 1 + 1, 0, none⟩) (by simp; omega) _).setCell (p := ⟨w.heap.size + 1 + 1 + 1, 0, none⟩) (by simp; omega) _⟩
  simp [results, Tryd.f18, go_sem, k2, k3]
set_option maxRecDepth 100000 in
set_option maxHeartbeats 1000000 in
theorem add_there {T M n : Nat} {f : Nat → Svc} {g : Lit → Option Value} {w : World} (h : TabM T M f w) (hm : MapE M n g w) (s : Svc) (hr : rightB s = true) {kl : Lit} (hk : keyOf Tryd.prog 83 (endV s.proto s.vip s.port) = some kl) (hkl : WideAt.IsKeyLit kl) {x : Int} (hg : g kl = some (.int .i64 x)) :
    Calls Tryd.prog 18 #[.pointer (some ⟨T, 0, none⟩), s.val] w fun e w' => e = .returned (.tuple #[.int .i64 0, .int .i64 20]) ∧ Below w.heap.size w w' := by
  have HR := Lib.hid (right_calls s)
  rw [hr] at HR
  have HH := Lib.hid h
  have HM := Lib.hid hm
  have HB := Lib.hid (Below.refl w.heap.size w)
  unfold Svc.val at *
  clear h hm hr
  go_enter Tryd.func18, Tryd.ntmps18
  go_wp2_with fail
  refine wp_genP _ ?_
  intro W5 hW5
  have HX : Boxes w T s W5 := by rw [hW5]; exact Boxes.made w T s
  have hxo : ∀ j, (Instr.lookup 78 (.map (some M)) (.agg #[.int .i64 s.proto, .int .u32 (s.vip : Int), .int .i64 s.port]) true).run Tryd.prog (W5.drewN j) = .ok (.tuple #[.int .i64 x, .bool true]) (W5.drewN j) := fun j => by
    have hE := (HM.out.block (w' := W5.drewN j) (HX.below.block M HM.out.lt)).look_ok Tryd.underlying78 (zero3 _) hk hkl
    rw [hg] at hE
    exact hE
  have hT5 := HH.out.below HX.below
  have c1 := hT5.ids
  obtain ⟨x0, _⟩ := cell1 HX.b0
  obtain ⟨y0, y1, y2⟩ := cells3 HX.b4
  obtain ⟨⟨z0, z1, z2, z3, z4⟩, _⟩ := cells5 HX.b1
  have HBX := Lib.hid HX
  clear hW5 HX hT5 hg
  go_quiet (fail)
  clear hxo c1 x0 y0 y1 y2
  go_wp2_with (go_at_call 15; refine (HR.out _).mono ?_; rintro e W6 ⟨rfl, hB⟩; replace HBX := Lib.hid ((HBX.out.go (below_drewN _ _)).go hB); obtain ⟨k2, k2f⟩ := cell1 HBX.out.b2; obtain ⟨k3, k3f⟩ := cell1 HBX.out.b3; clear hB)
  refine bodyPost_ret (v := .tuple #[.int .i64 0, .int .i64 20]) ?_ rfl ⟨rfl, (HBX.out.below.setCell (p := ⟨w.heap.size + 1 + 1, 0, none⟩) (by simp; omega) _).setCell (p := ⟨w.heap.size + 1 + 1 + 1, 0, none⟩) (by simp; omega) _⟩
  simp [results, Tryd.f18, go_sem, k2, k3]

/-! ### Get -/
theorem get_yes {T M k : Nat} {f : Nat → Svc} {W : World} (h : TabM T M f W) (h1 : 1 ≤ k) (h2 : k ≤ 64) (h0 : (f k).proto ≠ 0) :
    Calls Tryd.prog 22 #[.pointer (some ⟨T, 0, none⟩), .int .i64 (k : Int)] W fun e W' => e = .returned (.tuple #[.agg #[.int .i64 (f k).proto, .int .u32 ((f k).vip : Int), .int .i64 (f k).port, .bool (f k).dsr, .int .u32 ((f k).nat : Int)], .bool true]) ∧ W' = W.alloc (.cells #[.int .i64 (f k).proto, .int .u32 ((f k).vip : Int), .int .i64 (f k).port, .bool (f k).dsr, .int .u32 ((f k).nat : Int)] 24) :=
  (callsIn_wide (n := 9)).1 (getY_in Fence.wide 9 trivial rfl T M k f W h h1 h2 h0)
/-- Is there somebody of a number? -/
def there (f : Nat → Svc) (k : Int) : Prop := 1 ≤ k ∧ k ≤ 64 ∧ (f k.toNat).proto ≠ 0
set_option maxRecDepth 100000 in
theorem get_no {T M : Nat} {k : Int} {f : Nat → Svc} {W : World} (h : TabM T M f W) (hn : ¬ there f k) :
    Calls Tryd.prog 22 #[.pointer (some ⟨T, 0, none⟩), .int .i64 k] W fun e W' => e = .returned (.tuple #[.agg #[.int .i64 0, .int .u32 0, .int .i64 0, .bool false, .int .u32 0], .bool false]) ∧ W' = W.alloc (.cells #[.int .i64 0, .int .u32 0, .int .i64 0, .bool false, .int .u32 0] 24) := by
  by_cases h1 : 1 ≤ k ∧ k ≤ 64
  · obtain ⟨j, rfl⟩ : ∃ j : Nat, k = (j : Int) := ⟨k.toNat, by omega⟩
    have h0 : (f j).proto = 0 := by
      refine Decidable.of_not_not fun h0 => hn ⟨h1.1, h1.2, ?_⟩
      rw [Int.toNat_natCast]
      exact h0
    exact (callsIn_wide (n := 9)).1 (get_in Fence.wide 9 trivial rfl T M j f W h (by omega) (by omega) h0)
  · clear h hn
    have h2 : k < 1 ∨ 64 < k := by omega
    clear h1
    rcases h2 with h2 | h2
    · go_enter Tryd.func22, Tryd.ntmps22
      go_wp2_with fail
      exact bodyPost_ret (v := .tuple #[.agg #[.int .i64 0, .int .u32 0, .int .i64 0, .bool false, .int .u32 0], .bool false]) (by simp [results, Tryd.f22, go_sem]) rfl ⟨rfl, rfl⟩
    · have h3 : ¬ k < 1 := by omega
      go_enter Tryd.func22, Tryd.ntmps22
      go_wp2_with fail
      exact bodyPost_ret (v := .tuple #[.agg #[.int .i64 0, .int .u32 0, .int .i64 0, .bool false, .int .u32 0], .bool false]) (by simp [results, Tryd.f22, go_sem]) rfl ⟨rfl, rfl⟩

/-! ### Remove -/
open Classical in
theorem MapE.drop {b n : Nat} {f : Lit → Option Value} {w : World} (h : MapE b n f w) {t e : TypeId} (ht : Tryd.prog.underlying t = some (.map 83 e)) {key : Value} {kl : Lit} (hk : keyOf Tryd.prog 83 key = some kl) (hkl : WideAt.IsKeyLit kl) (ty : TypeId) :
    ∃ w', (Builtin.delete_ #[t, 83] ty #[.map (some b), key]).run Tryd.prog w = .ok (.tuple #[]) w' ∧ MapE b n (fun j => if j = kl then none else f j) w' ∧ w.grownBy w' (some b) := by
  obtain ⟨D, h1, h2⟩ := h
  obtain ⟨w', hrun, h3, h4⟩ := h1.drop end_keys ht hk ty
  refine ⟨w', hrun, ⟨_, h3, fun j hj => ?_⟩, h4.grown⟩
  by_cases e : j = kl
  · subst e
    simp only [if_true]
    exact ⟨fun z => atKey_del_same _, has_del_same⟩
  · simp only [if_neg e]
    exact ⟨fun z => by rw [atKey_del_other e]; exact (h2 j hj).1 z, by rw [has_del_other e]; exact (h2 j hj).2⟩
theorem remove_no {T M : Nat} {k : Int} {f : Nat → Svc} {w : World} (h : TabM T M f w) (hn : ¬ there f k) :
    Calls Tryd.prog 20 #[.pointer (some ⟨T, 0, none⟩), .int .i64 k] w fun e w' => e = .returned (.bool false) ∧ Below w.heap.size w w' := by
  have HG := Lib.hid (get_no h hn)
  clear h hn
  go_enter Tryd.func20, Tryd.ntmps20
  go_wp2_with (go_at_call 22; refine HG.out.mono ?_; rintro e wx ⟨rfl, rfl⟩)
  go_ret
  exact ⟨rfl, ((Below.refl _ w).alloc (Nat.le_refl _) _).alloc (by simp) _⟩
open Classical in
/-- What Remove leaves. -/
def Removed (T M n : Nat) (f : Nat → Svc) (g : Lit → Option Value) (kl : Lit) (k : Nat) (w : World) (e : Ending) (w' : World) : Prop :=
  e = .returned (.bool true) ∧ Two T M w w' ∧ MapE M n (fun j => if j = kl then none else g j) w' ∧ TabM T M (upd f k zeroS) w'
theorem remove_facts {T M n k : Nat} {f : Nat → Svc} {g : Lit → Option Value} {w W : World} (hT : TabM T M f w) (hm : MapE M n g w) (hTM : T ≠ M) (hb : Below w.heap.size w W) {key : Value} {kl : Lit} (hk : keyOf Tryd.prog 83 key = some kl) (hkl : WideAt.IsKeyLit kl) (hk64 : k ≤ 64) :
    ∃ w1, (Builtin.delete_ #[78, 83] 0 #[.map (some M), key]).run Tryd.prog W = .ok (.tuple #[]) w1 ∧ TabM T M f w1 ∧
      Removed T M n f g kl k w (.returned (.bool true)) (((((w1.setCell ⟨T, k * 5, none⟩ (.int .i64 0)).setCell ⟨T, k * 5 + 1, none⟩ (.int .u32 0)).setCell ⟨T, k * 5 + 2, none⟩ (.int .i64 0)).setCell ⟨T, k * 5 + 3, none⟩ (.bool false)).setCell ⟨T, k * 5 + 4, none⟩ (.int .u32 0)) := by
  obtain ⟨w1, hrun, hM1, hg⟩ := (hm.block (hb.block M hm.lt)).drop Tryd.underlying78 hk hkl 0
  have hTW := hT.below hb
  have hT1 : TabM T M f w1 := hTW.block (hg.block T hTW.low (by simp; exact hTM)) hg.size
  refine ⟨w1, hrun, hT1, rfl, ?_, ?_, tab_put hT1 (by omega) zeroS⟩
  · have h5 := set_five w1 T (k * 5) (.int .i64 0) (.int .u32 0) (.int .i64 0) (.bool false) (.int .u32 0)
    obtain ⟨h1, h2, h3, h4, h6⟩ := h5
    refine ⟨h3.trans (hg.os.trans hb.os), h4.trans (hg.tape.trans hb.tape), h6.trans (hg.output.trans hb.output), by rw [h2]; exact Nat.le_trans hb.size hg.size, fun b hbb h7 h8 => ?_⟩
    exact (h1 b h7).trans ((hg.block b (Nat.lt_of_lt_of_le hbb hb.size) (by simp; exact h8)).trans (hb.block b hbb))
  · exact hM1.block ((set_five w1 T (k * 5) _ _ _ _ _).1 M hTM.symm)
set_option maxRecDepth 100000 in
set_option maxHeartbeats 2000000 in
theorem remove_yes {T M n k : Nat} {f : Nat → Svc} {g : Lit → Option Value} {w : World} (h : TabM T M f w) (hm : MapE M n g w) (hTM : T ≠ M) (h1 : 1 ≤ k) (h2 : k ≤ 64) (h0 : (f k).proto ≠ 0) {kl : Lit} (hk : keyOf Tryd.prog 83 (endV (f k).proto (f k).vip (f k).port) = some kl) (hkl : WideAt.IsKeyLit kl) :
    Calls Tryd.prog 20 #[.pointer (some ⟨T, 0, none⟩), .int .i64 (k : Int)] w (Removed T M n f g kl k w) := by
  have HG := get_yes h h1 h2 h0
  obtain ⟨s, hs⟩ : ∃ s, f k = s := ⟨_, rfl⟩
  rw [hs] at HG hk
  clear hs h0
  obtain ⟨p, v, q, d, m⟩ := s
  dsimp only at HG hk
  replace HG := Lib.hid HG
  have k1 : (1 : Int) ≤ (k : Int) := by omega
  have k3 : (k : Int) < 65 := by omega
  have k4 : (0 : Int) ≤ (k : Int) := by omega
  have hl := h.low
  have hB2 : Below w.heap.size w ((w.alloc (.cells #[.int .i64 p, .int .u32 (v : Int), .int .i64 q, .bool d, .int .u32 (m : Int)] 24)).alloc (.cells #[.int .i64 p, .int .u32 (v : Int), .int .i64 q, .bool d, .int .u32 (m : Int)] 24)).drew := (((Below.refl _ w).alloc (Nat.le_refl _) _).alloc (by simp) _).drew
  obtain ⟨w1, hrun, hT1, hR⟩ := remove_facts (k := k) h hm hTM hB2 hk hkl h2
  unfold endV at hrun
  have c1 := h.ids
  obtain ⟨r0, r1, r2, r3, r4⟩ := hT1.at_ k (by omega)
  have f0 := hT1.fz (k * 5)
  have f1 := hT1.fz (k * 5 + 1)
  have f2 := hT1.fz (k * 5 + 2)
  have f3 := hT1.fz (k * 5 + 3)
  have f4 := hT1.fz (k * 5 + 4)
  have HR := Lib.hid hR
  clear h hm hB2 hT1 hR hk h1 h2
  go_enter Tryd.func20, Tryd.ntmps20
  go_wp2_with (go_at_call 22; refine HG.out.mono ?_; rintro e wx ⟨rfl, rfl⟩)
  go_region
  clear hrun
  go_wp2_with fail
  go_ret
  exact HR.out
end Go.Proofs.YtbahcpejippcjaaDoor
