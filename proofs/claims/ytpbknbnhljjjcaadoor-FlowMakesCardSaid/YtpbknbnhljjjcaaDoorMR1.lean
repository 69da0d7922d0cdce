/- Texts of this proof, put together: R1. -/
import Derived.Test.YtpbknbnhljjjcaaDoorMR0
import Derived.Test.YtpbknbnhljjjcaaDoorMWFlowMakes
namespace Go.Proofs.YtpbknbnhljjjcaaDoor
open Go.ChangeShapes Go.WideShapes Go.ChangeAt Go.RowKit

/-- What a config reads as. -/
def cfgData {H : Type} (s : CfI) : DataW H := .agg [.lit (.int .i64 s.r), .lit (.int .i64 s.l), .lit (.int .i64 s.m), .lit (.int .i64 s.t), .agg [.lit (.int .i64 s.tm.op), .lit (.int .i64 s.tm.on), .lit (.int .i64 s.tm.cl), .lit (.int .i64 s.tm.wa), .lit (.int .i64 s.tm.ud)]]

variable {H : Type} {enc : TypeId × Value → H} {w : World} {base : Nat} {spare : Nat → Bool} {held : Bool}

theorem cfg_fields : ∃ f0 f1 f2 f3 f4 : Field, Tryd.prog.underlying 25 = some (.struct #[f0, f1, f2, f3, f4]) ∧ (f0.type = 3 ∧ f1.type = 3 ∧ f2.type = 3 ∧ f3.type = 3 ∧ f4.type = 23) ∧ (f0.offset = 0 ∧ f1.offset = 1 ∧ f2.offset = 2 ∧ f3.offset = 3 ∧ f4.offset = 4) :=
  ⟨_, _, _, _, _, Tryd.underlying25, ⟨rfl, rfl, rfl, rfl, rfl⟩, ⟨rfl, rfl, rfl, rfl, rfl⟩⟩
theorem tms_fields : ∃ f0 f1 f2 f3 f4 : Field, Tryd.prog.underlying 23 = some (.struct #[f0, f1, f2, f3, f4]) ∧ (f0.type = 3 ∧ f1.type = 3 ∧ f2.type = 3 ∧ f3.type = 3 ∧ f4.type = 3) ∧ (f0.offset = 0 ∧ f1.offset = 1 ∧ f2.offset = 2 ∧ f3.offset = 3 ∧ f4.offset = 4) :=
  ⟨_, _, _, _, _, Tryd.underlying23, ⟨rfl, rfl, rfl, rfl, rfl⟩, ⟨rfl, rfl, rfl, rfl, rfl⟩⟩
theorem cc3 : Tryd.prog.cellsOf 3 = 1 := by kernel_rfl
theorem cc23 : Tryd.prog.cellsOf 23 = 5 := by kernel_rfl
theorem cc25 : Tryd.prog.cellsOf 25 = 9 := by kernel_rfl

set_option maxRecDepth 100000 in
theorem open_tms_cells {n : Nat} {cs : List Value} {x : DataW H × List MemPlace} (h : DataW.trod enc Tryd.prog w base spare held n 23 cs = some x) :
    ∃ s : Tms, ((Lit.int .i64 s.op).wf = true ∧ (Lit.int .i64 s.on).wf = true ∧ (Lit.int .i64 s.cl).wf = true ∧ (Lit.int .i64 s.wa).wf = true ∧ (Lit.int .i64 s.ud).wf = true) ∧ cs = [.int .i64 s.op, .int .i64 s.on, .int .i64 s.cl, .int .i64 s.wa, .int .i64 s.ud] ∧ x = (.agg [.lit (.int .i64 s.op), .lit (.int .i64 s.on), .lit (.int .i64 s.cl), .lit (.int .i64 s.wa), .lit (.int .i64 s.ud)], []) := by
  obtain ⟨f0, f1, f2, f3, f4, hu, ⟨t0, t1, t2, t3, t4⟩, ⟨o0, o1, o2, o3, o4⟩⟩ := tms_fields
  obtain ⟨xs, m, -, rfl, hl, hxl, hf⟩ := DataW.trod_struct hu h
  rw [cc23] at hl
  match cs, hl with
  | [u0, u1, u2, u3, u4], _ =>
  match xs, hxl with
  | [x0, x1, x2, x3, x4], _ =>
  have g0 := hf 0 f0 rfl
  have g1 := hf 1 f1 rfl
  have g2 := hf 2 f2 rfl
  have g3 := hf 3 f3 rfl
  have g4 := hf 4 f4 rfl
  rw [t0, o0, cc3] at g0
  rw [t1, o1, cc3] at g1
  rw [t2, o2, cc3] at g2
  rw [t3, o3, cc3] at g3
  rw [t4, o4, cc3] at g4
  obtain ⟨a0, e0, rfl, w0⟩ := DataW.trod_int Tryd.underlying3 (show DataW.trod enc Tryd.prog w base spare held m 3 [u0] = some x0 from g0)
  obtain ⟨a1, e1, rfl, w1⟩ := DataW.trod_int Tryd.underlying3 (show DataW.trod enc Tryd.prog w base spare held m 3 [u1] = some x1 from g1)
  obtain ⟨a2, e2, rfl, w2⟩ := DataW.trod_int Tryd.underlying3 (show DataW.trod enc Tryd.prog w base spare held m 3 [u2] = some x2 from g2)
  obtain ⟨a3, e3, rfl, w3⟩ := DataW.trod_int Tryd.underlying3 (show DataW.trod enc Tryd.prog w base spare held m 3 [u3] = some x3 from g3)
  obtain ⟨a4, e4, rfl, w4⟩ := DataW.trod_int Tryd.underlying3 (show DataW.trod enc Tryd.prog w base spare held m 3 [u4] = some x4 from g4)
  simp only [List.cons.injEq, and_true] at e0 e1 e2 e3 e4
  subst e0 e1 e2 e3 e4
  exact ⟨⟨a0, a1, a2, a3, a4⟩, ⟨w0, w1, w2, w3, w4⟩, rfl, rfl⟩

set_option maxRecDepth 100000 in
theorem open_cfg_cells {n : Nat} {cs : List Value} {x : DataW H × List MemPlace} (h : DataW.trod enc Tryd.prog w base spare held n 25 cs = some x) :
    ∃ s : CfI, s.wide ∧ cs = [.int .i64 s.r, .int .i64 s.l, .int .i64 s.m, .int .i64 s.t, .int .i64 s.tm.op, .int .i64 s.tm.on, .int .i64 s.tm.cl, .int .i64 s.tm.wa, .int .i64 s.tm.ud] ∧ x = (cfgData s, []) := by
  obtain ⟨f0, f1, f2, f3, f4, hu, ⟨t0, t1, t2, t3, t4⟩, ⟨o0, o1, o2, o3, o4⟩⟩ := cfg_fields
  obtain ⟨xs, m, -, rfl, hl, hxl, hf⟩ := DataW.trod_struct hu h
  rw [cc25] at hl
  match cs, hl with
  | [u0, u1, u2, u3, u4, u5, u6, u7, u8], _ =>
  match xs, hxl with
  | [x0, x1, x2, x3, x4], _ =>
  have g0 := hf 0 f0 rfl
  have g1 := hf 1 f1 rfl
  have g2 := hf 2 f2 rfl
  have g3 := hf 3 f3 rfl
  have g4 := hf 4 f4 rfl
  rw [t0, o0, cc3] at g0
  rw [t1, o1, cc3] at g1
  rw [t2, o2, cc3] at g2
  rw [t3, o3, cc3] at g3
  rw [t4, o4, cc23] at g4
  obtain ⟨a0, e0, rfl, w0⟩ := DataW.trod_int Tryd.underlying3 (show DataW.trod enc Tryd.prog w base spare held m 3 [u0] = some x0 from g0)
  obtain ⟨a1, e1, rfl, w1⟩ := DataW.trod_int Tryd.underlying3 (show DataW.trod enc Tryd.prog w base spare held m 3 [u1] = some x1 from g1)
  obtain ⟨a2, e2, rfl, w2⟩ := DataW.trod_int Tryd.underlying3 (show DataW.trod enc Tryd.prog w base spare held m 3 [u2] = some x2 from g2)
  obtain ⟨a3, e3, rfl, w3⟩ := DataW.trod_int Tryd.underlying3 (show DataW.trod enc Tryd.prog w base spare held m 3 [u3] = some x3 from g3)
  obtain ⟨tm, wt, et, rfl⟩ := open_tms_cells (show DataW.trod enc Tryd.prog w base spare held m 23 [u4, u5, u6, u7, u8] = some x4 from g4)
  simp only [List.cons.injEq, and_true] at e0 e1 e2 e3 et
  obtain ⟨e4, e5, e6, e7, e8⟩ := et
  subst e0 e1 e2 e3 e4 e5 e6 e7 e8
  exact ⟨⟨a0, a1, a2, a3, tm⟩, ⟨⟨w0, w1, w2, w3⟩, wt⟩, rfl, rfl⟩

set_option maxRecDepth 100000 in
theorem open_cfg {r : Reach} {b0 : Nat} {v : Value} {d : DataW H} {ps : List MemPlace} (hval : Value.okWide Tryd.prog w r b0 25 v) (hd : DataW.Trod enc Tryd.prog w base spare held 25 v d ps) :
    ∃ s : CfI, v = s.val ∧ d = cfgData s ∧ ps = [] ∧ s.wide := by
  obtain ⟨f0, f1, f2, f3, f4, hu, -, -⟩ := cfg_fields
  obtain ⟨cs, rfl, -⟩ := okWide_struct hu hval
  obtain ⟨n, hn⟩ := hd
  obtain ⟨s, h1, h2, h3⟩ := open_cfg_cells hn
  simp only [Prod.mk.injEq] at h3
  refine ⟨s, ?_, h3.1, h3.2, h1⟩
  unfold CfI.val
  rw [← h2]
  rfl

set_option maxRecDepth 100000 in
theorem shut_cfg {s : CfI} (h : s.wide) : DataW.Trod enc Tryd.prog w base spare held 25 s.val (cfgData s) [] := by
  obtain ⟨⟨h0, h1, h2, h3⟩, h4, h5, h6, h7, h8⟩ := h
  refine ⟨3, ?_⟩
  simp [DataW.trod, CfI.val, cfgData, Value.cells, Tryd.underlying25, Tryd.underlying23, Tryd.underlying3, cc3, cc23, cc25, h0, h1, h2, h3, h4, h5, h6, h7, h8]
end Go.Proofs.YtpbknbnhljjjcaaDoor
