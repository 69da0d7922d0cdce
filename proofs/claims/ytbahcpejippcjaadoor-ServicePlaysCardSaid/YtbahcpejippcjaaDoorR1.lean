import Derived.Test.YtbahcpejippcjaaDoorR0
import Derived.Test.YtbahcpejippcjaaDoorS1
namespace Go.Proofs.YtbahcpejippcjaaDoor
open Go.ChangeShapes Go.WideShapes Go.ChangeAt Go.RowKit

theorem nat_of_u32 {n : Int} (h : (Lit.int .u32 n).wf = true) : ∃ v : Nat, n = (v : Int) ∧ v < 4294967296 := by
  simp [Lit.wf, IntKind.min, IntKind.max, IntKind.signed, IntKind.bits] at h
  exact ⟨n.toNat, by omega, by omega⟩
theorem u32_of_nat {v : Nat} (h : v < 4294967296) : (Lit.int .u32 (v : Int)).wf = true := by
  simp [Lit.wf, IntKind.min, IntKind.max, IntKind.signed, IntKind.bits]
  omega
/-- What a service reads as. -/
def svcData {H : Type} (s : Svc) : DataW H := .agg [.lit (.int .i64 s.proto), .lit (.int .u32 (s.vip : Int)), .lit (.int .i64 s.port), .lit (.bool s.dsr), .lit (.int .u32 (s.nat : Int))]
/-- Both ports and kinds are numbers of 64 bits. -/
def Svc.wide (s : Svc) : Prop := (Lit.int .i64 s.proto).wf = true ∧ (Lit.int .i64 s.port).wf = true ∧ s.ok

variable {H : Type} {enc : TypeId × Value → H} {w : World} {base : Nat} {spare : Nat → Bool} {held : Bool}

theorem svc_fields : ∃ f0 f1 f2 f3 f4 : Field, Tryd.prog.underlying 24 = some (.struct #[f0, f1, f2, f3, f4]) ∧ (f0.type = 3 ∧ f1.type = 22 ∧ f2.type = 3 ∧ f3.type = 4 ∧ f4.type = 22) ∧ (f0.offset = 0 ∧ f1.offset = 1 ∧ f2.offset = 2 ∧ f3.offset = 3 ∧ f4.offset = 4) :=
  ⟨_, _, _, _, _, Tryd.underlying24, ⟨rfl, rfl, rfl, rfl, rfl⟩, ⟨rfl, rfl, rfl, rfl, rfl⟩⟩
theorem c3 : Tryd.prog.cellsOf 3 = 1 := by kernel_rfl
theorem c4 : Tryd.prog.cellsOf 4 = 1 := by kernel_rfl
theorem c22 : Tryd.prog.cellsOf 22 = 1 := by kernel_rfl
theorem c24 : Tryd.prog.cellsOf 24 = 5 := by kernel_rfl

set_option maxRecDepth 100000 in
theorem open_svc_cells {n : Nat} {cs : List Value} {x : DataW H × List MemPlace} (h : DataW.trod enc Tryd.prog w base spare held n 24 cs = some x) :
    ∃ s : Svc, s.wide ∧ cs = [.int .i64 s.proto, .int .u32 (s.vip : Int), .int .i64 s.port, .bool s.dsr, .int .u32 (s.nat : Int)] ∧ x = (svcData s, []) := by
  obtain ⟨f0, f1, f2, f3, f4, hu, ⟨t0, t1, t2, t3, t4⟩, ⟨o0, o1, o2, o3, o4⟩⟩ := svc_fields
  obtain ⟨xs, m, -, rfl, hl, hxl, hf⟩ := DataW.trod_struct hu h
  rw [c24] at hl
  match cs, hl with
  | [u0, u1, u2, u3, u4], _ =>
  match xs, hxl with
  | [x0, x1, x2, x3, x4], _ =>
  have g0 := hf 0 f0 rfl
  have g1 := hf 1 f1 rfl
  have g2 := hf 2 f2 rfl
  have g3 := hf 3 f3 rfl
  have g4 := hf 4 f4 rfl
  rw [t0, o0, c3] at g0
  rw [t1, o1, c22] at g1
  rw [t2, o2, c3] at g2
  rw [t3, o3, c4] at g3
  rw [t4, o4, c22] at g4
  obtain ⟨a0, e0, rfl, w0⟩ := DataW.trod_int Tryd.underlying3 (show DataW.trod enc Tryd.prog w base spare held m 3 [u0] = some x0 from g0)
  obtain ⟨a1, e1, rfl, w1⟩ := DataW.trod_int Tryd.underlying22 (show DataW.trod enc Tryd.prog w base spare held m 22 [u1] = some x1 from g1)
  obtain ⟨a2, e2, rfl, w2⟩ := DataW.trod_int Tryd.underlying3 (show DataW.trod enc Tryd.prog w base spare held m 3 [u2] = some x2 from g2)
  obtain ⟨a3, e3, rfl⟩ := DataW.trod_bool Tryd.underlying4 (show DataW.trod enc Tryd.prog w base spare held m 4 [u3] = some x3 from g3)
  obtain ⟨a4, e4, rfl, w4⟩ := DataW.trod_int Tryd.underlying22 (show DataW.trod enc Tryd.prog w base spare held m 22 [u4] = some x4 from g4)
  obtain ⟨v, rfl, hv⟩ := nat_of_u32 w1
  obtain ⟨q, rfl, hq⟩ := nat_of_u32 w4
  simp only [List.cons.injEq, and_true] at e0 e1 e2 e3 e4
  subst e0 e1 e2 e3 e4
  exact ⟨⟨a0, v, a2, a3, q⟩, ⟨w0, w2, hv, hq⟩, rfl, rfl⟩

set_option maxRecDepth 100000 in
theorem open_svc {r : Reach} {b0 : Nat} {v : Value} {d : DataW H} {ps : List MemPlace} (hval : Value.okWide Tryd.prog w r b0 24 v) (hd : DataW.Trod enc Tryd.prog w base spare held 24 v d ps) :
    ∃ s : Svc, s.wide ∧ v = s.val ∧ d = svcData s ∧ ps = [] := by
  obtain ⟨f0, f1, f2, f3, f4, hu, -, -⟩ := svc_fields
  obtain ⟨cs, rfl, -⟩ := okWide_struct hu hval
  obtain ⟨n, hn⟩ := hd
  obtain ⟨s, h1, h2, h3⟩ := open_svc_cells hn
  simp only [Prod.mk.injEq] at h3
  refine ⟨s, h1, ?_, h3.1, h3.2⟩
  unfold Svc.val
  rw [← h2]
  rfl

set_option maxRecDepth 100000 in
theorem shut_svc {s : Svc} (h : s.wide) : DataW.Trod enc Tryd.prog w base spare held 24 s.val (svcData s) [] := by
  obtain ⟨h0, h2, h1, h4⟩ := h
  refine ⟨2, ?_⟩
  have w1 := u32_of_nat h1
  have w4 := u32_of_nat h4
  simp [DataW.trod, Svc.val, svcData, Value.cells, Tryd.underlying24, Tryd.underlying3, Tryd.underlying4, Tryd.underlying22, c3, c4, c22, c24, h0, h2, w1, w4]
end Go.Proofs.YtbahcpejippcjaaDoor
