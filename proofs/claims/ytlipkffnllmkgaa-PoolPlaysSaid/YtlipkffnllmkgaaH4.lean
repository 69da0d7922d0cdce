import Derived.Test.YtlipkffnllmkgaaH3
import Derived.Deep.RegionWith
import Derived.Deep.RegionHeld3
namespace Go.Proofs.Ytlipkffnllmkgaa
open Go.RowKit Go.Shelf Go.Maps

structure Mem where
  id : Int
  addr : Int
  port : Int
  state : Int
  bucket : Int
def Mem.val (m : Mem) : Value := .agg #[.int .i64 m.id, .int .u32 m.addr, .int .i64 m.port, .int .i64 m.state, .int .i64 m.bucket]
/-- A pool, as the proof sees it. -/
structure Po where
  key : ByteArray
  room : Nat
  anc : Anc
  all : Int → Option Mem
  own : Int → Option Int
  act : Nat
def Po.allV (p : Po) (k : Int) : Option Value := (p.all k).map Mem.val
def Po.ownV (p : Po) (k : Int) : Option Value := (p.own k).map (Value.int .i64)
def poolCells (p : Po) (X M O : Nat) : Obj := .cells #[.string p.key, .int .i64 (p.room : Int), .pointer (some ⟨X, 0, none⟩), .map (some M), .map (some O), .int .i64 (p.act : Int)] 65 (0, 0)

/-- A pool lies at Xp; its blocks are among S. -/
structure PoolIn (S Sa : Nat → Prop) (Xp X M O n : Nat) (p : Po) (w : World) : Prop where
  cells : w.heap[Xp]? = some (poolCells p X M O)
  all : MapIs M n p.allV w
  own : MapIs O n p.ownV w
  anc : AncS Sa X p.room p.anc w
  mem : S Xp ∧ S M ∧ S O ∧ ∀ i, Sa i → S i
  apart : ¬ Sa Xp ∧ ¬ Sa M ∧ ¬ Sa O ∧ Xp ≠ M ∧ Xp ≠ O ∧ M ≠ O
  low : ∀ i, S i → i < w.heap.size

theorem PoolIn.kept {S Sa : Nat → Prop} {Xp X M O n : Nat} {p : Po} {w w' : World} (h : PoolIn S Sa Xp X M O n p w) (hb : ∀ b, S b → w'.heap[b]? = w.heap[b]?) (hs : w.heap.size ≤ w'.heap.size) : PoolIn S Sa Xp X M O n p w' :=
  ⟨(hb Xp h.mem.1).trans h.cells, h.all.block (hb M h.mem.2.1), h.own.block (hb O h.mem.2.2.1), h.anc.kept (fun b hb' => hb b (h.mem.2.2.2 b hb')) hs, h.mem, h.apart, fun i hi => Nat.lt_of_lt_of_le (h.low i hi) hs⟩
theorem PoolIn.below {S Sa : Nat → Prop} {Xp X M O n : Nat} {p : Po} {w w' : World} (h : PoolIn S Sa Xp X M O n p w) (hb : Below w.heap.size w w') : PoolIn S Sa Xp X M O n p w' :=
  h.kept (fun b hS => hb.block b (h.low b hS)) hb.size
theorem cells6 {w : World} {b : Nat} {u0 u1 u2 u3 u4 u5 : Value} {t : TypeId} (h : w.heap[b]? = some (.cells #[u0, u1, u2, u3, u4, u5] t (0, 0))) : (w.cell? ⟨b, 0, none⟩ = some u0 ∧ w.cell? ⟨b, 1, none⟩ = some u1 ∧ w.cell? ⟨b, 2, none⟩ = some u2 ∧ w.cell? ⟨b, 3, none⟩ = some u3 ∧ w.cell? ⟨b, 4, none⟩ = some u4 ∧ w.cell? ⟨b, 5, none⟩ = some u5) ∧ w.frozen? ⟨b, 5, none⟩ = false := by
  refine ⟨⟨?_, ?_, ?_, ?_, ?_, ?_⟩, ?_⟩ <;> simp [World.cell?, World.frozen?, h]

theorem active_calls {S Sa : Nat → Prop} {Xp X M O n : Nat} {p : Po} {w : World} (h : PoolIn S Sa Xp X M O n p w) :
    Calls Try.prog 10 #[.pointer (some ⟨Xp, 0, none⟩)] w fun e w' => e = .returned (.int .i64 (p.act : Int)) ∧ w' = w := by
  obtain ⟨⟨c0, c1, c2, c3, c4, c5⟩, _⟩ := cells6 h.cells
  clear h
  go_enter Try.func10, Try.ntmps10
  go_wp2
  go_ret
  exact ⟨rfl, rfl⟩

theorem two_boxes {w wx : World} {o1 o2 : Obj} (hb : Below ((w.alloc o1).alloc o2).heap.size ((w.alloc o1).alloc o2) wx) : Below w.heap.size w wx ∧ wx.heap[w.heap.size + 1]? = some o2 := by
  refine ⟨(((Below.refl _ w).alloc (Nat.le_refl _) _).alloc (by simp) _).trans (hb.mono (by simp; omega)), ?_⟩
  have h := World.alloc_heap_new (w.alloc o1) o2
  rw [World.size_alloc] at h
  exact (hb.block _ (by simp)).trans h
theorem cells3 {w : World} {b : Nat} {u0 u1 u2 : Value} {t : TypeId} (h : w.heap[b]? = some (.cells #[u0, u1, u2] t (0, 0))) : (w.cell? ⟨b, 0, none⟩ = some u0 ∧ w.cell? ⟨b, 1, none⟩ = some u1 ∧ w.cell? ⟨b, 2, none⟩ = some u2) ∧ w.frozen? ⟨b, 0, none⟩ = false ∧ w.frozen? ⟨b, 1, none⟩ = false ∧ w.frozen? ⟨b, 2, none⟩ = false := by
  refine ⟨⟨?_, ?_, ?_⟩, ?_, ?_, ?_⟩ <;> simp [World.cell?, World.frozen?, h]
/-- A box of three numbers that is written. -/
theorem put3 {w wx : World} {b : Nat} {u0 u1 u2 : Value} {t : TypeId} (h : wx.heap[b]? = some (.cells #[u0, u1, u2] t (0, 0))) (hb : w.heap.size ≤ b) (hB : Below w.heap.size w wx) (x y z : Value) :
    (((wx.setCell ⟨b, 0, none⟩ x).setCell ⟨b, 1, none⟩ y).setCell ⟨b, 2, none⟩ z).cell? ⟨b, 0, none⟩ = some x ∧ (((wx.setCell ⟨b, 0, none⟩ x).setCell ⟨b, 1, none⟩ y).setCell ⟨b, 2, none⟩ z).cell? ⟨b, 1, none⟩ = some y ∧ (((wx.setCell ⟨b, 0, none⟩ x).setCell ⟨b, 1, none⟩ y).setCell ⟨b, 2, none⟩ z).cell? ⟨b, 2, none⟩ = some z ∧ Below w.heap.size w (((wx.setCell ⟨b, 0, none⟩ x).setCell ⟨b, 1, none⟩ y).setCell ⟨b, 2, none⟩ z) := by
  have h2 : (((wx.setCell ⟨b, 0, none⟩ x).setCell ⟨b, 1, none⟩ y).setCell ⟨b, 2, none⟩ z).heap[b]? = some (.cells #[x, y, z] t (0, 0)) := by
    simp [World.setCell, Array.getElem?_modify, h]
  obtain ⟨⟨c0, c1, c2⟩, _⟩ := cells3 h2
  exact ⟨c0, c1, c2, ((hB.setCell (p := ⟨b, 0, none⟩) hb _).setCell (p := ⟨b, 1, none⟩) hb _).setCell (p := ⟨b, 2, none⟩) hb _⟩

def tupleV (p s d x y : Nat) : Value := .agg #[.int .i64 (p : Int), .int .u32 (s : Int), .int .u32 (d : Int), .int .i64 (x : Int), .int .i64 (y : Int)]
set_option maxRecDepth 100000 in
set_option maxHeartbeats 1000000 in
theorem choose_none {S Sa : Nat → Prop} {Xp X M O n : Nat} {po : Po} {w : World} (h : PoolIn S Sa Xp X M O n po w) (h0 : po.act = 0) (p s d x y : Nat) (hp : p < 256) (hs : s < 4294967296) (hd : d < 4294967296) (hx : x < 65536) (hy : y < 65536) :
    Calls Try.prog 17 #[.pointer (some ⟨Xp, 0, none⟩), tupleV p s d x y] w fun e w' => e = .returned (.tuple #[.agg #[.int .i64 0, .int .u32 0, .int .i64 0], .bool false]) ∧ Below w.heap.size w w' := by
  have HK := Lib.hid (key_ok p s d x y hp hs hd hx hy)
  have HH := Lib.hid h
  have HB := Lib.hid (Below.refl w.heap.size w)
  generalize keyS p s d x y = K at *
  unfold tupleV
  clear h
  go_enter Try.func17, Try.ntmps17
  go_wp2_with (go_at_call 31; refine (HK.out _).mono ?_; rintro e wx ⟨rfl, hb⟩; obtain ⟨hb2, hbox⟩ := two_boxes hb; obtain ⟨⟨c0, c1, c2, c3, c4, c5⟩, _⟩ := cells6 (HH.out.below hb2).cells; obtain ⟨⟨r0, r1, r2⟩, z0, z1, z2⟩ := cells3 hbox; rw [h0] at c5; replace HB := Lib.hid (And.intro hb2 hbox); clear hb hb2 hbox)
  obtain ⟨d0, d1, d2, hbe⟩ := put3 HB.out.2 (by omega) HB.out.1 (.int .i64 0) (.int .u32 0) (.int .i64 0)
  refine ⟨rfl, .tuple #[.agg #[.int .i64 0, .int .u32 0, .int .i64 0], .bool false], by simp [results, Try.f17, go_sem, d0, d1, d2], rfl, hbe⟩

theorem cells5 {w : World} {b : Nat} {u0 u1 u2 u3 u4 : Value} {t : TypeId} (h : w.heap[b]? = some (.cells #[u0, u1, u2, u3, u4] t (0, 0))) : (w.cell? ⟨b, 0, none⟩ = some u0 ∧ w.cell? ⟨b, 1, none⟩ = some u1 ∧ w.cell? ⟨b, 2, none⟩ = some u2 ∧ w.cell? ⟨b, 3, none⟩ = some u3 ∧ w.cell? ⟨b, 4, none⟩ = some u4) ∧ w.frozen? ⟨b, 0, none⟩ = false ∧ w.frozen? ⟨b, 1, none⟩ = false ∧ w.frozen? ⟨b, 2, none⟩ = false ∧ w.frozen? ⟨b, 3, none⟩ = false ∧ w.frozen? ⟨b, 4, none⟩ = false := by
  refine ⟨⟨?_, ?_, ?_, ?_, ?_⟩, ?_, ?_, ?_, ?_, ?_⟩ <;> simp [World.cell?, World.frozen?, h]
def zeroCells : Obj := .cells #[.int .i64 0, .int .u32 0, .int .i64 0, .int .i64 0, .int .i64 0] 77
theorem one_box {w wy wx : World} {o : Obj} (h0 : Below w.heap.size w wy) (hb : Below (wy.alloc o).heap.size (wy.alloc o) wx) : Below w.heap.size w wx ∧ wx.heap[wy.heap.size]? = some o :=
  ⟨(h0.alloc h0.size o).trans (hb.mono (by simp; have := h0.size; omega)), (hb.block _ (by simp)).trans (World.alloc_heap_new wy o)⟩
/-- What a choice reads. -/
def ChF (Xp X M O r : Nat) (id : Int) (m : Mem) (W : World) : Prop :=
  W.cell? ⟨Xp, 2, none⟩ = some (.pointer (some ⟨X, 0, none⟩)) ∧ W.cell? ⟨Xp, 3, none⟩ = some (.map (some M)) ∧ W.cell? ⟨Xp, 4, none⟩ = some (.map (some O)) ∧
    (Instr.lookup 56 (.map (some O)) (.int .i64 (r : Int)) false).run Try.prog W = .ok (.int .i64 id) W ∧
    (Instr.lookup 63 (.map (some M)) (.int .i64 id) true).run Try.prog W = .ok (.tuple #[.agg #[.int .i64 m.id, .int .u32 m.addr, .int .i64 m.port, .int .i64 m.state, .int .i64 m.bucket], .bool true]) W
theorem chFacts {S Sa : Nat → Prop} {Xp X M O n r : Nat} {po : Po} {w W : World} {id : Int} {m : Mem} (h : PoolIn S Sa Xp X M O n po w) (hid : po.own (r : Int) = some id) (hw1 : (Lit.int .i64 (r : Int)).wf = true) (hw2 : (Lit.int .i64 id).wf = true) (hm : po.all id = some m) (hb : Below w.heap.size w W) : ChF Xp X M O r id m W := by
  have hW := h.below hb
  obtain ⟨⟨c0, c1, c2, c3, c4, c5⟩, _⟩ := cells6 hW.cells
  refine ⟨c2, c3, c4, ?_, ?_⟩
  · have h1 := hW.own.look Try.underlying56 (zero3 W) hw1
    rw [h1]
    unfold Po.ownV
    rw [hid]
    rfl
  · have h1 := hW.all.look_ok Try.underlying63 (zero104 W) hw2
    rw [h1]
    unfold Po.allV
    rw [hm]
    rfl
def boxObj : Obj := .cells #[.int .i64 0, .int .u32 0, .int .i64 0] 33 (0, 0)
/-- What a choice leaves behind its look-ups. -/
def ChMet (m : Mem) (w : World) (s10 s7 : Value) (w' : World) : Prop := ∃ b : Nat, s10 = .pointer (some ⟨b, 0, none⟩) ∧ s7 = .bool true ∧ (w'.cell? ⟨b, 0, none⟩ = some (.int .i64 m.id) ∧ w'.cell? ⟨b, 1, none⟩ = some (.int .u32 m.addr) ∧ w'.cell? ⟨b, 2, none⟩ = some (.int .i64 m.port)) ∧ Below w.heap.size w w' ∧ w'.heap[w.heap.size + 1]? = some boxObj ∧ w.heap.size + 1 < b
theorem meet1 {m : Mem} {w wz : World} (hb : Below w.heap.size w wz) (hbox : wz.heap[w.heap.size + 1]? = some boxObj) :
    ChMet m w (.pointer (some ⟨wz.heap.size, 0, none⟩)) (.bool true) (wz.alloc (.cells #[.int .i64 m.id, .int .u32 m.addr, .int .i64 m.port, .int .i64 m.state, .int .i64 m.bucket] 77)) := by
  have h := World.alloc_heap_new wz (.cells #[.int .i64 m.id, .int .u32 m.addr, .int .i64 m.port, .int .i64 m.state, .int .i64 m.bucket] 77)
  obtain ⟨⟨c0, c1, c2, _, _⟩, _⟩ := cells5 h
  have hl := (Array.getElem?_eq_some_iff.1 hbox).1
  exact ⟨_, rfl, rfl, ⟨c0, c1, c2⟩, hb.alloc hb.size _, (Below.heap_alloc _ _ _ hl).trans hbox, hl⟩
theorem meet2 {m : Mem} {w wz : World} {b : Nat} (hb : Below w.heap.size w wz) (hbox : wz.heap[w.heap.size + 1]? = some boxObj) (hm : wz.heap[b]? = some zeroCells) (hl : w.heap.size + 1 < b) :
    ChMet m w (.pointer (some ⟨b, 0, none⟩)) (.bool true) (((((wz.setCell ⟨b, 0, none⟩ (.int .i64 m.id)).setCell ⟨b, 1, none⟩ (.int .u32 m.addr)).setCell ⟨b, 2, none⟩ (.int .i64 m.port)).setCell ⟨b, 3, none⟩ (.int .i64 m.state)).setCell ⟨b, 4, none⟩ (.int .i64 m.bucket)) := by
  have h2 : (((((wz.setCell ⟨b, 0, none⟩ (.int .i64 m.id)).setCell ⟨b, 1, none⟩ (.int .u32 m.addr)).setCell ⟨b, 2, none⟩ (.int .i64 m.port)).setCell ⟨b, 3, none⟩ (.int .i64 m.state)).setCell ⟨b, 4, none⟩ (.int .i64 m.bucket)).heap[b]? = some (.cells #[.int .i64 m.id, .int .u32 m.addr, .int .i64 m.port, .int .i64 m.state, .int .i64 m.bucket] 77 (0, 0)) := by
    unfold zeroCells at hm
    simp [World.setCell, Array.getElem?_modify, hm]
  have h3 : (((((wz.setCell ⟨b, 0, none⟩ (.int .i64 m.id)).setCell ⟨b, 1, none⟩ (.int .u32 m.addr)).setCell ⟨b, 2, none⟩ (.int .i64 m.port)).setCell ⟨b, 3, none⟩ (.int .i64 m.state)).setCell ⟨b, 4, none⟩ (.int .i64 m.bucket)).heap[w.heap.size + 1]? = some boxObj := by
    have : ¬ b = w.heap.size + 1 := by omega
    simp [World.setCell, Array.getElem?_modify, hbox, this]
  obtain ⟨⟨c0, c1, c2, _, _⟩, _⟩ := cells5 h2
  have hle : w.heap.size ≤ b := by omega
  exact ⟨_, rfl, rfl, ⟨c0, c1, c2⟩, ((((hb.setCell (p := ⟨b, 0, none⟩) hle _).setCell (p := ⟨b, 1, none⟩) hle _).setCell (p := ⟨b, 2, none⟩) hle _).setCell (p := ⟨b, 3, none⟩) hle _).setCell (p := ⟨b, 4, none⟩) hle _, h3, hl⟩
theorem keyS_size (p s d x y : Nat) : (keyS p s d x y).size ≤ 20 := keyTo_size p s d x y 5
set_option maxRecDepth 100000 in
set_option maxHeartbeats 2000000 in
theorem choose_some {S Sa : Nat → Prop} {Xp X M O n : Nat} {po : Po} {w : World} (h : PoolIn S Sa Xp X M O n po w) (h0 : po.act ≠ 0) (hkey : po.key.size = 16) (p s d x y : Nat) (hp : p < 256) (hs : s < 4294967296) (hd : d < 4294967296) (hx : x < 65536) (hy : y < 65536)
    (k r : Nat) (hk : hashF po.key (keyS p s d x y) = (k : Int)) (hf : Find po.anc k (drawN k po.anc.room po.anc.room) r) (id : Int) (hid : po.own (r : Int) = some id) (hw1 : (Lit.int .i64 (r : Int)).wf = true) (hw2 : (Lit.int .i64 id).wf = true) (m : Mem) (hm : po.all id = some m) :
    Calls Try.prog 17 #[.pointer (some ⟨Xp, 0, none⟩), tupleV p s d x y] w fun e w' => e = .returned (.tuple #[.agg #[.int .i64 m.id, .int .u32 m.addr, .int .i64 m.port], .bool true]) ∧ Below w.heap.size w w' := by
  have HK := Lib.hid (key_ok p s d x y hp hs hd hx hy)
  have HG := Lib.hid (fun W => hash_good po.key (keyS p s d x y) W hkey (by have := keyS_size p s d x y; unfold maxLen; omega))
  rw [hk] at HG
  have HH := Lib.hid h
  have HF := Lib.hid hf
  have e1 : ((po.act : Int) == 0) = false := by simp; omega
  have HQ := Lib.hid (fun (W : World) (hb : Below w.heap.size w W) => chFacts h hid hw1 hw2 hm hb)
  generalize keyS p s d x y = K at *
  unfold tupleV
  clear h hf hk hkey hid hm hw1 hw2
  go_enter Try.func17, Try.ntmps17
  go_wp2_with (first
    | (go_at_call 31; refine (HK.out _).mono ?_; rintro e wx ⟨rfl, hb⟩; obtain ⟨hb2, hbox⟩ := two_boxes hb; obtain ⟨⟨c0, c1, c2, c3, c4, c5⟩, _⟩ := cells6 (HH.out.below hb2).cells; obtain ⟨⟨r0, r1, r2⟩, z0, z1, z2⟩ := cells3 hbox; have HB := Lib.hid (And.intro hb2 hbox); clear hb hb2 hbox)
    | (go_at_call 32; refine (HG.out _).mono ?_; rintro e wy ⟨rfl, hb⟩; have hbox := (hb.block _ (Array.getElem?_eq_some_iff.1 HB.out.2).1).trans HB.out.2; have hb2 := stepB HB.out.1 hb; clear r0 r1 r2 z0 z1 z2; obtain ⟨⟨r0, r1, r2⟩, z0, z1, z2⟩ := cells3 hbox; replace HB := Lib.hid (And.intro hb2 hbox); clear c0 c1 c2 c3 c4 c5; obtain ⟨⟨c0, c1, c2, c3, c4, c5⟩, _⟩ := cells6 (HH.out.below hb2).cells; clear hb hb2 hbox))
  go_cut [10, 7] from 35 to 53 (fun s10 s7 w' => ChMet m w s10 s7 w')
  case first =>
    have hsz := HB.out.1.size
    have hsz2 := (Array.getElem?_eq_some_iff.1 HB.out.2).1
    clear r0 r1 r2 z0 z1 z2 c0 c1 c2 c3 c4 c5
    go_region_held3 (fun W : World => (W.cell? ⟨Xp, 2, none⟩ = some (.pointer (some ⟨X, 0, none⟩)) ∧ W.cell? ⟨Xp, 3, none⟩ = some (.map (some M)) ∧ W.cell? ⟨Xp, 4, none⟩ = some (.map (some O)) ∧
      (Instr.lookup 56 (.map (some O)) (.int .i64 (r : Int)) false).run Try.prog W = .ok (.int .i64 id) W ∧
      (Instr.lookup 63 (.map (some M)) (.int .i64 id) true).run Try.prog W = .ok (.tuple #[.agg #[.int .i64 m.id, .int .u32 m.addr, .int .i64 m.port, .int .i64 m.state, .int .i64 m.bucket], .bool true]) W)) ((refine HQ.out _ ?_; repeat' (first | exact HB.out.1 | exact HB.out.1.drew | with_reducible apply Below.drew | with_reducible apply Below.setCell | with_reducible apply Below.alloc | exact hsz | exact HB.out.1.size | (simp; have := HB.out.1.size; omega)))) (first | (go_at_call 33; refine (lies_bucket ((HH.out.below HB.out.1.drew).anc.lies) k r HF.out).mono ?_; rintro e wz ⟨rfl, hb⟩; have hbox := (hb.block _ (Array.getElem?_eq_some_iff.1 HB.out.2).1).trans HB.out.2; have hb2 := stepB HB.out.1.drew hb; replace HB := Lib.hid (And.intro hb2 hbox); clear hb hb2 hbox) | (go_at_call 33; refine (lies_bucket ((HH.out.below (HB.out.1.drew.alloc HB.out.1.size _)).anc.lies) k r HF.out).mono ?_; rintro e wz ⟨rfl, hb⟩; obtain ⟨hb2, hm0⟩ := one_box HB.out.1.drew hb; have hbox := (hb.block (w.heap.size + 1) (by have := (Array.getElem?_eq_some_iff.1 HB.out.2).1; simp; omega)).trans ((Below.heap_alloc _ _ _ (Array.getElem?_eq_some_iff.1 HB.out.2).1).trans HB.out.2); obtain ⟨⟨m0, m1, m2, m3, m4⟩, y0, y1, y2, y3, y4⟩ := cells5 (w := wz) (b := wy.heap.size) hm0; replace HB := Lib.hid (And.intro hb2 hbox); have HM := Lib.hid hm0; clear hb hb2 hbox hm0))
    all_goals
      go_wp2_with fail
      go_meet
      case rel => first | ((with_reducible refine meet1 ?_ ?_); exact HB.out.1; exact HB.out.2) | ((with_reducible refine meet2 ?_ ?_ ?_ ?_); exact HB.out.1; exact HB.out.2; exact HM.out; exact hsz2)
  obtain ⟨b, rfl, rfl, ⟨m0, m1, m2⟩, hb, hbox, hlt⟩ := hcut
  have HB := Lib.hid (And.intro hb hbox)
  obtain ⟨⟨r0, r1, r2⟩, z0, z1, z2⟩ := cells3 hbox
  clear hb hbox
  go_wp2_with fail
  obtain ⟨d0, d1, d2, hbe⟩ := put3 HB.out.2 (by omega) HB.out.1 (.int .i64 m.id) (.int .u32 m.addr) (.int .i64 m.port)
  refine ⟨rfl, .tuple #[.agg #[.int .i64 m.id, .int .u32 m.addr, .int .i64 m.port], .bool true], by simp [results, Try.f17, go_sem, d0, d1, d2], rfl, hbe⟩
end Go.Proofs.Ytlipkffnllmkgaa
