/- Texts of this proof, put together: G8 G9 GA GB GC GD GE. -/
import Derived.Test.YtpbknbnhljjjcaaDoorMJ
namespace Go.Proofs.YtpbknbnhljjjcaaDoor
open Go.RowKit Go.Maps Go.Lib
theorem FCB.st {b : Nat} {f : Fw} {W : World} (h : FCB b f W) (x : Int) : FCB b { f with st := x } (W.setCell ⟨b, 12, none⟩ (.int .i64 x)) := by
  obtain ⟨⟨p0, p1, p2, p3, p4⟩, ⟨q0, q1, q2, q3, q4⟩, r0, r1, r2, r3⟩ := h
  have q : ∀ o v, o ≠ 12 → W.cell? ⟨b, o, none⟩ = some v → (W.setCell ⟨b, 12, none⟩ (.int .i64 x)).cell? ⟨b, o, none⟩ = some v := fun o v ho hv => by
    rw [World.cell?_setCell_other _ _ _ _ (by simp)]
    exact hv
  exact ⟨⟨q _ _ (by omega) p0, q _ _ (by omega) p1, q _ _ (by omega) p2, q _ _ (by omega) p3, q _ _ (by omega) p4⟩, ⟨q _ _ (by omega) q0, q _ _ (by omega) q1, q _ _ (by omega) q2, q _ _ (by omega) q3, q _ _ (by omega) q4⟩, ⟨q _ _ (by omega) r0, q _ _ (by omega) r1, World.cell?_setCell_same _ _ _ r2, q _ _ (by omega) r3⟩⟩
/-- A copy of a flow lies in a new box. -/
structure Cpy (w : World) (b : Nat) (f : Fw) (W : World) : Prop where
  bel : Below w.heap.size w W
  box : FCB b f W
  fre : W.there b 0 14
  lo : w.heap.size ≤ b
  hi : b < W.heap.size
theorem cpy_new {w wx : World} (h : Below w.heap.size w wx) (f : Fw) : (wx.alloc (boxF zF)).there wx.heap.size 0 14 ∧ Cpy w wx.heap.size f ((wx.alloc (boxF zF)).setCells wx.heap.size 0 f.cells) := by
  have t5 := box_there (heap_alloc_new wx (boxF zF))
  have hsz : wx.heap.size < ((wx.alloc (boxF zF)).setCells wx.heap.size 0 f.cells).heap.size := by
    rw [(puts_world f.cells (wx.alloc (boxF zF)) wx.heap.size 0).2.2.2]
    simp
  exact ⟨t5, below_put (h.alloc h.size _) h.size 0 f.cells, box_put f t5, World.there_setCells t5 _ _ _, h.size, hsz⟩
theorem Cpy.below {w W W' : World} {b : Nat} {f : Fw} (h : Cpy w b f W) (hb : Below W.heap.size W W') : Cpy w b f W' :=
  ⟨h.bel.trans (hb.mono h.bel.size), h.box.keep (hb.block b h.hi), there_keep h.fre (hb.block b h.hi), h.lo, Nat.lt_of_lt_of_le h.hi hb.size⟩
theorem Cpy.st {w W : World} {b : Nat} {f : Fw} (h : Cpy w b f W) (x : Int) : Cpy w b { f with st := x } (W.setCell ⟨b, 12, none⟩ (.int .i64 x)) :=
  ⟨below_put h.bel h.lo 12 [.int .i64 x], h.box.st x, World.there_setCells h.fre b 12 [.int .i64 x], h.lo, by have := (puts_world [.int .i64 x] W b 12).2.2.2; exact Nat.lt_of_lt_of_le h.hi (Nat.le_of_eq this.symm)⟩
end Go.Proofs.YtpbknbnhljjjcaaDoor

namespace Go.Proofs.YtpbknbnhljjjcaaDoor
open Go.RowKit Go.Maps Go.Lib
section
variable {S : Nat → Prop} {pl : Pl} {c : Cf} {g : FlG} {w w' : World}
set_option maxRecDepth 100000 in
set_option maxHeartbeats 2000000 in
theorem touch_nobody (h : Fls pl c g S w) (k : Int) (hk : k < 1 ∨ (g.t.rows.length : Int) ≤ k ∨ ∃ i : Nat, k = (i : Int) ∧ g.t.rows[i]? = some none) (b : Bool) (flags : Int) :
    Calls Tryd.prog 18 #[.pointer (some ⟨pl.F, 0, none⟩), .int .i64 k, .bool b, .int .i64 flags] w fun e w' => e = .returned (.int .i64 19) ∧ Below w.heap.size w w' := by
  have c7 := h.cells.tt
  obtain ⟨S3, gR, capR, MA, MB, nB, lvF, _, h3⟩ := h.tab
  have HG := Lib.hid (get_nobody h3 k hk)
  have HC := Lib.hid (fun (wx : World) (hb : Below w.heap.size w wx) => cpy_new hb zF)
  have HS := Lib.hid flow_size
  have HO := Lib.hid (flow_one zF)
  have HNS := Lib.hid (show zF.cells.toArray.size = 14 from rfl)
  obtain ⟨fv, hfv⟩ : ∃ fv, zF.v = fv := ⟨_, rfl⟩
  have HCV := Lib.hid (show fv = .agg zF.cells.toArray from by rw [← hfv]; rfl)
  rw [hfv] at HG
  clear h h3 hk hfv
  go_enter Tryd.func18, Tryd.ntmps18
  go_upto_region 2 with (first
    | (go_at_call 40; refine HG.out.mono ?_; rintro e wx ⟨rfl, hb⟩; obtain ⟨t5, hst⟩ := HC.out wx hb; have HT5 := Lib.hid t5; have HST0 := Lib.hid hst; clear hb t5 hst)
    | (refine wpList_store_mid rfl 52 _ _ rfl wx.heap.size 0 zF.cells.toArray rfl HCV.out (by rw [HNS.out]; exact HT5.out) (by rw [HNS.out]; exact HS.out) HO.out ?_))
  obtain ⟨w3, hw3⟩ : ∃ w3, (wx.alloc (boxF zF)).setCells wx.heap.size 0 zF.cells = w3 := ⟨_, rfl⟩
  have s3 := HST0.out
  rw [hw3] at s3
  have S3 := Lib.hid s3
  clear s3 HST0
  refine wp_world w3 hw3 ?_
  clear hw3
  go_wp2_with fail
  go_ret
  exact ⟨rfl, S3.out.bel⟩
end
end Go.Proofs.YtpbknbnhljjjcaaDoor

namespace Go.Proofs.YtpbknbnhljjjcaaDoor
open Go.RowKit Go.Maps Go.Lib
section
variable {S : Nat → Prop} {pl : Pl} {c : Cf} {g : FlG} {w w' : World}
set_option maxRecDepth 100000 in
set_option maxHeartbeats 2000000 in
theorem touch_bad (h : Fls pl c g S w) {i : Nat} {r : Ro} (h1 : 1 ≤ i) (hi : g.t.rows[i]? = some (some r)) (s : Nat) (hs : s < 9) (hst : r.v.st = (s : Int)) (b : Bool) (flags : Int) (ho : (fstep r.v.c.p s b flags).2 = false) :
    Calls Tryd.prog 18 #[.pointer (some ⟨pl.F, 0, none⟩), .int .i64 (i : Int), .bool b, .int .i64 flags] w fun e w' => e = .returned (.int .i64 15) ∧ Below w.heap.size w w' := by
  have c7 := h.cells.tt
  obtain ⟨S3, gR, capR, MA, MB, nB, lvF, _, h3⟩ := h.tab
  have HG := Lib.hid (get_some h3 h1 hi)
  have HC := Lib.hid (fun (wx : World) (hb : Below w.heap.size w wx) => cpy_new hb r.v)
  have HS := Lib.hid flow_size
  have HO := Lib.hid (flow_one r.v)
  have HNS := Lib.hid (show r.v.cells.toArray.size = 14 from by simp [Fw.cells, Tup.cells])
  have HF := Lib.hid (fun (W : World) => fstep_ok r.v.c.p s hs b flags W)
  rw [ho] at HF
  obtain ⟨x, hx⟩ : ∃ x, (fstep r.v.c.p s b flags).1 = x := ⟨_, rfl⟩
  rw [hx] at HF
  clear h h3 h1 hi hs ho hx
  obtain ⟨fv, hfv⟩ : ∃ fv, r.v.v = fv := ⟨_, rfl⟩
  have HCV := Lib.hid (show fv = .agg r.v.cells.toArray from by rw [← hfv]; rfl)
  rw [hfv] at HG
  clear hfv
  go_enter Tryd.func18, Tryd.ntmps18
  go_upto_region 2 with (first
    | (go_at_call 40; refine HG.out.mono ?_; rintro e wx ⟨rfl, hb⟩; obtain ⟨t5, hst⟩ := HC.out wx hb; have HT5 := Lib.hid t5; have HST0 := Lib.hid hst; clear hb t5 hst)
    | (refine wpList_store_mid rfl 52 _ _ rfl wx.heap.size 0 r.v.cells.toArray rfl HCV.out (by rw [HNS.out]; exact HT5.out) (by rw [HNS.out]; exact HS.out) HO.out ?_))
  obtain ⟨w3, hw3⟩ : ∃ w3, (wx.alloc (boxF zF)).setCells wx.heap.size 0 r.v.cells = w3 := ⟨_, rfl⟩
  have s3 := HST0.out
  rw [hw3] at s3
  have q0 := s3.box.cc.1
  have q2 := s3.box.rr.2.2.1
  rw [hst] at q2
  have S3 := Lib.hid s3
  clear s3 HST0 c7
  refine wp_world w3 hw3 ?_
  clear hw3
  go_upto_region 5 with (go_at_call 33; refine (HF.out _).mono ?_; rintro e w4 ⟨rfl, hb⟩; have s4 := S3.out.below hb; have r2 := s4.box.rr.2.2.1; have r3 := (s4.fre 12 (by omega)).2; rw [Nat.zero_add] at r3; have S4 := Lib.hid s4; clear hb s4)
  obtain ⟨w5, hw5⟩ : ∃ w5, w4.setCell ⟨wx.heap.size, 12, none⟩ (.int .i64 (x : Int)) = w5 := ⟨_, rfl⟩
  have s5 := S4.out.st (x : Int)
  rw [hw5] at s5
  have S5 := Lib.hid s5
  clear s5 r2 r3 q0 q2
  refine wp_world w5 hw5 ?_
  clear hw5
  go_wp2_with fail
  go_ret
  exact ⟨rfl, S5.out.bel⟩
set_option maxRecDepth 100000 in
set_option maxHeartbeats 2000000 in
theorem touch_ends (h : Fls pl c g S w) {i : Nat} {r : Ro} (h1 : 1 ≤ i) (hi : g.t.rows[i]? = some (some r)) (s : Nat) (hs : s < 9) (hst : r.v.st = (s : Int)) (b : Bool) (flags : Int) (ho : (fstep r.v.c.p s b flags).2 = true) (hz : (fstep r.v.c.p s b flags).1 = 0) (ha : r.a.ok) (hb : r.b.ok) (hA : (g.t.fA r.a).isSome = true) (hl : g.t.free.length < 1000000) (hw : (Lit.int .i64 (i : Int)).wf = true) (j : Nat) (hd : r.v.dsr = false → GiveOk c g r.v j) (hnow : g.now ≤ 1099511627776) (hrest : c.rest ≤ 1099511627776) (hN : g.N < 1000000) :
    Calls Tryd.prog 18 #[.pointer (some ⟨pl.F, 0, none⟩), .int .i64 (i : Int), .bool b, .int .i64 flags] w fun e w' => e = .returned (.int .i64 0) ∧ ∃ l, l.Perm ((i : Int) :: g.t.free) ∧ Tn (Fls pl c (endG c g i r l j)) S w w' := by
  have c7 := h.cells.tt
  obtain ⟨S3, gR, capR, MA, MB, nB, lvF, _, h3⟩ := h.tab
  have HG := Lib.hid (get_some h3 h1 hi)
  have HC := Lib.hid (fun (wx : World) (hb : Below w.heap.size w wx) => cpy_new hb r.v)
  have HS := Lib.hid flow_size
  have HO := Lib.hid (flow_one r.v)
  have HNS := Lib.hid (show r.v.cells.toArray.size = 14 from by simp [Fw.cells, Tup.cells])
  have HF := Lib.hid (fun (W : World) => fstep_ok r.v.c.p s hs b flags W)
  rw [ho] at HF
  obtain ⟨x, hx⟩ : ∃ x, (fstep r.v.c.p s b flags).1 = x := ⟨_, rfl⟩
  rw [hx] at HF hz
  have HZ := Lib.hid (show x = 0 from hz)
  clear hz
  have HE := Lib.hid (fun (W : World) (hbb : Below w.heap.size w W) => (end_fl (h.below hbb) h1 hi ha hb hA hl hw j hd hnow hrest hN).mono (fun e w' k => And.intro k.1 (show ∃ l, l.Perm ((i : Int) :: g.t.free) ∧ Tn (Fls pl c (endG c g i r l j)) S w w' from by obtain ⟨l, p, q⟩ := k.2; exact ⟨l, p, Tn.after hbb q⟩)))
  clear h h3 h1 hi hs ho hx ha hb hA hl hw hd hnow hrest hN
  obtain ⟨fv, hfv⟩ : ∃ fv, r.v.v = fv := ⟨_, rfl⟩
  have HCV := Lib.hid (show fv = .agg r.v.cells.toArray from by rw [← hfv]; rfl)
  rw [hfv] at HG
  clear hfv
  go_enter Tryd.func18, Tryd.ntmps18
  go_upto_region 2 with (first
    | (go_at_call 40; refine HG.out.mono ?_; rintro e wx ⟨rfl, hb⟩; obtain ⟨t5, hst⟩ := HC.out wx hb; have HT5 := Lib.hid t5; have HST0 := Lib.hid hst; clear hb t5 hst)
    | (refine wpList_store_mid rfl 52 _ _ rfl wx.heap.size 0 r.v.cells.toArray rfl HCV.out (by rw [HNS.out]; exact HT5.out) (by rw [HNS.out]; exact HS.out) HO.out ?_))
  obtain ⟨w3, hw3⟩ : ∃ w3, (wx.alloc (boxF zF)).setCells wx.heap.size 0 r.v.cells = w3 := ⟨_, rfl⟩
  have s3 := HST0.out
  rw [hw3] at s3
  have q0 := s3.box.cc.1
  have q2 := s3.box.rr.2.2.1
  rw [hst] at q2
  have S3 := Lib.hid s3
  clear s3 HST0 c7
  refine wp_world w3 hw3 ?_
  clear hw3
  go_upto_region 5 with (go_at_call 33; refine (HF.out _).mono ?_; rintro e w4 ⟨rfl, hb⟩; have s4 := S3.out.below hb; have r2 := s4.box.rr.2.2.1; have r3 := (s4.fre 12 (by omega)).2; rw [Nat.zero_add] at r3; have S4 := Lib.hid s4; clear hb s4)
  obtain ⟨w5, hw5⟩ : ∃ w5, w4.setCell ⟨wx.heap.size, 12, none⟩ (.int .i64 (x : Int)) = w5 := ⟨_, rfl⟩
  have s5 := S4.out.st (x : Int)
  rw [hw5] at s5
  have S5 := Lib.hid s5
  clear s5 r2 r3 q0 q2
  refine wp_world w5 hw5 ?_
  clear hw5
  have r2 : w5.cell? ⟨wx.heap.size, 12, none⟩ = some (.int .i64 0) := by
    have h0 := S5.out.box.rr.2.2.1
    rw [show ({ r.v with st := (x : Int) } : Fw).st = 0 from by rw [HZ.out]; rfl] at h0
    exact h0
  go_wp2_with (go_at_call 41; refine (HE.out _ S5.out.bel).mono ?_; rintro e w6 ⟨rfl, ht⟩; have HT := Lib.hid ht; clear ht)
  go_ret
  exact ⟨rfl, HT.out⟩
end
end Go.Proofs.YtpbknbnhljjjcaaDoor

namespace Go.Proofs.YtpbknbnhljjjcaaDoor
open Go.RowKit Go.Maps Go.Lib
section
variable {S : Nat → Prop} {pl : Pl} {c : Cf} {g : FlG} {w w' : World}
/-- A flow stands anew. -/
def setG (g : FlG) (i : Nat) (r : Ro) (v : Fw) : FlG := { g with t := { g.t with rows := g.t.rows.set i (some { r with v := v }) } }
theorem set_in (h : Fls pl c g S w) {i : Nat} {r : Ro} (h1 : 1 ≤ i) (hi : g.t.rows[i]? = some (some r)) (v : Fw) :
    Calls Tryd.prog 42 #[.pointer (some ⟨pl.T, 0, none⟩), .int .i64 (i : Int), v.v] w fun e w' => e = .returned (.bool true) ∧ Tn (Fls pl c (setG g i r v)) S w w' := by
  obtain ⟨S3, ⟨gR, capR, MA, MB, nB, lvF, hnB, ht⟩, _, hT⟩ := Tri.three (B := TabC pl.T c.room g.nB { g.t with rows := g.t.rows.set i (some { r with v := v }) }) (portsC ..) (clkC ..) h
  refine (set_tab ht h1 hi v).mono ?_
  rintro e w' ⟨rfl, k1, k2⟩
  exact ⟨rfl, hT w' ⟨S3, ⟨gR, capR, MA, MB, nB, lvF, hnB, k1⟩, k2, fun i hi => .inl hi⟩⟩
end
end Go.Proofs.YtpbknbnhljjjcaaDoor

namespace Go.Proofs.YtpbknbnhljjjcaaDoor
open Go.RowKit Go.Maps Go.Lib
section
variable {S : Nat → Prop} {pl : Pl} {c : Cf} {g : FlG} {w w' : World}
set_option maxRecDepth 100000 in
set_option maxHeartbeats 2000000 in
theorem touch_on (h : Fls pl c g S w) {i : Nat} {r : Ro} (h1 : 1 ≤ i) (hi : g.t.rows[i]? = some (some r)) (s : Nat) (hs : s < 9) (hst : r.v.st = (s : Int)) (b : Bool) (flags : Int) (ho : (fstep r.v.c.p s b flags).2 = true) (x : Nat) (hx : (fstep r.v.c.p s b flags).1 = x) (hz : x ≠ 0) (hkb : (i : Int) ≤ 9223372036854775807) (n : Nat) (hsx : (Lit.int .i64 (x : Int)).wf = true) (hn : c.tm.of (x : Int) = some (n : Int)) (hn1 : 1 ≤ n) (hn2 : n ≤ 1073741824) (hnow : g.now < 1099511627776) (hog : g.o < 549755813887) :
    Calls Tryd.prog 18 #[.pointer (some ⟨pl.F, 0, none⟩), .int .i64 (i : Int), .bool b, .int .i64 flags] w fun e w' => e = .returned (.int .i64 0) ∧ Tn (Fls pl c (armG (setG g i r { r.v with st := (x : Int) }) (i : Int) (min (g.now + n) 1099511627776))) S w w' := by
  have c7 := h.cells.tt
  obtain ⟨S3, gR, capR, MA, MB, nB, lvF, _, h3⟩ := h.tab
  have HG := Lib.hid (get_some h3 h1 hi)
  have HC := Lib.hid (fun (wx : World) (hb : Below w.heap.size w wx) => cpy_new hb r.v)
  have HS := Lib.hid flow_size
  have HO := Lib.hid (flow_one r.v)
  have HNS := Lib.hid (show r.v.cells.toArray.size = 14 from by simp [Fw.cells, Tup.cells])
  have HF := Lib.hid (fun (W : World) => fstep_ok r.v.c.p s hs b flags W)
  rw [ho] at HF
  rw [hx] at HF
  obtain ⟨f', hf'⟩ : ∃ f', ({ r.v with st := (x : Int) } : Fw) = f' := ⟨_, rfl⟩
  have hfs : f'.st = (x : Int) := by rw [← hf']
  rw [hf']
  have hlow := Fls.comp.low h
  have HKF := Lib.hid (show ∀ (bx : Nat) (W : World), Cpy w bx f' W → (W.cell? ⟨pl.F, 7, none⟩ = some (.pointer (some ⟨pl.T, 0, none⟩)) ∧ W.cell? ⟨bx, 0, none⟩ = some (.int .i64 f'.c.p) ∧ W.cell? ⟨bx, 1, none⟩ = some (.int .u32 f'.c.s) ∧ W.cell? ⟨bx, 2, none⟩ = some (.int .u32 f'.c.d) ∧ W.cell? ⟨bx, 3, none⟩ = some (.int .i64 f'.c.x) ∧ W.cell? ⟨bx, 4, none⟩ = some (.int .i64 f'.c.y) ∧ W.cell? ⟨bx, 5, none⟩ = some (.int .i64 f'.b.p) ∧ W.cell? ⟨bx, 6, none⟩ = some (.int .u32 f'.b.s) ∧ W.cell? ⟨bx, 7, none⟩ = some (.int .u32 f'.b.d) ∧ W.cell? ⟨bx, 8, none⟩ = some (.int .i64 f'.b.x) ∧ W.cell? ⟨bx, 9, none⟩ = some (.int .i64 f'.b.y) ∧ W.cell? ⟨bx, 10, none⟩ = some (.int .i64 f'.sv) ∧ W.cell? ⟨bx, 11, none⟩ = some (.int .i64 f'.bk) ∧ W.cell? ⟨bx, 12, none⟩ = some (.int .i64 f'.st) ∧ W.cell? ⟨bx, 13, none⟩ = some (.bool f'.dsr)) from fun bx W k => by
    obtain ⟨⟨p0, p1, p2, p3, p4⟩, ⟨q0, q1, q2, q3, q4⟩, r0, r1, r2, r3⟩ := k.box
    exact ⟨(h.below k.bel).cells.tt, p0, p1, p2, p3, p4, q0, q1, q2, q3, q4, r0, r1, r2, r3⟩)
  have HKG := Lib.hid (show ∀ (bx : Nat) (G : FlG) (U : Nat → Prop) (W : World), St pl c S w bx bx f' G U W → (W.cell? ⟨pl.F, 7, none⟩ = some (.pointer (some ⟨pl.T, 0, none⟩)) ∧ W.cell? ⟨bx, 0, none⟩ = some (.int .i64 f'.c.p) ∧ W.cell? ⟨bx, 1, none⟩ = some (.int .u32 f'.c.s) ∧ W.cell? ⟨bx, 2, none⟩ = some (.int .u32 f'.c.d) ∧ W.cell? ⟨bx, 3, none⟩ = some (.int .i64 f'.c.x) ∧ W.cell? ⟨bx, 4, none⟩ = some (.int .i64 f'.c.y) ∧ W.cell? ⟨bx, 5, none⟩ = some (.int .i64 f'.b.p) ∧ W.cell? ⟨bx, 6, none⟩ = some (.int .u32 f'.b.s) ∧ W.cell? ⟨bx, 7, none⟩ = some (.int .u32 f'.b.d) ∧ W.cell? ⟨bx, 8, none⟩ = some (.int .i64 f'.b.x) ∧ W.cell? ⟨bx, 9, none⟩ = some (.int .i64 f'.b.y) ∧ W.cell? ⟨bx, 10, none⟩ = some (.int .i64 f'.sv) ∧ W.cell? ⟨bx, 11, none⟩ = some (.int .i64 f'.bk) ∧ W.cell? ⟨bx, 12, none⟩ = some (.int .i64 f'.st) ∧ W.cell? ⟨bx, 13, none⟩ = some (.bool f'.dsr)) from fun bx G U W k => by
    obtain ⟨⟨p0, p1, p2, p3, p4⟩, ⟨q0, q1, q2, q3, q4⟩, r0, r1, r2, r3⟩ := k.c5
    exact ⟨k.fl.cells.tt, p0, p1, p2, p3, p4, q0, q1, q2, q3, q4, r0, r1, r2, r3⟩)
  have HSET := Lib.hid (show ∀ (bx : Nat) (W : World), Cpy w bx f' W → Calls Tryd.prog 42 #[.pointer (some ⟨pl.T, 0, none⟩), .int .i64 (i : Int), f'.v] W fun e w' => e = .returned (.bool true) ∧ ∃ U, St pl c S w bx bx f' (setG g i r f') U w' from fun bx W k => (set_in (h.below k.bel) h1 hi f').mono (fun e w' kk => ⟨kk.1, St.step ⟨h.below k.bel, Only.of_below k.bel, fun i hi => .inl hi, fun e => by have := hlow _ e; have := k.lo; omega, fun e => by have := hlow _ e; have := k.lo; omega, k.box, k.fre, k.hi, k.hi⟩ kk.2⟩))
  have HARM := Lib.hid (show ∀ (bx : Nat) (U : Nat → Prop) (W : World), St pl c S w bx bx f' (setG g i r f') U W → Calls Tryd.prog 38 #[.pointer (some ⟨pl.F, 0, none⟩), .int .i64 (i : Int), f'.v] W fun e w' => e = .returned (.tuple #[]) ∧ Tn (Fls pl c (armG (setG g i r f') (i : Int) (min (g.now + n) 1099511627776))) S w w' from fun bx U W k => (arm_fl k.fl f' ⟨by omega, hkb⟩ n (by rw [hfs]; exact hsx) (by rw [hfs]; exact hn) hn1 hn2 hnow hog).mono (fun e w' kk => ⟨kk.1, by obtain ⟨V, k6⟩ := St.step k kk.2; exact ⟨V, k6.fl, k6.on, k6.new⟩⟩))
  unfold Fw.v at HSET HARM
  have HFS := Lib.hid hfs
  have HF' := Lib.hid hf'
  have HZ := Lib.hid (show ((x : Int) == 0) = false from by simpa using hz)
  clear h h3 h1 hi hs ho hx hz hkb hsx hn hn1 hn2 hnow hog hfs hf' hlow
  obtain ⟨fv, hfv⟩ : ∃ fv, r.v.v = fv := ⟨_, rfl⟩
  have HCV := Lib.hid (show fv = .agg r.v.cells.toArray from by rw [← hfv]; rfl)
  rw [hfv] at HG
  clear hfv
  go_enter Tryd.func18, Tryd.ntmps18
  go_upto_region 2 with (first
    | (go_at_call 40; refine HG.out.mono ?_; rintro e wx ⟨rfl, hb⟩; obtain ⟨t5, hst⟩ := HC.out wx hb; have HT5 := Lib.hid t5; have HST0 := Lib.hid hst; clear hb t5 hst)
    | (refine wpList_store_mid rfl 52 _ _ rfl wx.heap.size 0 r.v.cells.toArray rfl HCV.out (by rw [HNS.out]; exact HT5.out) (by rw [HNS.out]; exact HS.out) HO.out ?_))
  obtain ⟨w3, hw3⟩ : ∃ w3, (wx.alloc (boxF zF)).setCells wx.heap.size 0 r.v.cells = w3 := ⟨_, rfl⟩
  have s3 := HST0.out
  rw [hw3] at s3
  have q0 := s3.box.cc.1
  have q2 := s3.box.rr.2.2.1
  rw [hst] at q2
  have S3 := Lib.hid s3
  clear s3 HST0 c7
  refine wp_world w3 hw3 ?_
  clear hw3
  go_upto_region 5 with (go_at_call 33; refine (HF.out _).mono ?_; rintro e w4 ⟨rfl, hb⟩; have s4 := S3.out.below hb; have r2 := s4.box.rr.2.2.1; have r3 := (s4.fre 12 (by omega)).2; rw [Nat.zero_add] at r3; have S4 := Lib.hid s4; clear hb s4)
  obtain ⟨w5, hw5⟩ : ∃ w5, w4.setCell ⟨wx.heap.size, 12, none⟩ (.int .i64 (x : Int)) = w5 := ⟨_, rfl⟩
  have s5 := S4.out.st (x : Int)
  rw [hw5, HF'.out] at s5
  have S5 := Lib.hid s5
  clear s5 r2 r3 q0 q2
  refine wp_world w5 hw5 ?_
  clear hw5
  have r2 : w5.cell? ⟨wx.heap.size, 12, none⟩ = some (.int .i64 (x : Int)) := by
    have h0 := S5.out.box.rr.2.2.1
    rw [HFS.out] at h0
    exact h0
  have hz := HZ.out
  go_upto_region 10 with fail
  have S6 := Lib.hid (S5.out.below (below_drew (Below.refl _ w5)))
  go_region_held3 (fun W : World => (W.cell? ⟨pl.F, 7, none⟩ = some (.pointer (some ⟨pl.T, 0, none⟩)) ∧ W.cell? ⟨wx.heap.size, 0, none⟩ = some (.int .i64 f'.c.p) ∧ W.cell? ⟨wx.heap.size, 1, none⟩ = some (.int .u32 f'.c.s) ∧ W.cell? ⟨wx.heap.size, 2, none⟩ = some (.int .u32 f'.c.d) ∧ W.cell? ⟨wx.heap.size, 3, none⟩ = some (.int .i64 f'.c.x) ∧ W.cell? ⟨wx.heap.size, 4, none⟩ = some (.int .i64 f'.c.y) ∧ W.cell? ⟨wx.heap.size, 5, none⟩ = some (.int .i64 f'.b.p) ∧ W.cell? ⟨wx.heap.size, 6, none⟩ = some (.int .u32 f'.b.s) ∧ W.cell? ⟨wx.heap.size, 7, none⟩ = some (.int .u32 f'.b.d) ∧ W.cell? ⟨wx.heap.size, 8, none⟩ = some (.int .i64 f'.b.x) ∧ W.cell? ⟨wx.heap.size, 9, none⟩ = some (.int .i64 f'.b.y) ∧ W.cell? ⟨wx.heap.size, 10, none⟩ = some (.int .i64 f'.sv) ∧ W.cell? ⟨wx.heap.size, 11, none⟩ = some (.int .i64 f'.bk) ∧ W.cell? ⟨wx.heap.size, 12, none⟩ = some (.int .i64 f'.st) ∧ W.cell? ⟨wx.heap.size, 13, none⟩ = some (.bool f'.dsr))) (first | exact HKF.out _ _ S5.out | exact HKF.out _ _ S6.out | exact HKG.out _ _ _ _ S7.out) (first
    | (go_at_call 42; refine (HSET.out _ _ (by first | exact S6.out | exact S5.out)).mono ?_; rintro e w7 ⟨rfl, U7, s7⟩; have S7 := Lib.hid s7; clear s7))
  all_goals
    obtain ⟨_, p0, p1, p2, p3, p4, q0, q1, q2, q3, q4, r0, r1, r2, r3⟩ := HKG.out _ _ _ _ S7.out
    go_wp2_with (go_at_call 38; refine (HARM.out _ _ _ S7.out).mono ?_; rintro e w8 ⟨rfl, ht⟩; have HT := Lib.hid ht; clear ht)
    go_ret
    exact ⟨rfl, HT.out⟩
end
end Go.Proofs.YtpbknbnhljjjcaaDoor

namespace Go.Proofs.YtpbknbnhljjjcaaDoor
open Go.RowKit Go.Maps Go.Lib
section
variable {S : Nat → Prop} {pl : Pl} {c : Cf} {g : FlG} {w w' : World}
/-- A key's first port is lent. -/
def takeG (c : Cf) (g : FlG) (K : PKey) (pb : PB) : FlG := { g with N := g.N + 1, lay := updL g.lay K (some pb), parts := updL g.parts K (part1 c.many) }
theorem take_in (h : Fls pl c g S w) (hT : TabAt 0 Lib.deBruijn64tab w) (hT0 : 0 < w.heap.size ∧ ¬ S 0) {K : PKey} (hK : K.ok) (hno : g.lay K = none) (hm : 1 ≤ c.many ∧ c.many ≤ 64) (hnn : g.N < 1000000) (hlow : c.low ≤ 65536) (now : Int) :
    Calls Tryd.prog 34 #[.pointer (some ⟨pl.P, 0, none⟩), K.v, .int .i64 now] w fun e w' => e = .returned (.tuple #[.int .i64 (c.low : Int), .int .i64 0]) ∧ ∃ pb, Tn (Fls pl c (takeG c g K pb)) S w w' := by
  obtain ⟨S1, hp, hsub, hTn⟩ := Tri.oneAll (clkC ..) (tabC ..) h
  refine (take_fresh (show PortsIn S1 pl.P pl.MP c.low c.many c.rest g.N g.lay g.parts w from hp) hT ⟨hT0.1, fun e => hT0.2 (hsub 0 e)⟩ hK hno hm hnn hlow now).mono ?_
  rintro e w' ⟨rfl, S', pb, k1, k2, k3⟩
  exact ⟨rfl, pb, hTn (PortsC pl.P pl.MP c (g.N + 1) (updL g.lay K (some pb)) (updL g.parts K (part1 c.many))) w' ⟨S', k1, k2, k3⟩⟩
/-- A row more. -/
def putG (g : FlG) (a b : Tup) (v : Fw) : FlG := { g with nB := g.nB + 1, t := ⟨g.t.rows ++ [some ⟨a, b, v⟩], g.t.free, updT g.t.fA a (some g.t.rows.length), updT g.t.fB b (some g.t.rows.length), g.t.n + 1⟩ }
theorem put_in (h : Fls pl c g S w) {a b : Tup} (ha : a.ok) (hb : b.ok) (v : Fw) (hA : g.t.fA a = none) (hB : g.t.fB b = none) (hn : g.t.n ≠ c.room) (hfr : g.t.free = []) (hn1 : g.t.n < 1000000) (hnB : g.nB < 1000000) (hlen : g.t.rows.length < 1000000) :
    Calls Tryd.prog 36 #[.pointer (some ⟨pl.T, 0, none⟩), a.v, b.v, v.v] w fun e w' => e = .returned (.tuple #[.int .i64 (g.t.rows.length : Int), .int .i64 0]) ∧ Tn (Fls pl c (putG g a b v)) S w w' := by
  obtain ⟨S3, ⟨gR, capR, MA, MB, nB, lvF, hnB0, ht⟩, _, hT⟩ := Tri.three (B := TabC pl.T c.room (g.nB + 1) (putG g a b v).t) (portsC ..) (clkC ..) h
  refine (put_new ht ha hb v hA hB hn hfr hn1 (by omega) hlen).mono ?_
  rintro e w' ⟨rfl, S', gR', capR', nB', k1, k2, k3, k4⟩
  exact ⟨rfl, hT w' ⟨S', ⟨gR', capR', MA, MB, nB', lvF, by omega, k2⟩, k3, k4⟩⟩
end
end Go.Proofs.YtpbknbnhljjjcaaDoor

namespace Go.Proofs.YtpbknbnhljjjcaaDoor
open Go.RowKit Go.Maps Go.Lib
def g0 : FlG := ⟨0, 0, [], 0, fun _ => none, fun _ => part0, 0, tb0⟩
def boxC (c : Cf) : Obj := .cells #[.int .i64 (c.room : Int), .int .i64 (c.low : Int), .int .i64 (c.many : Int), .int .i64 (c.rest : Int), .int .i64 c.tm.op, .int .i64 c.tm.on, .int .i64 c.tm.cl, .int .i64 c.tm.wa, .int .i64 c.tm.ud] 25
theorem boxC_cells {c : Cf} {b : Nat} {W : World} (h : W.heap[b]? = some (boxC c)) : (W.cell? ⟨b, 0, none⟩ = some (.int .i64 (c.room : Int)) ∧ W.cell? ⟨b, 1, none⟩ = some (.int .i64 (c.low : Int)) ∧ W.cell? ⟨b, 2, none⟩ = some (.int .i64 (c.many : Int)) ∧ W.cell? ⟨b, 3, none⟩ = some (.int .i64 (c.rest : Int)) ∧ W.cell? ⟨b, 4, none⟩ = some (.int .i64 c.tm.op) ∧ W.cell? ⟨b, 5, none⟩ = some (.int .i64 c.tm.on) ∧ W.cell? ⟨b, 6, none⟩ = some (.int .i64 c.tm.cl) ∧ W.cell? ⟨b, 7, none⟩ = some (.int .i64 c.tm.wa) ∧ W.cell? ⟨b, 8, none⟩ = some (.int .i64 c.tm.ud)) := by
  unfold boxC at h
  refine ⟨?_, ?_, ?_, ?_, ?_, ?_, ?_, ?_, ?_⟩ <;> simp [World.cell?, h]
/-- The three parts, made one behind the other, and the flows' own cells. -/
theorem fls_new {c : Cf} {w1 w2 w3 w4 w5 : World} {MA MB Wp gR capR : Nat} {lvF : Value} {S2 : Nat → Prop} (h2 : TabIn (fun i => w1.heap.size ≤ i ∧ i < w1.heap.size + 4) (w1.heap.size + 3) gR capR MA MB 0 c.room lvF tb0 w2) (h3 : PortsIn (fun i => w2.heap.size ≤ i ∧ i < w2.heap.size + 2) (w2.heap.size + 1) w2.heap.size c.low c.many c.rest 0 (fun _ => none) (fun _ => part0) w3) (h5 : Whl S2 Wp 0 0 [] w5) (b3 : Below w2.heap.size w2 w3) (b4 : Below w3.heap.size w3 w4) (b5 : Below w4.heap.size w4 w5) (hlo : ∀ i, S2 i → w4.heap.size ≤ i) :
    Fls ⟨w5.heap.size, w2.heap.size + 1, w2.heap.size, Wp, w1.heap.size + 3⟩ c g0 (fun i => i = w5.heap.size ∨ (w2.heap.size ≤ i ∧ i < w2.heap.size + 2) ∨ S2 i ∨ (w1.heap.size ≤ i ∧ i < w1.heap.size + 4)) (w5.alloc (objF ⟨w5.heap.size, w2.heap.size + 1, w2.heap.size, Wp, w1.heap.size + 3⟩ c)) := by
  have b6 : Below w5.heap.size w5 (w5.alloc (objF ⟨w5.heap.size, w2.heap.size + 1, w2.heap.size, Wp, w1.heap.size + 3⟩ c)) := (Below.refl _ _).alloc (Nat.le_refl _) _
  have l2 := h2.low
  have l3 := h3.lows
  have l5 := h5.low
  have e3 := b3.size
  have e4 := b4.size
  have e5 := b5.size
  have p6 := (((h3.below b4).below (b5.mono (Nat.le_refl _))).below b6)
  have t6 := (((h2.below b3).below b4).below b5).below b6
  have s2 : ∀ i, S2 i → w4.heap.size ≤ i ∧ i < w5.heap.size := fun i hi => ⟨hlo i hi, l5 i hi⟩
  refine ⟨_, S2, _, ⟨p6, h5.below b6, gR, capR, MA, MB, 0, lvF, Nat.le_refl _, t6⟩, heap_alloc_new w5 _, fun i hi => ?_, fun i hi => ?_, fun i hi => ?_, fun i => Iff.rfl⟩
  · have q := l3 i hi
    exact ⟨by show i ≠ w5.heap.size; omega, fun e => by have := s2 i e; omega, fun e => by have := l2 i e; have := hi.1; omega⟩
  · have q := s2 i hi
    exact ⟨by show i ≠ w5.heap.size; omega, fun e => by have := l2 i e; omega⟩
  · have q := l2 i hi
    show i ≠ w5.heap.size
    omega
set_option maxRecDepth 100000 in
set_option maxHeartbeats 2000000 in
theorem new_fl (c : Cf) (hr : 1 ≤ c.room ∧ c.room ≤ 65536) (hp : ¬ PortsBad c.low c.many c.rest) (ht : c.tm.right) (w : World) :
    Calls Tryd.prog 12 #[.agg #[.int .i64 (c.room : Int), .int .i64 (c.low : Int), .int .i64 (c.many : Int), .int .i64 (c.rest : Int), .int .i64 c.tm.op, .int .i64 c.tm.on, .int .i64 c.tm.cl, .int .i64 c.tm.wa, .int .i64 c.tm.ud]] w fun e w' => ∃ pl S, e = .returned (.tuple #[.pointer (some ⟨pl.F, 0, none⟩), .int .i64 0]) ∧ Fls pl c g0 S w' ∧ Below w.heap.size w w' ∧ ∀ i, S i → w.heap.size ≤ i := by
  have HT := Lib.hid (fun (W : World) => tab_new c.room hr.1 hr.2 W)
  have HP := Lib.hid (fun (W : World) => ports_new c.low c.many c.rest hp W)
  have HR := Lib.hid (fun (W : World) => right_ok c.tm ht W)
  unfold Tms.v at HR
  obtain ⟨w1, hw1⟩ : ∃ w1, w.alloc (boxC c) = w1 := ⟨_, rfl⟩
  have hb1 : Below w.heap.size w w1 := by rw [← hw1]; exact (Below.refl _ w).alloc (Nat.le_refl _) _
  have hx1 : w1.heap[w.heap.size]? = some (boxC c) := by rw [← hw1]; exact heap_alloc_new w _
  have hlt := (Array.getElem?_eq_some_iff.1 hx1).1
  have HS := Lib.hid (show ∀ W : World, Below w1.heap.size w1 W → (W.cell? ⟨w.heap.size, 0, none⟩ = some (.int .i64 (c.room : Int)) ∧ W.cell? ⟨w.heap.size, 1, none⟩ = some (.int .i64 (c.low : Int)) ∧ W.cell? ⟨w.heap.size, 2, none⟩ = some (.int .i64 (c.many : Int)) ∧ W.cell? ⟨w.heap.size, 3, none⟩ = some (.int .i64 (c.rest : Int)) ∧ W.cell? ⟨w.heap.size, 4, none⟩ = some (.int .i64 c.tm.op) ∧ W.cell? ⟨w.heap.size, 5, none⟩ = some (.int .i64 c.tm.on) ∧ W.cell? ⟨w.heap.size, 6, none⟩ = some (.int .i64 c.tm.cl) ∧ W.cell? ⟨w.heap.size, 7, none⟩ = some (.int .i64 c.tm.wa) ∧ W.cell? ⟨w.heap.size, 8, none⟩ = some (.int .i64 c.tm.ud)) from fun W hb => boxC_cells ((hb.block _ hlt).trans hx1))
  have HB1 := Lib.hid hb1
  have HL := Lib.hid hlt
  have HW := Lib.hid hw1
  clear hw1 hb1 hx1 hlt hr hp ht
  go_enter Tryd.func12, Tryd.ntmps12
  go_upto_region 1 with fail
  refine wp_world w1 HW.out ?_
  obtain ⟨c0, c1, c2, c3, c4, c5, c6, c7, c8⟩ := HS.out _ (Below.refl _ _)
  go_upto_region 2 with (go_at_call 27; refine (HT.out _).mono ?_; rintro e w2 ⟨rfl, ht, hb⟩; have HT2 := Lib.hid ht; have HB2 := Lib.hid hb; clear ht hb)
  clear c0 c1 c2 c3 c4 c5 c6 c7 c8
  obtain ⟨c0, c1, c2, c3, c4, c5, c6, c7, c8⟩ := HS.out _ HB2.out
  go_upto_region 3 with (go_at_call 28; refine (HP.out _).mono ?_; rintro e w3 ⟨rfl, hp, hb⟩; have HP3 := Lib.hid hp; have HB3 := Lib.hid hb; have HC3 := Lib.hid (HB2.out.trans (hb.mono HB2.out.size)); clear hp hb)
  clear c0 c1 c2 c3 c4 c5 c6 c7 c8
  obtain ⟨c0, c1, c2, c3, c4, c5, c6, c7, c8⟩ := HS.out _ HC3.out
  go_upto_region 5 with (go_at_call 29; refine (HR.out _).mono ?_; rintro e w4 ⟨rfl, hb⟩; have HB4 := Lib.hid hb; have HC4 := Lib.hid (HC3.out.trans (hb.mono HC3.out.size)); clear hb)
  clear c0 c1 c2 c3 c4 c5 c6 c7 c8
  go_region_held3 (fun W : World => (W.cell? ⟨w.heap.size, 0, none⟩ = some (.int .i64 (c.room : Int)) ∧ W.cell? ⟨w.heap.size, 1, none⟩ = some (.int .i64 (c.low : Int)) ∧ W.cell? ⟨w.heap.size, 2, none⟩ = some (.int .i64 (c.many : Int)) ∧ W.cell? ⟨w.heap.size, 3, none⟩ = some (.int .i64 (c.rest : Int)) ∧ W.cell? ⟨w.heap.size, 4, none⟩ = some (.int .i64 c.tm.op) ∧ W.cell? ⟨w.heap.size, 5, none⟩ = some (.int .i64 c.tm.on) ∧ W.cell? ⟨w.heap.size, 6, none⟩ = some (.int .i64 c.tm.cl) ∧ W.cell? ⟨w.heap.size, 7, none⟩ = some (.int .i64 c.tm.wa) ∧ W.cell? ⟨w.heap.size, 8, none⟩ = some (.int .i64 c.tm.ud))) (first | exact HS.out _ HC4.out | exact HS.out _ (below_drew HC4.out) | exact HS.out _ HC5.out | exact HS.out _ (HC5.out.alloc HC5.out.size _)) (first
    | (go_at_call 30; refine (new_whl _).mono ?_; rintro e w5 ⟨Wp, S2, rfl, hw, hb, hlo⟩; have HW5 := Lib.hid hw; have HB5 := Lib.hid hb; have HC5 := Lib.hid ((below_drew HC4.out).trans (hb.mono (below_drew HC4.out).size)); have HLO := Lib.hid hlo; clear hw hb hlo))
  all_goals
    go_wp2_with fail
    go_ret2
    refine ⟨_, _, rfl, fls_new HT2.out HP3.out HW5.out HB3.out HB4.out ((below_drew (Below.refl _ w4)).trans HB5.out) HLO.out, ?_, ?_⟩
    · exact (HB1.out.trans (HC5.out.mono HB1.out.size)).alloc (HB1.out.trans (HC5.out.mono HB1.out.size)).size _
    · have z1 := HB1.out.size
      have z2 := HB2.out.size
      have z3 := HB3.out.size
      have z4 := HB4.out.size
      have z5 := (HB1.out.trans (HC5.out.mono HB1.out.size)).size
      rintro i (e | e | e | e)
      · omega
      · omega
      · have : w4.heap.size ≤ i := HLO.out i e
        omega
      · omega
end Go.Proofs.YtpbknbnhljjjcaaDoor
