import Derived.Test.YtlipkffnllmkgaaP9
namespace Go.Proofs.Ytlipkffnllmkgaa
open Go.RowKit Go.Shelf Go.Maps Go.Lib

def RMet (id a pt : Int) (w : World) (s11 s13 : Value) (w' : World) : Prop := ∃ b : Nat, s11 = .pointer (some ⟨b, 0, none⟩) ∧ s13 = .int .i64 0 ∧ (w'.cell? ⟨b, 0, none⟩ = some (.int .i64 id) ∧ w'.cell? ⟨b, 1, none⟩ = some (.int .u32 a) ∧ w'.cell? ⟨b, 2, none⟩ = some (.int .i64 pt)) ∧ Below w.heap.size w w' ∧ w'.heap[w.heap.size + 1]? = some boxObj
theorem rmet {id a pt : Int} {w wz : World} {b : Nat} (hb : Below w.heap.size w wz) (hbox : wz.heap[w.heap.size + 1]? = some boxObj) (hm : wz.heap[b]? = some boxObj) (hl : w.heap.size + 1 < b) :
    RMet id a pt w (.pointer (some ⟨b, 0, none⟩)) (.int .i64 0) (((wz.setCell ⟨b, 0, none⟩ (.int .i64 id)).setCell ⟨b, 1, none⟩ (.int .u32 a)).setCell ⟨b, 2, none⟩ (.int .i64 pt)) := by
  unfold boxObj at hm
  obtain ⟨d0, d1, d2, hbe⟩ := put3 hm (by omega) hb (.int .i64 id) (.int .u32 a) (.int .i64 pt)
  refine ⟨b, rfl, rfl, ⟨d0, d1, d2⟩, hbe, ?_⟩
  have : ¬ b = w.heap.size + 1 := by omega
  simp [World.setCell, Array.getElem?_modify, hbox, this]
theorem rmet_new {id a pt : Int} {w wz : World} (hb : Below w.heap.size w wz) (hbox : wz.heap[w.heap.size + 1]? = some boxObj) :
    RMet id a pt w (.pointer (some ⟨wz.heap.size, 0, none⟩)) (.int .i64 0) (wz.alloc (.cells #[.int .i64 id, .int .u32 a, .int .i64 pt] 33)) := by
  have h := World.alloc_heap_new wz (.cells #[.int .i64 id, .int .u32 a, .int .i64 pt] 33)
  obtain ⟨⟨c0, c1, c2⟩, _⟩ := cells3 h
  have hl := (Array.getElem?_eq_some_iff.1 hbox).1
  exact ⟨_, rfl, rfl, ⟨c0, c1, c2⟩, hb.alloc hb.size _, (Below.heap_alloc _ _ _ hl).trans hbox⟩
section
variable {Q Qa : Nat → Prop} {XP Y gO room : Nat} {lv : Value} {key : ByteArray} {anc : Anc} {L : List Mem} {own : Nat → Nat} {w w' : World}
theorem box2_go {w wy wx : World} (h : Below w.heap.size w wy ∧ wy.heap[w.heap.size + 1]? = some boxObj) (hb : Below wy.heap.size wy wx) : Below w.heap.size w wx ∧ wx.heap[w.heap.size + 1]? = some boxObj :=
  ⟨h.1.trans (hb.mono h.1.size), (hb.block _ (Array.getElem?_eq_some_iff.1 h.2).1).trans h.2⟩
theorem box2_new (w : World) (o : Obj) : Below w.heap.size w ((w.alloc o).alloc boxObj) ∧ ((w.alloc o).alloc boxObj).heap[w.heap.size + 1]? = some boxObj := by
  refine ⟨((Below.refl _ w).alloc (Nat.le_refl _) _).alloc (by simp) _, ?_⟩
  have h := World.alloc_heap_new (w.alloc o) boxObj
  rwa [World.size_alloc] at h
set_option maxRecDepth 100000 in
set_option maxHeartbeats 2000000 in
theorem rchoose_none (h : RefP Q Qa XP Y gO room lv key anc L own w) (p x y : Int) (s d : Nat) (hs : s < 4294967296) (hd : d < 4294967296) (hno : ¬ ((0 ≤ p ∧ p < 256) ∧ (0 ≤ x ∧ x < 65536) ∧ 0 ≤ y ∧ y < 65536) ∨ actN L = 0) :
    Calls Try.prog 24 #[.pointer (some ⟨XP, 0, none⟩), .agg #[.int .i64 p, .int .u32 (s : Int), .int .u32 (d : Int), .int .i64 x, .int .i64 y]] w fun e w' => e = .returned (.tuple #[.agg #[.int .i64 0, .int .u32 0, .int .i64 0], .bool false]) ∧ Below w.heap.size w w' := by
  obtain ⟨K, ok, hK, hok⟩ : ∃ K ok, (∀ W, Calls Try.prog 38 #[.agg #[.int .i64 p, .int .u32 (s : Int), .int .u32 (d : Int), .int .i64 x, .int .i64 y]] W fun e w' => e = .returned (.tuple #[.string K, .bool ok]) ∧ Below W.heap.size W w') ∧ (ok = true → actN L = 0) := by
    by_cases hg : (0 ≤ p ∧ p < 256) ∧ (0 ≤ x ∧ x < 65536) ∧ 0 ≤ y ∧ y < 65536
    · obtain ⟨p', rfl⟩ : ∃ k : Nat, p = (k : Int) := ⟨p.toNat, by omega⟩
      obtain ⟨x', rfl⟩ : ∃ k : Nat, x = (k : Int) := ⟨x.toNat, by omega⟩
      obtain ⟨y', rfl⟩ : ∃ k : Nat, y = (k : Int) := ⟨y.toNat, by omega⟩
      exact ⟨keyS p' s d x' y', true, fun W => rkey_ok p' s d x' y' (by omega) hs hd (by omega) (by omega) W, fun _ => hno.resolve_left (fun hn => hn hg)⟩
    · exact ⟨⟨#[]⟩, false, fun W => rkey_bad p x y s d hg W, fun e => by cases e⟩
  have HK := Lib.hid hK
  have HOK := Lib.hid hok
  have HH := Lib.hid h
  have HB := Lib.hid (box2_new w (boxT p s d x y))
  obtain ⟨a, ha⟩ : ∃ a, actN L = a := ⟨_, rfl⟩
  have HA := Lib.hid (fun (W : World) (hb : Below w.heap.size w W) => ractive (HH.out.below hb))
  rw [ha] at HA HOK
  have ST := StageP.mk 1
  clear h hK hok hno ha
  unfold boxT boxObj at HB
  cases ok
  case' true => obtain rfl := HOK.out rfl
  all_goals
    clear HOK
    go_enter Try.func24, Try.ntmps24
    go_wp2_with (first
      | (go_at_call 38; refine (HK.out _).mono ?_; rintro e wx ⟨rfl, hb⟩; replace HB := Lib.hid (box2_go HB.out hb); obtain ⟨⟨r0, r1, r2⟩, z0, z1, z2⟩ := cells3 HB.out.2; clear hb)
      | (go_at_call 11; refine (HA.out _ HB.out.1).mono ?_; rintro e wx ⟨rfl, rfl⟩))
    obtain ⟨d0, d1, d2, hbe⟩ := put3 HB.out.2 (by omega) HB.out.1 (.int .i64 0) (.int .u32 0) (.int .i64 0)
    exact ⟨rfl, .tuple #[.agg #[.int .i64 0, .int .u32 0, .int .i64 0], .bool false], by simp [results, Try.f24, go_sem, d0, d1, d2], rfl, hbe⟩
set_option maxRecDepth 100000 in
set_option maxHeartbeats 4000000 in
theorem rchoose_ok (h : RefP Q Qa XP Y gO room lv key anc L own w) (hkey : key.size = 16) (p s d x y : Nat) (hp : p < 256) (hs : s < 4294967296) (hd : d < 4294967296) (hx : x < 65536) (hy : y < 65536) (h0 : actN L ≠ 0)
    (k r : Nat) (hk : hashF key (keyS p s d x y) = (k : Int)) (hf : Find anc k (drawN k anc.room anc.room) r) (hr : r < room) {i : Nat} {m : Mem} (hi : placeN (own r : Int) L = i) (hm : L[i]? = some m) (hid : m.id = (own r : Int)) :
    Calls Try.prog 24 #[.pointer (some ⟨XP, 0, none⟩), .agg #[.int .i64 (p : Int), .int .u32 (s : Int), .int .u32 (d : Int), .int .i64 (x : Int), .int .i64 (y : Int)]] w fun e w' => e = .returned (.tuple #[.agg #[.int .i64 m.id, .int .u32 m.addr, .int .i64 m.port], .bool true]) ∧ Below w.heap.size w w' := by
  have HK := Lib.hid (rkey_ok p s d x y hp hs hd hx hy)
  have HG := Lib.hid (fun W => hashR_good key (keyS p s d x y) W hkey (by have := keyS_size p s d x y; omega))
  rw [hk] at HG
  generalize keyS p s d x y = K at *
  have HH := Lib.hid h
  have HB := Lib.hid (box2_new w (boxT p s d x y))
  obtain ⟨a, ha⟩ : ∃ a, actN L = a := ⟨_, rfl⟩
  have HA := Lib.hid (fun (W : World) (hb : Below w.heap.size w W) => ractive (HH.out.below hb))
  rw [ha] at HA h0
  have e1 : ((a : Int) == 0) = false := by simp; omega
  obtain ⟨o, ho⟩ : ∃ o : Nat, own r = o := ⟨_, rfl⟩
  rw [ho] at hi hid
  have HBK := Lib.hid (fun (W : World) (hb : Below w.heap.size w W) => show Calls Try.prog 40 #[.pointer (some ⟨Y, 0, none⟩), .int .u64 (k : Int)] W fun e w' => e = .returned (.int .i64 (r : Int)) ∧ Below W.heap.size W w' from (rancS_bucket (HH.out.below hb).anc k r hf).mono (by rintro e w' ⟨rfl, m, rfl⟩; exact ⟨rfl, ⟨rfl, rfl, rfl, Nat.le_refl _, fun _ _ => rfl⟩⟩))
  have HGT := Lib.hid (fun (W : World) (hb : Below w.heap.size w W) => rget_ok (HH.out.below hb) hi hm hid)
  have HC := Lib.hid (show ∀ W : World, Below w.heap.size w W → W.cell? ⟨XP, 0, none⟩ = some (.string key) ∧ W.cell? ⟨XP, 1, none⟩ = some (.pointer (some ⟨Y, 0, none⟩)) ∧ W.cell? ⟨XP, 3, none⟩ = some (.slice (some ⟨gO, 0, none⟩) room room) ∧ W.cell? ⟨gO, r, none⟩ = some (.int .i64 (o : Int)) from fun W hb => by
    have hW := HH.out.below hb
    obtain ⟨⟨c0, c1, _, c3, _⟩, _⟩ := hW.cells
    exact ⟨c0, c1, c3, by rw [← ho]; exact (hW.own r hr).1⟩)
  obtain ⟨_, hr1, hr2⟩ := h.anc.reach
  have hrI : (r : Int) < (room : Int) := by omega
  have ST := StageP.mk 1
  obtain ⟨mi, ma, mp, ms, mb⟩ := m
  dsimp only at HGT ⊢
  clear h hk hf hi hm hid ha ho h0
  unfold boxT boxObj at HB
  go_enter Try.func24, Try.ntmps24
  go_wp2_with (first
    | (go_at_call 38; refine (HK.out _).mono ?_; rintro e wx ⟨rfl, hb⟩; replace HB := Lib.hid (box2_go HB.out hb); obtain ⟨c0, c1, c3, c5⟩ := HC.out _ HB.out.1; clear hb)
    | (go_at_call 11; refine (HA.out _ HB.out.1).mono ?_; rintro e wx ⟨rfl, rfl⟩)
    | (go_at_call 39; refine (HG.out _).mono ?_; rintro e wy ⟨rfl, hb⟩; replace HB := Lib.hid (box2_go HB.out hb); clear c0 c1 c3 c5 hb; obtain ⟨c0, c1, c3, c5⟩ := HC.out _ HB.out.1))
  go_cut [11, 12, 13] from 37 to 55 (fun s11 s12 s13 w' => s12 = .int .i64 ms ∧ RMet mi ma mp w s11 s13 w')
  case first =>
    have hsz := HB.out.1.size
    have hsz2 := (Array.getElem?_eq_some_iff.1 HB.out.2).1
    clear c0 c1 c3 c5
    go_region_held3 (fun W : World => W.cell? ⟨XP, 0, none⟩ = some (.string key) ∧ W.cell? ⟨XP, 1, none⟩ = some (.pointer (some ⟨Y, 0, none⟩)) ∧ W.cell? ⟨XP, 3, none⟩ = some (.slice (some ⟨gO, 0, none⟩) room room) ∧ W.cell? ⟨gO, r, none⟩ = some (.int .i64 (o : Int))) ((refine HC.out _ ?_; repeat' (first | exact HB.out.1 | exact HB.out.1.drew | with_reducible apply Below.drew | with_reducible apply Below.setCell | with_reducible apply Below.alloc | exact hsz | exact HB.out.1.size | (simp; have := HB.out.1.size; omega) | omega | (simp; omega)))) (first
      | (go_at_call 40; refine (HBK.out _ HB.out.1.drew).mono ?_; rintro e wz ⟨rfl, hb⟩; replace HB := Lib.hid (box2_go (wy := wy.drew) (And.intro HB.out.1.drew HB.out.2) hb); clear hb)
      | (go_at_call 40; refine (HBK.out _ (HB.out.1.drew.alloc HB.out.1.size _)).mono ?_; rintro e wz ⟨rfl, hb⟩; have HM : Hid (wz.heap[wy.heap.size]? = some boxObj) := Lib.hid ((hb.block _ (by simp)).trans (World.alloc_heap_new wy.drew boxObj)); replace HB := Lib.hid (box2_go (wy := wy.drew.alloc boxObj) (And.intro (HB.out.1.drew.alloc HB.out.1.size _) ((Below.heap_alloc _ _ _ hsz2).trans HB.out.2)) hb); clear hb)
      | (go_at_call 23; have hM := HM.out; refine (HGT.out _ HB.out.1).mono ?_; rintro e wu ⟨rfl, hb⟩; replace HM := Lib.hid ((hb.block _ (Array.getElem?_eq_some_iff.1 hM).1).trans hM); obtain ⟨⟨m0, m1, m2⟩, y0, y1, y2⟩ := cells3 HM.out; replace HB := Lib.hid (box2_go HB.out hb); clear hb hM)
      | (go_at_call 23; refine (HGT.out _ HB.out.1).mono ?_; rintro e wu ⟨rfl, hb⟩; obtain ⟨⟨m0, m1, m2⟩, y0, y1, y2⟩ := cells3 (World.alloc_heap_new wu (.cells #[.int .i64 0, .int .u32 0, .int .i64 0] 33)); replace HB := Lib.hid (box2_go HB.out hb); clear hb)
      | (go_at_call 23; refine (HGT.out _ (HB.out.1.alloc HB.out.1.size _)).mono ?_; rintro e wu ⟨rfl, hb⟩; have HM : Hid (wu.heap[wz.heap.size]? = some boxObj) := Lib.hid ((hb.block _ (by simp)).trans (World.alloc_heap_new wz boxObj)); have hsz3 := (Array.getElem?_eq_some_iff.1 HB.out.2).1; replace HB := Lib.hid (box2_go (wy := wz.alloc boxObj) (And.intro (HB.out.1.alloc HB.out.1.size _) ((Below.heap_alloc _ _ _ hsz3).trans HB.out.2)) hb); obtain ⟨⟨m0, m1, m2⟩, y0, y1, y2⟩ := cells3 HM.out; clear hb))
    all_goals
      go_wp2_with fail
      go_meet
      case rel =>
        refine ⟨rfl, ?_⟩
        first | ((with_reducible refine rmet_new ?_ ?_); exact HB.out.1; exact HB.out.2) | ((with_reducible refine rmet ?_ ?_ ?_ ?_); exact HB.out.1; exact HB.out.2; exact HM.out; omega)
  obtain ⟨rfl, b, rfl, rfl, ⟨m0, m1, m2⟩, hb, hbox⟩ := hcut
  have HB2 := Lib.hid (And.intro hb hbox)
  obtain ⟨⟨r0, r1, r2⟩, z0, z1, z2⟩ := cells3 hbox
  clear hb hbox HB c0 c1 c3 c5
  go_wp2_with fail
  obtain ⟨d0, d1, d2, hbe⟩ := put3 HB2.out.2 (by omega) HB2.out.1 (.int .i64 mi) (.int .u32 ma) (.int .i64 mp)
  refine ⟨rfl, .tuple #[.agg #[.int .i64 mi, .int .u32 ma, .int .i64 mp], .bool true], by simp [results, Try.f24, go_sem, d0, d1, d2], rfl, hbe⟩
end
end Go.Proofs.Ytlipkffnllmkgaa

namespace Go.Proofs.Ytlipkffnllmkgaa
open Go.RowKit Go.Shelf Go.Maps Go.Lib

section
variable {Q Qa : Nat → Prop} {XP Y gO room : Nat} {lv : Value} {key : ByteArray} {anc : Anc} {L : List Mem} {own : Nat → Nat} {w w' : World}
theorem RTurn.of_below (h : RefP Q Qa XP Y gO room lv key anc L own w) (hb : Below w.heap.size w w') : RTurn Q XP room key anc L own w w' :=
  ⟨Q, Qa, Y, gO, lv, h.below hb, Only.of_below hb, fun _ h => .inl h⟩
def boxK (id a pt : Int) : Obj := .cells #[.int .i64 id, .int .u32 a, .int .i64 pt] 33
theorem box1_new (w : World) (o : Obj) : Below w.heap.size w (w.alloc o) ∧ (w.alloc o).heap[w.heap.size]? = some o := ⟨(Below.refl _ w).alloc (Nat.le_refl _) _, World.alloc_heap_new w o⟩
set_option maxRecDepth 100000 in
set_option maxHeartbeats 2000000 in
theorem radd_arg (h : RefP Q Qa XP Y gO room lv key anc L own w) (id a pt : Int) (hbad : ¬ (1 ≤ id ∧ id ≤ 65535 ∧ 0 ≤ pt ∧ pt ≤ 65535)) :
    Calls Try.prog 20 #[.pointer (some ⟨XP, 0, none⟩), .agg #[.int .i64 id, .int .u32 a, .int .i64 pt]] w fun e w' => e = .returned (.int .i64 1) ∧ RTurn Q XP room key anc L own w w' := by
  have HH := Lib.hid h
  have HB := Lib.hid (box1_new w (boxK id a pt))
  unfold boxK at HB
  obtain ⟨⟨r0, r1, r2⟩, _⟩ := cells3 HB.out.2
  clear h
  by_cases h1 : id < 1
  case' neg =>
    by_cases h2 : 65535 < id
    case' neg =>
      by_cases h3 : pt < 0
      case' neg =>
        have h4 : 65535 < pt := by omega
  all_goals
    clear hbad
    go_enter Try.func20, Try.ntmps20
    go_wp2_with fail
    go_ret
    exact ⟨rfl, RTurn.of_below HH.out HB.out.1⟩
set_option maxRecDepth 100000 in
set_option maxHeartbeats 2000000 in
theorem radd_exists (h : RefP Q Qa XP Y gO room lv key anc L own w) {id a pt : Int} (hid : 1 ≤ id ∧ id ≤ 65535) (hpt : 0 ≤ pt ∧ pt ≤ 65535) (ht : thereB id L = true) :
    Calls Try.prog 20 #[.pointer (some ⟨XP, 0, none⟩), .agg #[.int .i64 id, .int .u32 a, .int .i64 pt]] w fun e w' => e = .returned (.int .i64 20) ∧ RTurn Q XP room key anc L own w w' := by
  have HH := Lib.hid h
  have HB := Lib.hid (box1_new w (boxK id a pt))
  have HP := Lib.hid (rplace_yes (h.below HB.out.1) rfl ht)
  unfold boxK at HB HP
  obtain ⟨⟨r0, r1, r2⟩, _⟩ := cells3 HB.out.2
  obtain ⟨h1, h2⟩ := hid
  obtain ⟨h3, h4⟩ := hpt
  clear h ht
  go_enter Try.func20, Try.ntmps20
  go_wp2_with (go_at_call 35; refine HP.out.mono ?_; rintro e wx ⟨rfl, q, rfl⟩)
  go_ret
  exact ⟨rfl, RTurn.of_below HH.out ⟨HB.out.1.os, HB.out.1.tape, HB.out.1.output, HB.out.1.size, HB.out.1.block⟩⟩
set_option maxRecDepth 100000 in
set_option maxHeartbeats 2000000 in
theorem radd_full (h : RefP Q Qa XP Y gO room lv key anc L own w) {id a pt : Int} (hid : 1 ≤ id ∧ id ≤ 65535) (hpt : 0 ≤ pt ∧ pt ≤ 65535) (ht : thereB id L = false) (hf : actN L = room) :
    Calls Try.prog 20 #[.pointer (some ⟨XP, 0, none⟩), .agg #[.int .i64 id, .int .u32 a, .int .i64 pt]] w fun e w' => e = .returned (.int .i64 16) ∧ RTurn Q XP room key anc L own w w' := by
  have HH := Lib.hid h
  have HB := Lib.hid (box1_new w (boxK id a pt))
  have HP := Lib.hid (rplace_no (h.below HB.out.1) ht)
  have HA := Lib.hid (fun q => ractive ((h.below HB.out.1).drewN q))
  have HC := Lib.hid (fun q => ((h.below HB.out.1).drewN q).cells)
  rw [hf] at HA
  unfold boxK at HB HP HA HC
  obtain ⟨⟨r0, r1, r2⟩, _⟩ := cells3 HB.out.2
  obtain ⟨h1, h2⟩ := hid
  obtain ⟨h3, h4⟩ := hpt
  clear h ht hf
  go_enter Try.func20, Try.ntmps20
  go_wp2_with (first
    | (go_at_call 35; refine HP.out.mono ?_; rintro e wx ⟨rfl, q, rfl⟩)
    | (go_at_call 11; refine (HA.out _).mono ?_; rintro e wx ⟨rfl, rfl⟩; obtain ⟨⟨_, _, _, _, c4⟩, _⟩ := HC.out q))
  go_ret
  exact ⟨rfl, RTurn.of_below HH.out ⟨HB.out.1.os, HB.out.1.tape, HB.out.1.output, HB.out.1.size, HB.out.1.block⟩⟩
/-- What Add has when the bucket is known. -/
def AddMid (Q : Nat → Prop) (XP Y gO room : Nat) (lv : Value) (key : ByteArray) (anc : Anc) (L : List Mem) (own : Nat → Nat) (id a pt : Int) (w wz : World) : Prop :=
  ∃ Q2 Qa2, RefP Q2 Qa2 XP Y gO room lv key anc L own wz ∧ Only Q w wz ∧ (∀ j, Q2 j → Q j ∨ w.heap.size ≤ j) ∧ wz.heap[w.heap.size]? = some (.cells #[.int .i64 id, .int .u32 a, .int .i64 pt] 33 (0, 0)) ∧ ¬ Q2 w.heap.size
theorem AddMid.start {id a pt : Int} (h : RefP Q Qa XP Y gO room lv key anc L own w) (q : Nat) : AddMid Q XP Y gO room lv key anc L own id a pt w ((w.alloc (boxK id a pt)).drewN q) := by
  obtain ⟨hB, hX⟩ := box1_new w (boxK id a pt)
  exact ⟨Q, Qa, (h.below hB).drewN q, (Only.of_below hB).drewN q, fun _ h => .inl h, hX, fun e => by have := h.low _ e; omega⟩
theorem AddMid.turn {id a pt : Int} {anc' : Anc} {wy wz : World} (h : RefP Q Qa XP Y gO room lv key anc L own w) {q : Nat} (hy : wy = (w.alloc (boxK id a pt)).drewN q) (hA : RAncS Qa Y room anc' wz) (hO : Only Qa wy wz) : AddMid Q XP Y gO room lv key anc' L own id a pt w wz := by
  subst hy
  obtain ⟨hB, hX⟩ := box1_new w (boxK id a pt)
  have hT := ((h.below hB).drewN q).ancTurn (hA.mono fun _ h => .inl h) hO
  have hs : ((w.alloc (boxK id a pt)).drewN q).heap.size = w.heap.size + 1 := by show (w.alloc (boxK id a pt)).heap.size = _; simp
  refine ⟨_, _, hT, ((Only.of_below hB).drewN q).trans (hO.mono h.mem.2.2.2) (fun _ _ h => h), fun j hj => ?_, ?_, fun e => ?_⟩
  · rcases hj with hj | hj
    · exact .inl hj
    · exact .inr (by omega)
  · exact (hO.block _ (by omega) (fun e => by have := h.low _ (h.mem.2.2.2 _ e); omega)).trans hX
  · rcases e with e | e
    · have := h.low _ e; omega
    · omega
end
end Go.Proofs.Ytlipkffnllmkgaa

namespace Go.Proofs.Ytlipkffnllmkgaa
open Go.RowKit Go.Shelf Go.Maps Go.Lib

section
variable {Q Qa : Nat → Prop} {XP Y gO room : Nat} {lv : Value} {key : ByteArray} {anc : Anc} {L : List Mem} {own : Nat → Nat} {w w' : World}
theorem AddMid.setOwn {id a pt : Int} {wz : World} (h : AddMid Q XP Y gO room lv key anc L own id a pt w wz) (b v : Nat) (hb : b < room) : AddMid Q XP Y gO room lv key anc L (upd own b v) id a pt w (wz.setCell ⟨gO, b, none⟩ (.int .i64 (v : Int))) := by
  obtain ⟨Q2, Qa2, hR, hO, hQ, hX, hn⟩ := h
  have hne : w.heap.size ≠ gO := fun e => hn (e ▸ hR.mem.2.1)
  refine ⟨Q2, Qa2, hR.setOwn b v hb, ⟨hO.os, hO.tape, hO.output, by simpa [World.setCell] using hO.size, fun i hi hnq => (Below.heap_setCell _ _ _ _ (fun e => ?_)).trans (hO.block i hi hnq)⟩, hQ, (Below.heap_setCell _ _ _ _ hne).trans hX, hn⟩
  have e2 : i = gO := e
  rcases hQ gO hR.mem.2.1 with h | h
  · exact hnq (e2 ▸ h)
  · omega
theorem AddMid.drew {id a pt : Int} {wz : World} (h : AddMid Q XP Y gO room lv key anc L own id a pt w wz) : AddMid Q XP Y gO room lv key anc L own id a pt w wz.drew := by
  obtain ⟨Q2, Qa2, hR, hO, hQ, hX, hn⟩ := h
  exact ⟨Q2, Qa2, hR.drew, hO.drew, hQ, hX, hn⟩
theorem AddMid.done {id a pt : Int} {wz w3 : World} (h : AddMid Q XP Y gO room lv key anc L own id a pt w wz) (hb : Below wz.heap.size wz w3) {n : Nat} {v : Value} {L' : List Mem} (hr : w3.ownsRow wz.heap.size 48 5 v n (rowsM L')) (hn : L'.length = n) : RTurn Q XP room key anc L' own w (w3.setCell ⟨XP, 2, none⟩ v) := by
  obtain ⟨Q2, Qa2, hR, hO, hQ, hX, _⟩ := h
  exact RTurn.trans hR hO hQ (hR.setL hb hr hn)
theorem AddMid.cells {id a pt : Int} {wz : World} (h : AddMid Q XP Y gO room lv key anc L own id a pt w wz) : (wz.cell? ⟨XP, 1, none⟩ = some (.pointer (some ⟨Y, 0, none⟩)) ∧ wz.cell? ⟨XP, 2, none⟩ = some lv ∧ wz.cell? ⟨XP, 3, none⟩ = some (.slice (some ⟨gO, 0, none⟩) room room)) ∧ (wz.cell? ⟨w.heap.size, 0, none⟩ = some (.int .i64 id) ∧ wz.cell? ⟨w.heap.size, 1, none⟩ = some (.int .u32 a) ∧ wz.cell? ⟨w.heap.size, 2, none⟩ = some (.int .i64 pt)) ∧ (∀ b, b < room → ∃ v, wz.cell? ⟨gO, b, none⟩ = some v ∧ wz.frozen? ⟨gO, b, none⟩ = false) ∧ wz.ownsRow 0 48 5 lv L.length (rowsM L) := by
  obtain ⟨Q2, Qa2, hR, hO, hQ, hX, _⟩ := h
  obtain ⟨⟨_, c1, c2, c3, _⟩, _⟩ := hR.cells
  obtain ⟨r, _⟩ := cells3 hX
  exact ⟨⟨c1, c2, c3⟩, r, fun b hb => ⟨_, hR.own b hb⟩, hR.row⟩
theorem AddMid.keep {id a pt : Int} {wz w3 : World} (h : AddMid Q XP Y gO room lv key anc L own id a pt w wz) (hb : Below wz.heap.size wz w3) : (w3.cell? ⟨XP, 2, none⟩ = some lv ∧ w3.frozen? ⟨XP, 2, none⟩ = false) ∧ (w3.cell? ⟨w.heap.size, 0, none⟩ = some (.int .i64 id) ∧ w3.cell? ⟨w.heap.size, 1, none⟩ = some (.int .u32 a) ∧ w3.cell? ⟨w.heap.size, 2, none⟩ = some (.int .i64 pt)) := by
  obtain ⟨Q2, Qa2, hR, hO, hQ, hX, _⟩ := h
  obtain ⟨⟨_, _, c2, _, _⟩, f2⟩ := (hR.below hb).cells
  obtain ⟨r, _⟩ := cells3 ((hb.block _ (Array.getElem?_eq_some_iff.1 hX).1).trans hX)
  exact ⟨⟨c2, f2⟩, r⟩
theorem add_len {L : List Mem} {i n : Nat} (m : Mem) (hn : L.length = n) (hi : i ≤ n) : (L.take i ++ [m] ++ L.drop i).length = i + 1 + (n - i) := by
  simp only [List.length_append, List.length_take, List.length_drop, List.length_cons, List.length_nil]
  omega
set_option maxRecDepth 100000 in
set_option maxHeartbeats 4000000 in
theorem radd_ok (h : RefP Q Qa XP Y gO room lv key anc L own w) {id : Nat} {a pt : Int} (hid : 1 ≤ id ∧ id ≤ 65535) (hpt : 0 ≤ pt ∧ pt ≤ 65535) {i : Nat} (hi : placeN (id : Int) L = i) (ht : thereB (id : Int) L = false) (hf : actN L ≠ room) (hlen : L.length < 1000000) (r : Nat) (hr : r < room) (anc' : Anc)
    (hcase : (actN L ≠ 0 ∧ (∃ st, anc.stack = r :: st) ∧ anc' = back anc r) ∨ (actN L = 0 ∧ anc' = anc ∧ anc.gone r = 0 ∧ ∀ b, b < room → anc.gone b = 0 → b = r)) :
    Calls Try.prog 20 #[.pointer (some ⟨XP, 0, none⟩), .agg #[.int .i64 (id : Int), .int .u32 a, .int .i64 pt]] w fun e w' => e = .returned (.int .i64 0) ∧ RTurn Q XP room key anc' (L.take i ++ [⟨id, a, pt, 1, r⟩] ++ L.drop i) (upd own r id) w w' := by
  have hB := box1_new w (boxK id a pt)
  have HB := Lib.hid hB
  have HP := Lib.hid (rplace_no (h.below hB.1) ht)
  rw [hi] at HP
  have HA := Lib.hid (fun q => ractive ((h.below hB.1).drewN q))
  have HC := Lib.hid (fun q => ((h.below hB.1).drewN q).cells)
  have HH := Lib.hid h
  have HHq := Lib.hid (fun q => (h.below hB.1).drewN q)
  obtain ⟨_, hr1, hr2⟩ := h.anc.reach
  have hilen : i ≤ L.length := by rw [← hi]; exact placeN_le _ _
  obtain ⟨k, hk⟩ : ∃ k, actN L = k := ⟨_, rfl⟩
  rw [hk] at HA hf hcase
  have HCASE := Lib.hid hcase
  obtain ⟨n, hln⟩ : ∃ n, L.length = n := ⟨_, rfl⟩
  rw [hln] at hilen hlen
  have HLN := Lib.hid hln
  have e1 : ((k : Int) == (room : Int)) = false := by simp; omega
  have hrI : (r : Int) < (room : Int) := by omega
  obtain ⟨h1, h2⟩ := hid
  obtain ⟨h3, h4⟩ := hpt
  have h1I : ¬ (id : Int) < 1 := by omega
  have h2I : ¬ (65535 : Int) < (id : Int) := by omega
  have h3I : ¬ pt < 0 := by omega
  have h4I : ¬ (65535 : Int) < pt := by omega
  unfold boxK at HB HP HA HC HHq
  obtain ⟨⟨r0, r1, r2⟩, _⟩ := cells3 HB.out.2
  clear h ht hi hk hcase hln hB
  go_enter Try.func20, Try.ntmps20
  go_upto_if 45 with (first
    | (go_at_call 35; refine HP.out.mono ?_; rintro e wx ⟨rfl, q, rfl⟩)
    | (go_at_call 11; refine (HA.out _).mono ?_; rintro e wx ⟨rfl, rfl⟩; obtain ⟨⟨_, c1, _, _, c4⟩, _⟩ := HC.out q))
  go_cut [8] from 44 to 67 (fun s8 wz => s8 = .int .i64 (r : Int) ∧ AddMid Q XP Y gO room lv key anc' L own id a pt w wz)
  case first =>
    rcases HCASE.out with ⟨k0, ⟨st, hst⟩, hanc⟩ | ⟨k0, hanc, hg, hu⟩
    · have hkI : (0 : Int) < (k : Int) := by omega
      have HRA := Lib.hid (rancS_add (HHq.out q).anc r st hst)
      have HANC := Lib.hid hanc
      clear k0 hst hanc
      go_wp2_with (go_at_call 36; refine HRA.out.mono ?_; rintro e wz ⟨rfl, hA, hO⟩; have HM := Lib.hid (AddMid.turn HH.out rfl hA hO); clear hA hO)
      go_meet
      case rel => exact ⟨rfl, by rw [HANC.out]; exact HM.out⟩
    · obtain rfl := k0
      obtain ⟨g, g0, hgc⟩ := (HHq.out q).anc.gone
      have HGC := Lib.hid hgc
      have HG := Lib.hid hg
      have HU := Lib.hid hu
      have HANC := Lib.hid hanc
      clear hgc hg hu hanc
      go_wp2_with fail
      go_loop [8] (fun v8 => ∃ j : Nat, v8 = .int .i64 (j : Int) ∧ j ≤ r) (fun v8 => r - (intOf v8).toNat)
      case atStart => exact ⟨0, rfl, Nat.zero_le _⟩
      case round =>
        obtain ⟨j, rfl, hj⟩ := hrel
        have hc := HGC.out j (by omega)
        have hjI : (j : Int) < (room : Int) := by omega
        by_cases hjr : j = r
        · obtain rfl := hjr
          rw [HG.out] at hc
          go_wp2_with fail
          go_meet
          case rel => exact ⟨rfl, by rw [HANC.out]; exact AddMid.start HH.out q⟩
        · have hne : anc.gone j ≠ 0 := fun e => hjr (HU.out j (by omega) e)
          have hpos : (0 : Int) < (anc.gone j : Int) := by omega
          clear hne
          go_wp2_with fail
          go_round
          case rel => exact ⟨j + 1, by go_num, by omega⟩
          case measure => simp [intOf]; omega
  obtain ⟨rfl, hM⟩ := hcut
  have HM := Lib.hid hM
  obtain ⟨⟨_, _, b3⟩, ⟨x0, _, _⟩, hOW, _⟩ := hM.cells
  obtain ⟨vo, o1, o2⟩ := hOW r hr
  clear hM hOW r0 r1 r2 c1 c4
  go_upto_region 14 with fail
  go_cut [] from 67 to 75 (fun wz => AddMid Q XP Y gO room lv key anc' L (upd own r id) id a pt w wz)
  case first =>
    refine wp_tail 8 (by kernel_rfl) (by kernel_rfl) ?_
    simp only [List.take_succ_cons, List.take_zero, List.drop_succ_cons, List.drop_zero]
    repeat still_step
    refine wpStill_nil ?_
    go_wp2_with fail
    go_meet
    case rel => exact (HM.out.setOwn r id hr).drew
  clear b3 x0 o1 o2 HM
  obtain ⟨⟨_, b2, _⟩, ⟨x0, x1, x2⟩, _, hrow⟩ := hcut.cells
  have HM := Lib.hid hcut
  obtain ⟨pv, cv, hv, hcv, hcv2⟩ := row_form hrow
  subst hv
  rw [HLN.out] at b2 hrow hcv HM
  obtain ⟨hpre, hs1⟩ := pre48 (k := i) hrow HLN.out hilen
  obtain ⟨p2, cs, hsuf, hs2, hs3⟩ := suf48 (k := i) hrow HLN.out hilen
  have HS1 := Lib.hid hs1
  have HS2 := Lib.hid hs2
  have HGB := Lib.hid hs3
  have ST := StageP.mk 1
  have hcvI : (n : Int) ≤ (cv : Int) := by omega
  clear hcut hrow hs1 hs2 hs3 hcv
  go_wp2_with (first
    | (at_builtin; have := (ST : StageP 1); clear this; refine append_src rfl _ _ rfl wc.heap.size (.slice none 0 0) 0 [] rfl (World.ownsRow_nil _ _ _ _) _ i cv (rowsM (L.take i)) rfl HS1.out (rowsM_one _) (by omega) (Nat.le_refl _) ?_; intro q2 c2x w2 hr2 hg2; replace ST := StageP.mk 2; have HR2 := Lib.hid (show w2.ownsRow wc.heap.size 48 5 (.slice q2 i c2x) i (rowsM (L.take i)) from (by simpa using hr2)); have HB2 := Lib.hid ((Below.refl wc.heap.size wc).grown hg2 (Nat.le_refl _) (fun b e => by cases e)); clear b2 x0 x1 x2 hr2 hg2; obtain ⟨_, ⟨x0, x1, x2⟩⟩ := HM.out.keep HB2.out; have HN2 := Lib.hid (World.alloc_heap_new w2 (.cells #[.int .i64 (id : Int), .int .u32 a, .int .i64 pt, .int .i64 1, .int .i64 (r : Int)] 48)))
    | (at_builtin; have := (ST : StageP 2); clear this; refine append_src rfl _ _ rfl wc.heap.size (.slice q2 i c2x) i (rowsM (L.take i)) rfl (HR2.out.alloc _) (some ⟨w2.heap.size, 0, none⟩) 1 1 [.int .i64 (id : Int), .int .u32 a, .int .i64 pt, .int .i64 1, .int .i64 (r : Int)] rfl (.inr ⟨_, rfl, rfl, World.news_of_block HN2.out⟩) (by simp [Value.oneCell']) (by omega) (by have := HB2.out.size; simp; omega) ?_; intro q3 c3x w3 hr3 hg3; replace ST := StageP.mk 3; have HR3 := Lib.hid hr3; have HB3 := Lib.hid (app_below HB2.out HR2.out hg3); have HS3 := Lib.hid (HS2.out.kept (w' := w3) (fun ad e => HB3.out.block _ (HGB.out ad e))); clear x0 x1 x2 hr3 hg3; obtain ⟨⟨b2, _⟩, _⟩ := HM.out.keep HB3.out)
    | (at_builtin; have := (ST : StageP 3); clear this; refine append_src rfl _ _ rfl wc.heap.size (.slice q3 (i + 1) c3x) (i + 1) _ rfl HR3.out p2 (n - i) cs (rowsM (L.drop i)) rfl HS3.out (rowsM_one _) (by omega) HB3.out.size ?_; intro q4 c4x w4 hr4 hg4; replace ST := StageP.mk 4; have HR4 := Lib.hid hr4; have HB4 := Lib.hid (HB3.out.grown hg4 HB3.out.size (fun b e => (HR3.out.lt b e).1)); clear b2 hr4 hg4; obtain ⟨⟨b2, f2⟩, _⟩ := HM.out.keep HB4.out))
  go_ret
  exact ⟨rfl, HM.out.done HB4.out (by rw [rowsM_append, rowsM_append]; exact HR4.out) (add_len _ HLN.out hilen)⟩
end
end Go.Proofs.Ytlipkffnllmkgaa

namespace Go.Proofs.Ytlipkffnllmkgaa
open Go.RowKit Go.Shelf Go.Maps Go.Lib

set_option maxRecDepth 100000 in
set_option maxHeartbeats 1000000 in
theorem rnew_bad (r : Int) (hr : r < 1 ∨ 65536 < r) (key : ByteArray) (w : World) :
    Calls Try.prog 8 #[.int .i64 r, .string key] w fun e w' => e = .returned (.pointer none) ∧ Below w.heap.size w w' := by
  by_cases h1 : r < 1
  case' neg =>
    have h2 : 65536 < r := by omega
  all_goals
    clear hr
    go_enter Try.func8, Try.ntmps8
    go_wp2_with fail
    go_ret
    exact ⟨rfl, Below.refl _ _⟩
theorem made_col {g r : Nat} {w : World} (h : w.heap[g]? = some (.cells (madeCells #[.int .i64 0] r) 3)) : Col g r (fun _ => 0) w := fun i hi => by
  refine ⟨?_, by simp [World.frozen?, h]⟩
  unfold World.cell?
  dsimp only
  rw [h]
  unfold madeCells
  simp [hi, Nat.mod_one]
def NewR (r : Nat) (key : ByteArray) (XP : Nat) (w w' : World) : Prop := (∃ Qa Y gO, RefP (fun b => w.heap.size ≤ b ∧ b < w'.heap.size) Qa XP Y gO r (.slice none 0 0) key (newAnc r (r - 1)) [] (fun _ => 0) w') ∧ Below w.heap.size w w'
theorem rnew_fin {r Y gO : Nat} {key : ByteArray} {Qa : Nat → Prop} {w W : World} (hA : RAncS Qa Y r (newAnc r (r - 1)) W) (hg : W.heap[gO]? = some (.cells (madeCells #[.int .i64 0] r) 3)) (hB : Below w.heap.size w W) (hQ : ∀ i, Qa i → w.heap.size ≤ i ∧ i < W.heap.size ∧ i ≠ gO) (hgO : w.heap.size ≤ gO) :
    NewR r key W.heap.size w (W.alloc (.cells #[.string key, .pointer (some ⟨Y, 0, none⟩), .slice none 0 0, .slice (some ⟨gO, 0, none⟩) r r, .int .i64 (r : Int)] 46)) := by
  have hgl := (Array.getElem?_eq_some_iff.1 hg).1
  have hk : ∀ (o : Obj) i, i < W.heap.size → (W.alloc o).heap[i]? = W.heap[i]? := fun o i hi => Below.heap_alloc _ _ _ hi
  have hs := hB.size
  refine ⟨⟨Qa, Y, gO, World.alloc_heap_new W _, hA.kept (fun i hi => hk _ i (hQ i hi).2.1) (by simp), World.ownsRow_nil _ _ _ _, made_col ((hk _ gO hgl).trans hg), ⟨⟨hs, by simp⟩, ⟨hgO, by simp; omega⟩, (fun g e => by cases e), fun i hi => ⟨(hQ i hi).1, by have := (hQ i hi).2.1; simp; omega⟩⟩, ⟨fun e => by have := (hQ _ e).2.1; omega, fun e => (hQ _ e).2.2 rfl, by omega, (fun g e => by cases e)⟩, fun i hi => hi.2⟩, hB.alloc hs _⟩
def madeO (r : Nat) : Obj := .cells (madeCells #[.int .i64 0] r) 3
theorem rnew_A {r Y : Nat} {key : ByteArray} {w wy : World} (hA : RAncS (fun b => w.drew.heap.size ≤ b ∧ b < wy.heap.size) Y r (newAnc r (r - 1)) wy) (hB : Below w.drew.heap.size w.drew wy) :
    NewR r key (wy.heap.size + 1) w ((wy.alloc (madeO r)).alloc (.cells #[.string key, .pointer (some ⟨Y, 0, none⟩), .slice none 0 0, .slice (some ⟨wy.heap.size, 0, none⟩) r r, .int .i64 (r : Int)] 46)) := by
  have hB' : Below w.heap.size w wy := ⟨hB.os, hB.tape, hB.output, hB.size, hB.block⟩
  have hs := hB'.size
  have := rnew_fin (W := wy.alloc (madeO r)) (key := key) (w := w) (hA.kept (fun b hb => Below.heap_alloc _ _ _ hb.2) (by simp)) (World.alloc_heap_new wy (madeO r)) (hB'.alloc hs _) (fun i hi => ⟨hi.1, by have := hi.2; simp; omega, by have := hi.2; omega⟩) hs
  rwa [World.size_alloc] at this
theorem rnew_B {r Y : Nat} {key : ByteArray} {w wy : World} (hA : RAncS (fun b => (w.drew.alloc (madeO r)).heap.size ≤ b ∧ b < wy.heap.size) Y r (newAnc r (r - 1)) wy) (hB : Below (w.drew.alloc (madeO r)).heap.size (w.drew.alloc (madeO r)) wy) :
    NewR r key wy.heap.size w (wy.alloc (.cells #[.string key, .pointer (some ⟨Y, 0, none⟩), .slice none 0 0, .slice (some ⟨w.heap.size, 0, none⟩) r r, .int .i64 (r : Int)] 46)) := by
  have hd : Below w.heap.size w w.drew := ⟨rfl, rfl, rfl, Nat.le_refl _, fun _ _ => rfl⟩
  have h0 : Below w.heap.size w (w.drew.alloc (madeO r)) := hd.alloc (Nat.le_refl _) _
  have hz : (w.drew.alloc (madeO r)).heap.size = w.heap.size + 1 := by simp
  exact rnew_fin (W := wy) (key := key) (w := w) hA ((hB.block w.heap.size (by omega)).trans (World.alloc_heap_new w.drew (madeO r))) (h0.trans (hB.mono (by omega))) (fun i hi => ⟨by have := hi.1; omega, hi.2, by have := hi.1; omega⟩) (Nat.le_refl _)
theorem info3' : (Try.prog.info? 3).map (fun i => (i.zero, i.size, i.bytes)) = some (some (.int .i64 0), 1, 8) := by kernel_rfl
set_option maxRecDepth 100000 in
set_option maxHeartbeats 2000000 in
theorem rnew_ok (r : Nat) (h1 : 1 ≤ r) (h3 : r ≤ 65536) (key : ByteArray) (hk : key.size = 16) (w : World) :
    Calls Try.prog 8 #[.int .i64 (r : Int), .string key] w fun e w' => ∃ XP, e = .returned (.pointer (some ⟨XP, 0, none⟩)) ∧ NewR r key XP w w' := by
  obtain ⟨i0, hi, hz0, hz1, hz2⟩ := info_parts info3'
  have hmk0 : ∀ W, (Instr.makeSlice 44 (.int .i64 (r : Int)) (.int .i64 (r : Int))).run Try.prog W = .ok (.slice (some ⟨W.heap.size, 0, none⟩) r r) (W.alloc (.cells (madeCells #[.int .i64 0] r) 3)) := fun W => by
    have hmk := run_makeSlice (P := Try.prog) W 44 3 i0 (.int .i64 0) Try.underlying44 hi hz0 .i64 .i64 r r (by omega) (by omega) (by rw [hz1]; omega) (by rw [hz2]; omega) (by omega)
    rw [Int.toNat_natCast, hz1, Nat.mul_one] at hmk
    exact hmk
  have g1 : ¬ (r : Int) < 1 := by omega
  have g2 : ¬ 65536 < (r : Int) := by omega
  have g3 : ((key.size : Int) != 16) = false := by simp; omega
  have HN := Lib.hid (fun W => rancS_new r W h1 h3)
  clear hi hz0 hz1 hz2 hk
  go_enter Try.func8, Try.ntmps8
  go_wp2_with fail
  go_region_with (go_at_call 19; refine (HN.out _).mono ?_; rintro e wy ⟨Y, rfl, hA, hB⟩; have HA := Lib.hid hA; have HB := Lib.hid hB; clear hA hB)
  all_goals
    go_wp2_with fail
    go_ret
    first
      | exact ⟨_, rfl, rnew_A HA.out HB.out⟩
      | exact ⟨_, rfl, rnew_B HA.out HB.out⟩
end Go.Proofs.Ytlipkffnllmkgaa
