import Derived.Test.YtfkjokencmdiiaaDoorK4
import Derived.ShutString
namespace Go.Proofs.YtfkjokencmdiiaaDoor
open Go.RowKit Go.Shelf

def headOf (s : ByteArray) : ByteArray := ⟨(Lib.cut s.data.toList [47]).1.toArray⟩
def tailOf (s : ByteArray) : ByteArray := ⟨(Lib.cut s.data.toList [47]).2.1.toArray⟩
def hasSlash (s : ByteArray) : Bool := (Lib.cut s.data.toList [47]).2.2
theorem head_size (s : ByteArray) : (headOf s).size ≤ s.size := by
  unfold headOf
  rw [size_of_list]
  unfold Lib.cut
  split
  · exact Nat.le_trans (List.length_take_le' _ _) (by simp)
  · simp
theorem tail_size (s : ByteArray) : (tailOf s).size ≤ s.size := by
  unfold tailOf
  rw [size_of_list]
  unfold Lib.cut
  split
  · dsimp only
    rw [List.length_drop]
    exact Nat.le_trans (Nat.sub_le _ _) (by simp)
  · simp

/-- The net of a text. -/
def netOf (s : ByteArray) : Option (Nat × Nat) :=
  match hasSlash s, parseOf (headOf s), numOf (tailOf s) 32 with
  | true, some x, some k => if x % 2 ^ (32 - k) = 0 then some (x, k) else none
  | _, _, _ => none

theorem cut_calls (s : ByteArray) (hs : s.size < 4294967281) (w : World) (hE : Env w) :
    Calls Tryd.prog 30 #[.string s, .string ⟨#[47]⟩] w fun e w' => e = .returned (.tuple #[.string (headOf s), .string (tailOf s), .bool (hasSlash s)]) ∧ Below w.heap.size w w' := by
  obtain ⟨m0, hm0⟩ := hE.len
  refine (Tryd.strings_Cut s ⟨#[47]⟩ m0 w hs hm0).mono ?_
  rintro e w' ⟨he, n, rfl⟩
  exact ⟨he, below_drewN w n⟩

theorem cells2 {w : World} {b : Nat} {u v : Value} {t : TypeId} (h : w.heap[b]? = some (.cells #[u, v] t (0, 0))) : (w.cell? ⟨b, 0, none⟩ = some u ∧ w.cell? ⟨b, 1, none⟩ = some v) ∧ w.frozen? ⟨b, 0, none⟩ = false ∧ w.frozen? ⟨b, 1, none⟩ = false := by
  refine ⟨⟨?_, ?_⟩, ?_, ?_⟩ <;> simp [World.cell?, World.frozen?, h]

theorem net_zero {w wx : World} {u v : Value} {t : TypeId} (h : wx.heap[w.heap.size]? = some (.cells #[u, v] t (0, 0))) (hB : Below w.heap.size w wx) (x y : Value) (o : Obj) :
    (((wx.setCell ⟨w.heap.size, 0, none⟩ x).setCell ⟨w.heap.size, 1, none⟩ y).alloc o).cell? ⟨w.heap.size, 0, none⟩ = some x ∧ (((wx.setCell ⟨w.heap.size, 0, none⟩ x).setCell ⟨w.heap.size, 1, none⟩ y).alloc o).cell? ⟨w.heap.size, 1, none⟩ = some y ∧ Below w.heap.size w (((wx.setCell ⟨w.heap.size, 0, none⟩ x).setCell ⟨w.heap.size, 1, none⟩ y).alloc o) := by
  have hl := (Array.getElem?_eq_some_iff.1 h).1
  have h2 : (((wx.setCell ⟨w.heap.size, 0, none⟩ x).setCell ⟨w.heap.size, 1, none⟩ y).alloc o).heap[w.heap.size]? = some (.cells #[x, y] t (0, 0)) := by
    refine (Below.heap_alloc _ _ _ (by simp [World.setCell]; omega)).trans ?_
    simp [World.setCell, Array.getElem?_modify, h]
  refine ⟨(cells2 h2).1.1, (cells2 h2).1.2, ?_⟩
  exact ((hB.setCell (p := ⟨w.heap.size, 0, none⟩) (Nat.le_refl _) _).setCell (p := ⟨w.heap.size, 1, none⟩) (Nat.le_refl _) _).alloc (by have := hB.size; simp [World.setCell]; omega) _

theorem net_put {w wx : World} {u v : Value} {t : TypeId} (h : wx.heap[w.heap.size]? = some (.cells #[u, v] t (0, 0))) (hB : Below w.heap.size w wx) (x y : Value) :
    ((wx.setCell ⟨w.heap.size, 0, none⟩ x).setCell ⟨w.heap.size, 1, none⟩ y).cell? ⟨w.heap.size, 0, none⟩ = some x ∧ ((wx.setCell ⟨w.heap.size, 0, none⟩ x).setCell ⟨w.heap.size, 1, none⟩ y).cell? ⟨w.heap.size, 1, none⟩ = some y ∧ Below w.heap.size w ((wx.setCell ⟨w.heap.size, 0, none⟩ x).setCell ⟨w.heap.size, 1, none⟩ y) := by
  have h2 : ((wx.setCell ⟨w.heap.size, 0, none⟩ x).setCell ⟨w.heap.size, 1, none⟩ y).heap[w.heap.size]? = some (.cells #[x, y] t (0, 0)) := by
    simp [World.setCell, Array.getElem?_modify, h]
  exact ⟨(cells2 h2).1.1, (cells2 h2).1.2, (hB.setCell (p := ⟨w.heap.size, 0, none⟩) (Nat.le_refl _) _).setCell (p := ⟨w.heap.size, 1, none⟩) (Nat.le_refl _) _⟩

theorem numOf_le32 {p : ByteArray} {n : Nat} (h : numOf p 32 = some n) : n ≤ 32 := by
  unfold numOf at h
  split at h
  · split at h
    · cases h; omega
    · cases h
  · cases h
theorem foldNum_lt : ∀ (l : List ByteArray) (a b : Nat), foldNum l a = some b → b < (a + 1) * 256 ^ l.length
  | [], a, b, h => by simp [foldNum] at h; subst h; simp
  | p :: r, a, b, h => by
    unfold foldNum at h
    split at h
    · rename_i n hn
      have h1 := foldNum_lt r _ b h
      have h2 := numOf_le hn
      rw [List.length_cons, Nat.pow_succ]
      have h3 : (a * 256 + n + 1) * 256 ^ r.length ≤ (a * 256 + 256) * 256 ^ r.length := Nat.mul_le_mul_right _ (by omega)
      have h4 : (a * 256 + 256) * 256 ^ r.length = (a + 1) * (256 ^ r.length * 256) := by rw [show a * 256 + 256 = (a + 1) * 256 by omega, Nat.mul_assoc, Nat.mul_comm 256]
      omega
    · cases h
theorem parseOf_lt {s : ByteArray} {a : Nat} (h : parseOf s = some a) : a < 4294967296 := by
  unfold parseOf at h
  split at h
  · rename_i h4
    have := foldNum_lt _ _ _ h
    rw [h4] at this
    simpa using this
  · cases h

set_option maxRecDepth 100000 in
set_option maxHeartbeats 1000000 in
theorem parseNet_calls (s : ByteArray) (hs : s.size < 4294967281) (w : World) (hE : Env w) :
    Calls Tryd.prog 20 #[.string s] w fun e w' => e = .returned (.tuple #[.agg #[.int .u32 ((((netOf s).getD (0, 0)).1 : Nat) : Int), .int .i64 ((((netOf s).getD (0, 0)).2 : Nat) : Int)], .bool (netOf s).isSome]) ∧ Below w.heap.size w w' := by
  have hh := head_size s
  have ht := tail_size s
  have h2 : (headOf s).size < 4294967281 := by omega
  have h3 : (tailOf s).size ≤ 281474976710656 := by omega
  have HN := Lib.hid (show netOf s = match hasSlash s, parseOf (headOf s), numOf (tailOf s) 32 with
    | true, some x, some k => if x % 2 ^ (32 - k) = 0 then some (x, k) else none
    | _, _, _ => none from rfl)
  obtain ⟨res, hres⟩ : ∃ res, netOf s = res := ⟨_, rfl⟩
  rw [hres] at HN ⊢
  clear hres hh ht
  have HB := Lib.hid (Below.refl w.heap.size w)
  have HE := Lib.hid hE
  clear hE
  have HC := Lib.hid (cut_calls s hs)
  obtain ⟨ok, hok⟩ : ∃ ok, hasSlash s = ok := ⟨_, rfl⟩
  rw [hok] at HC HN
  clear hok
  have HP := Lib.hid (parse_calls (headOf s) h2)
  obtain ⟨pa, hpa⟩ : ∃ pa, parseOf (headOf s) = pa := ⟨_, rfl⟩
  have HLT : Hid (∀ x, pa = some x → x < 4294967296) := Lib.hid (fun x e => parseOf_lt (hpa.trans e))
  rw [hpa] at HP HN
  clear hpa h2
  have HY := Lib.hid (number_yes (tailOf s) h3 32)
  have HZ := Lib.hid (number_no (tailOf s) h3 32)
  obtain ⟨nb, hnb⟩ : ∃ nb, numOf (tailOf s) 32 = nb := ⟨_, rfl⟩
  have HL3 : Hid (∀ x, nb = some x → x ≤ 32) := Lib.hid (fun x e => numOf_le32 (hnb.trans e))
  rw [hnb] at HY HZ HN
  clear hnb h3
  generalize headOf s = A at *
  generalize tailOf s = T at *
  cases nb with
  | none =>
    have hr : res = none := by rw [HN.out]; cases ok <;> cases pa <;> rfl
    subst hr
    replace HZ := Lib.hid (HZ.out rfl)
    clear HN HL3 HLT HY
    cases ok <;> cases pa
    all_goals
      simp only [Option.getD_none, Option.isSome_none, Option.getD_some, Option.isSome_some] at HP
      go_enter Tryd.func20, Tryd.ntmps20
      go_wp2_with (first
        | (go_at_call 30; refine (HC.out _ (HE.out.below ((Below.refl _ _).alloc (Nat.le_refl _) _))).mono ?_; rintro e wx ⟨rfl, hB⟩; have H0 := Lib.hid ((hB.block w.heap.size (by simp)).trans (World.alloc_heap_new w _)); replace HE := Lib.hid ((HE.out.below ((Below.refl _ _).alloc (Nat.le_refl _) _)).below hB); replace HB := Lib.hid (((Below.refl _ w).alloc (Nat.le_refl _) _).trans (hB.mono (by simp))); clear hB)
        | (go_at_call 11; refine (HP.out _ HE.out).mono ?_; rintro e wx ⟨rfl, hB⟩; replace H0 := Lib.hid ((hB.block w.heap.size (Array.getElem?_eq_some_iff.1 H0.out).1).trans H0.out); replace HB := Lib.hid (below_step HB.out hB); replace HE := Lib.hid (HE.out.below hB); clear hB)
        | (go_at_call 24; refine (HZ.out _ HE.out).mono ?_; rintro e wx ⟨n, rfl, hB⟩; replace H0 := Lib.hid ((hB.block w.heap.size (Array.getElem?_eq_some_iff.1 H0.out).1).trans H0.out); replace HB := Lib.hid (below_step HB.out hB); replace HE := Lib.hid (HE.out.below hB); clear hB; obtain ⟨⟨r0, r1⟩, z0, z1⟩ := cells2 H0.out; have k0 := (Array.getElem?_eq_some_iff.1 H0.out).1))
      have d0 := fun o => (net_zero H0.out HB.out (.int .u32 0) (.int .i64 0) o).1
      have d1 := fun o => (net_zero H0.out HB.out (.int .u32 0) (.int .i64 0) o).2.1
      have hbe := fun o => (net_zero H0.out HB.out (.int .u32 0) (.int .i64 0) o).2.2
      refine ⟨rfl, .tuple #[.agg #[.int .u32 0, .int .i64 0], .bool false], by simp [results, Tryd.f20, go_sem, d0, d1], rfl, hbe _⟩
  | some k =>
    replace HY := Lib.hid (HY.out k rfl)
    have hk := HL3.out k rfl
    clear HL3 HZ
    by_cases hbad : ok = false ∨ pa = none
    · have hr : res = none := by
        rw [HN.out]
        rcases hbad with rfl | rfl
        · cases pa <;> rfl
        · cases ok <;> rfl
      subst hr
      clear HN HLT
      cases ok <;> cases pa
      case' true.some => simp at hbad
      all_goals
        clear hbad
        simp only [Option.getD_none, Option.isSome_none, Option.getD_some, Option.isSome_some] at HP
        go_enter Tryd.func20, Tryd.ntmps20
        go_wp2_with (first
          | (go_at_call 30; refine (HC.out _ (HE.out.below ((Below.refl _ _).alloc (Nat.le_refl _) _))).mono ?_; rintro e wx ⟨rfl, hB⟩; have H0 := Lib.hid ((hB.block w.heap.size (by simp)).trans (World.alloc_heap_new w _)); replace HE := Lib.hid ((HE.out.below ((Below.refl _ _).alloc (Nat.le_refl _) _)).below hB); replace HB := Lib.hid (((Below.refl _ w).alloc (Nat.le_refl _) _).trans (hB.mono (by simp))); clear hB)
          | (go_at_call 11; refine (HP.out _ HE.out).mono ?_; rintro e wx ⟨rfl, hB⟩; replace H0 := Lib.hid ((hB.block w.heap.size (Array.getElem?_eq_some_iff.1 H0.out).1).trans H0.out); replace HB := Lib.hid (below_step HB.out hB); replace HE := Lib.hid (HE.out.below hB); clear hB)
          | (go_at_call 24; refine (HY.out _ HE.out).mono ?_; rintro e wx ⟨rfl, hB⟩; replace H0 := Lib.hid ((hB.block w.heap.size (Array.getElem?_eq_some_iff.1 H0.out).1).trans H0.out); replace HB := Lib.hid (below_step HB.out hB); replace HE := Lib.hid (HE.out.below hB); clear hB; obtain ⟨⟨r0, r1⟩, z0, z1⟩ := cells2 H0.out; have k0 := (Array.getElem?_eq_some_iff.1 H0.out).1))
        have d0 := fun o => (net_zero H0.out HB.out (.int .u32 0) (.int .i64 0) o).1
        have d1 := fun o => (net_zero H0.out HB.out (.int .u32 0) (.int .i64 0) o).2.1
        have hbe := fun o => (net_zero H0.out HB.out (.int .u32 0) (.int .i64 0) o).2.2
        refine ⟨rfl, .tuple #[.agg #[.int .u32 0, .int .i64 0], .bool false], by simp [results, Tryd.f20, go_sem, d0, d1], rfl, hbe _⟩
    · obtain ⟨x, rfl⟩ : ∃ x, pa = some x := by
        cases pa with
        | none => simp at hbad
        | some x => exact ⟨x, rfl⟩
      obtain rfl : ok = true := by
        cases ok
        · simp at hbad
        · rfl
      clear hbad
      have hx := HLT.out x rfl
      have HR := Lib.hid (right_calls x k hx hk)
      simp only [Option.getD_some, Option.isSome_some] at HP
      by_cases hr0 : x % 2 ^ (32 - k) = 0
      · have hr : res = some (x, k) := by rw [HN.out]; simp [hr0]
        have hd : decide (x % 2 ^ (32 - k) = 0) = true := by simp [hr0]
        rw [hd] at HR
        subst hr
        clear HN HLT hr0 hd
        go_enter Tryd.func20, Tryd.ntmps20
        go_wp2_with (first
        | (go_at_call 30; refine (HC.out _ (HE.out.below ((Below.refl _ _).alloc (Nat.le_refl _) _))).mono ?_; rintro e wx ⟨rfl, hB⟩; have H0 := Lib.hid ((hB.block w.heap.size (by simp)).trans (World.alloc_heap_new w _)); replace HE := Lib.hid ((HE.out.below ((Below.refl _ _).alloc (Nat.le_refl _) _)).below hB); replace HB := Lib.hid (((Below.refl _ w).alloc (Nat.le_refl _) _).trans (hB.mono (by simp))); clear hB)
        | (go_at_call 11; refine (HP.out _ HE.out).mono ?_; rintro e wx ⟨rfl, hB⟩; replace H0 := Lib.hid ((hB.block w.heap.size (Array.getElem?_eq_some_iff.1 H0.out).1).trans H0.out); replace HB := Lib.hid (below_step HB.out hB); replace HE := Lib.hid (HE.out.below hB); clear hB)
        | (go_at_call 24; refine (HY.out _ HE.out).mono ?_; rintro e wx ⟨rfl, hB⟩; replace H0 := Lib.hid ((hB.block w.heap.size (Array.getElem?_eq_some_iff.1 H0.out).1).trans H0.out); replace HB := Lib.hid (below_step HB.out hB); replace HE := Lib.hid (HE.out.below hB); clear hB; obtain ⟨⟨r0, r1⟩, z0, z1⟩ := cells2 H0.out; have k0 := (Array.getElem?_eq_some_iff.1 H0.out).1)
        | (go_at_call 28; refine (HR.out _).mono ?_; rintro e wy ⟨rfl, hB⟩; obtain ⟨⟨n0, n1⟩, hB2⟩ := box2 hB; replace H0 := Lib.hid ((hB2.block _ k0).trans H0.out); replace HB := Lib.hid (below_step HB.out hB2); clear r0 r1 z0 z1 hB; obtain ⟨⟨r0, r1⟩, z0, z1⟩ := cells2 H0.out))
        obtain ⟨d0, d1, hbe⟩ := net_put H0.out HB.out (.int .u32 (x : Int)) (.int .i64 (k : Int))
        refine ⟨rfl, .tuple #[.agg #[.int .u32 (x : Int), .int .i64 (k : Int)], .bool true], by simp [results, Tryd.f20, go_sem, d0, d1], rfl, hbe⟩
      · have hr : res = none := by rw [HN.out]; simp [hr0]
        have hd : decide (x % 2 ^ (32 - k) = 0) = false := by simp [hr0]
        rw [hd] at HR
        subst hr
        clear HN HLT hr0 hd
        go_enter Tryd.func20, Tryd.ntmps20
        go_wp2_with (first
        | (go_at_call 30; refine (HC.out _ (HE.out.below ((Below.refl _ _).alloc (Nat.le_refl _) _))).mono ?_; rintro e wx ⟨rfl, hB⟩; have H0 := Lib.hid ((hB.block w.heap.size (by simp)).trans (World.alloc_heap_new w _)); replace HE := Lib.hid ((HE.out.below ((Below.refl _ _).alloc (Nat.le_refl _) _)).below hB); replace HB := Lib.hid (((Below.refl _ w).alloc (Nat.le_refl _) _).trans (hB.mono (by simp))); clear hB)
        | (go_at_call 11; refine (HP.out _ HE.out).mono ?_; rintro e wx ⟨rfl, hB⟩; replace H0 := Lib.hid ((hB.block w.heap.size (Array.getElem?_eq_some_iff.1 H0.out).1).trans H0.out); replace HB := Lib.hid (below_step HB.out hB); replace HE := Lib.hid (HE.out.below hB); clear hB)
        | (go_at_call 24; refine (HY.out _ HE.out).mono ?_; rintro e wx ⟨rfl, hB⟩; replace H0 := Lib.hid ((hB.block w.heap.size (Array.getElem?_eq_some_iff.1 H0.out).1).trans H0.out); replace HB := Lib.hid (below_step HB.out hB); replace HE := Lib.hid (HE.out.below hB); clear hB; obtain ⟨⟨r0, r1⟩, z0, z1⟩ := cells2 H0.out; have k0 := (Array.getElem?_eq_some_iff.1 H0.out).1)
        | (go_at_call 28; refine (HR.out _).mono ?_; rintro e wy ⟨rfl, hB⟩; obtain ⟨⟨n0, n1⟩, hB2⟩ := box2 hB; replace H0 := Lib.hid ((hB2.block _ k0).trans H0.out); replace HB := Lib.hid (below_step HB.out hB2); clear r0 r1 z0 z1 hB; obtain ⟨⟨r0, r1⟩, z0, z1⟩ := cells2 H0.out))
        obtain ⟨d0, d1, hbe⟩ := net_put H0.out HB.out (.int .u32 0) (.int .i64 0)
        refine ⟨rfl, .tuple #[.agg #[.int .u32 0, .int .i64 0], .bool false], by simp [results, Tryd.f20, go_sem, d0, d1], rfl, hbe⟩
end Go.Proofs.YtfkjokencmdiiaaDoor
