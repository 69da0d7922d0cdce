import Derived.Test.YtaeiaoldlebhaaaDoorW9
namespace Go.Proofs.YtaeiaoldlebhaaaDoor
open Go.RowKit Go.Maps

/-- What next tells. -/
def NextSays (now : Nat) (sm : Nat → Nat) (r : Value) : Prop :=
  (r = .tuple #[.int .i64 0, .int .i64 0, .int .i64 0, .bool false] ∧ ∀ i : Nat, i < 7 → sm i = 0) ∨
  ∃ lv s : Nat, r = .tuple #[.int .i64 (lv : Int), .int .i64 (s : Int), .int .i64 (fromOf now lv s : Int), .bool true] ∧ lv < 7 ∧ (∀ i : Nat, i < lv → sm i = 0) ∧ s < 64 ∧ (sm lv).testBit s = true ∧ ∀ i : Nat, i < s → (sm lv).testBit i = false
set_option maxRecDepth 100000 in
set_option maxHeartbeats 1000000 in
theorem next_ok {W M now o : Nat} {sm : Nat → Nat} {sv : Nat → Value} {w : World} (h : w.heap[W]? = some (wheelObj 106 now o M sm sv)) (hT : TabAt 0 Lib.deBruijn64tab w) (hn : now < 4398046511104) (hsm : ∀ i, i < 7 → sm i < 18446744073709551616) :
    Calls Tryd.prog 45 #[.pointer (some ⟨W, 0, none⟩)] w fun e w' => (∃ r, e = .returned r ∧ NextSays now sm r) ∧ ∃ n, w' = w.drewN n := by
  have H := Lib.hid h
  have HT := Lib.hid hT
  have HSM := Lib.hid hsm
  clear h hT hsm
  go_enter Tryd.func45, Tryd.ntmps45
  go_wp2_with fail
  go_loop [10] (fun vi => ∃ i : Nat, vi = .int .i64 (i : Int) ∧ i ≤ 7 ∧ ∀ j, j < i → sm j = 0) (fun vi => 7 - (intOf vi).toNat)
  case atStart => exact ⟨0, rfl, by omega, fun j hj => by omega⟩
  case round =>
    obtain ⟨i, rfl, hi, hz⟩ := hrel
    have HZ := Lib.hid hz
    clear hz
    by_cases hlt : i < 7
    · have hltI : (i : Int) < 7 := by omega
      have c0 := wh_sm H.out hlt
      obtain ⟨a, ha⟩ : ∃ a, sm i = a := ⟨_, rfl⟩
      rw [ha] at c0
      have ha64 : a < 18446744073709551616 := by rw [← ha]; exact HSM.out i hlt
      have HA := Lib.hid ha
      clear ha
      by_cases h0 : a = 0
      · subst h0
        go_wp2_with fail
        go_round
        case rel => exact ⟨i + 1, by go_num, by omega, fun j hj => by
          by_cases e : j = i
          · subst e; exact HA.out
          · exact HZ.out j (by omega)⟩
        case measure => simp [intOf]; omega
      · have hne : ((a : Int) != 0) = true := by rw [bne_iff_ne]; omega
        obtain ⟨k1, k2, k3⟩ := ctz_bits a h0 ha64
        obtain ⟨s, hs⟩ : ∃ s, Lib.ctz 64 a = s := ⟨_, rfl⟩
        have HS := Lib.hid hs
        rw [hs] at k1 k2 k3
        clear hs
        have HK := Lib.hid (And.intro k2 k3)
        clear k2 k3
        have HF := Lib.hid (from_code now i s hn hlt k1)
        have c1 := wh_now H.out
        go_wp2_with (go_at_call 89; refine (Any7.bits_TrailingZeros64 Tryd.tz29 a ha64 _ (fun _ => HT.out)).mono ?_; rintro e wx ⟨rfl, rfl⟩; rw [HS.out])
        have hm : IntKind.i64.wrap (6 * (i : Int)) = 6 * (i : Int) := wrap_small .i64 (.inl rfl) _ (by omega) (by omega)
        have hm1 : ¬ (6 * ((i : Int) + 1) < 0) := by omega
        have hm2 : 0 ≤ 6 * ((i : Int) + 1) := by omega
        have hm3 : (6 * ((i : Int) + 1)).toNat = 6 * (i + 1) := by omega
        have hm4 : 0 ≤ 6 * (i : Int) := by omega
        have hm5 : (6 * (i : Int)).toNat = 6 * i := by omega
        go_quiet (fail)
        rw [w64, w64, HF.out.1]
        go_wp2
        refine bodyPost_ret (v := .tuple #[.int .i64 (i : Int), .int .i64 (s : Int), .int .i64 (fromOf now i s : Int), .bool true]) (by simp [results, Tryd.results45, go_sem]) rfl ⟨⟨_, rfl, .inr ⟨i, s, rfl, hlt, HZ.out, k1, ?_, ?_⟩⟩, _, rfl⟩
        · rw [HA.out]; exact HK.out.1
        · rw [HA.out]; exact HK.out.2
    · obtain rfl : i = 7 := by omega
      go_wp2
      refine bodyPost_ret (v := .tuple #[.int .i64 0, .int .i64 0, .int .i64 0, .bool false]) (by simp [results, Tryd.results45, go_sem]) rfl ⟨⟨_, rfl, .inl ⟨rfl, HZ.out⟩⟩, 0, rfl⟩
end Go.Proofs.YtaeiaoldlebhaaaDoor
