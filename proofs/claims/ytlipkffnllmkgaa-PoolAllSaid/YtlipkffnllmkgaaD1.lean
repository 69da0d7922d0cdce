import Derived.Test.YtlipkffnllmkgaaD0
import Derived.Laws.AppendOwn
import Derived.OwnWalk
import Derived.Deep.Slices
namespace Go.Proofs.Ytlipkffnllmkgaa
open Go.RowKit

/-- The places lie in block L. -/
def Places (L : Nat) (a : Anc) (w : World) : Prop := ∀ i, i < a.room →
  (w.cell? ⟨L, i * 4, none⟩ = some (.int .i64 (a.gone i)) ∧ w.cell? ⟨L, i * 4 + 1, none⟩ = some (.int .i64 (a.works i)) ∧ w.cell? ⟨L, i * 4 + 2, none⟩ = some (.int .i64 (a.at_ i)) ∧ w.cell? ⟨L, i * 4 + 3, none⟩ = some (.int .i64 (a.next i))) ∧
  (w.frozen? ⟨L, i * 4, none⟩ = false ∧ w.frozen? ⟨L, i * 4 + 1, none⟩ = false ∧ w.frozen? ⟨L, i * 4 + 2, none⟩ = false ∧ w.frozen? ⟨L, i * 4 + 3, none⟩ = false)

theorem draw_calls (k b m : Nat) (w : World) (hb : b ≤ 65536) (hm : 0 < m) (hm2 : m ≤ 65536) :
    Calls Try.prog 50 #[.int .u64 (k : Int), .int .i64 (b : Int), .int .i64 (m : Int)] w fun e w' => e = .returned (.int .i64 (drawN k b m : Nat)) ∧ w' = w := by
  go_enter Try.func50, Try.ntmps50
  go_wp2_with (go_at_call 62; refine (mix_calls _ _ _).mono ?_; rintro e wx ⟨rfl, rfl⟩)
  go_ret
  refine ⟨?_, rfl⟩
  have e : wrap64 ((mixI k b).tmod (m : Int)) = ((drawN k b m : Nat) : Int) := by
    have h1 := Nat.mod_lt (mixN k b) hm
    rw [mixI_eq, Int.tmod_eq_emod_of_nonneg (by omega)]
    unfold drawN wrap64
    omega
  show Ending.returned (.int .i64 (wrap64 ((mixI k b).tmod (m : Int)))) = _
  rw [e]

set_option maxRecDepth 100000 in
set_option maxHeartbeats 1000000 in
theorem bucket_calls (X L : Nat) (a : Anc) (w : World) (k r : Nat) (I : Inv a) (hp : Places L a w) (hx : w.cell? ⟨X, 0, none⟩ = some (.slice (some ⟨L, 0, none⟩) a.room a.room)) (hr2 : a.room ≤ 65536) (hf : Find a k (drawN k a.room a.room) r) :
    Calls Try.prog 33 #[.pointer (some ⟨X, 0, none⟩), .int .u64 (k : Int)] w fun e w' => e = .returned (.int .i64 (r : Nat)) ∧ ∃ m, w' = w.drewN m := by
  have HP := Lib.hid hp
  have HF := Lib.hid hf
  have HI := Lib.hid I
  have hr : 0 < a.room := by have := I.pos; have := I.le; omega
  clear hp hf I
  go_enter Try.func33, Try.ntmps33
  go_wp2_with fail
  go_quiet ((go_at_call 50; exact Calls.quiet_of_same (draw_calls k a.room a.room _ (by omega) (by omega) (by omega))))
  go_wp2_with fail
  go_loop [5, 6, 7] (fun b _ _ => ∃ b' : Nat, b = .int .i64 (b' : Int) ∧ b' < a.room ∧ Find a k b' r) (fun b _ _ => a.gone (intOf b).toNat)
  case atStart => exact ⟨drawN k a.room a.room, rfl, Nat.mod_lt _ hr, HF.out⟩
  case round =>
    obtain ⟨b, rfl, hb, hf⟩ := hrel
    have HF := Lib.hid hf
    obtain ⟨⟨p0, p1, p2, p3⟩, _⟩ := HP.out b hb
    clear hf
    by_cases hg : a.gone b = 0
    · have hgi : ((a.gone b : Int) != 0) = false := by simp; omega
      go_wp2_with fail
      go_ret
      have hf := HF.out
      cases hf with
      | done => exact ⟨rfl, _, rfl⟩
      | step _ _ _ _ hgc => exact (hgc hg).elim
    · have hgi : ((a.gone b : Int) != 0) = true := by simp; omega
      have HG := Lib.hid hg
      have hgb := HI.out.g1 b hb hg
      have hm0 : 0 < a.gone b := by omega
      have hm1 : a.gone b < a.room := hgb.2
      obtain ⟨c, HC, HFc⟩ : ∃ c, Hid (Chain a (a.gone b) (drawN k b (a.gone b)) c) ∧ Hid (Find a k c r) := by
        have hf := HF.out
        cases hf with
        | done _ _ hgc => exact (hg hgc).elim
        | step _ c _ _ _ hc hf' => exact ⟨c, hc, hf'⟩
      have hd : drawN k b (a.gone b) < a.room := Nat.lt_trans (Nat.mod_lt _ hm0) hm1
      clear hg hgb
      go_wp2_with (go_at_call 50; refine (draw_calls k b (a.gone b) _ (by omega) (by omega) (by omega)).mono ?_; rintro e wx ⟨rfl, rfl⟩)
      go_loop [7] (fun h => ∃ h' : Nat, h = .int .i64 (h' : Int) ∧ h' < a.room ∧ Chain a (a.gone b) h' c) (fun h => a.gone (intOf h).toNat)
      case atStart => exact ⟨_, rfl, hd, HC.out⟩
      case round =>
        obtain ⟨h, rfl, hh, hc⟩ := hrel
        have HC := Lib.hid hc
        obtain ⟨⟨q0, q1, q2, q3⟩, _⟩ := HP.out h hh
        clear hc
        by_cases hlt : a.gone b ≤ a.gone h
        · have hlti : (a.gone b : Int) ≤ (a.gone h : Int) := by omega
          go_wp2_with fail
          go_round
          case rel =>
            have hc := HC.out
            cases hc with
            | done _ _ hg' => omega
            | step _ _ _ _ hd' hc' => exact ⟨_, rfl, (HI.out.nx h hh).1, hc'⟩
          case measure =>
            have hc := HC.out
            cases hc with
            | done _ _ hg' => omega
            | step _ _ _ _ hd' hc' => simpa [intOf] using hd'
        · have hlti : ¬ (a.gone b : Int) ≤ (a.gone h : Int) := by omega
          go_wp2_with fail
          go_round
          case rel =>
            have hc := HC.out
            cases hc with
            | done _ _ hg' => exact ⟨_, rfl, hh, HFc.out⟩
            | step _ _ _ hg' => omega
          case measure =>
            have hc := HC.out
            cases hc with
            | done _ _ hg' => simp [intOf]; omega
            | step _ _ _ hg' => omega
end Go.Proofs.Ytlipkffnllmkgaa
