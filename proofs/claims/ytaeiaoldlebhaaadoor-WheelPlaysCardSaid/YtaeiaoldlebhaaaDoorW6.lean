import Derived.Test.YtaeiaoldlebhaaaDoorW5
import Derived.Test.YtaeiaoldlebhaaaDoorW7
import Derived.Test.YtaeiaoldlebhaaaDoorShelf
import Derived.WalkKit
import Derived.WalkSpells
import Derived.WalkLawsBesides
import Derived.Outline
import Derived.StillTailTactics
import Derived.Deep.QuietTactic
import Derived.BigQuiet
import Derived.BigRegion
import Derived.RegionTactic
import Derived.ChangeAlike
import Derived.Lib.Hide
import Derived.LoopTactic
import Derived.Below
import Derived.Deep.CutRange
import Derived.Deep.LoopGhost
namespace Go.Proofs.YtaeiaoldlebhaaaDoor
open Go.RowKit Go.Maps
set_option maxRecDepth 100000 in
set_option maxHeartbeats 1000000 in
theorem place_ok {W M now o : Nat} {sm : Nat → Nat} {sv : Nat → Value} {w : World} (h : w.heap[W]? = some (wheelObj 106 now o M sm sv)) (t : Nat) (hn : now < 4398046511104) (ht : t < 4398046511104) :
    Calls Tryd.prog 85 #[.pointer (some ⟨W, 0, none⟩), .int .i64 (t : Int)] w fun e w' => e = .returned (.tuple #[.int .i64 (lvl t now : Int), .int .i64 (slt now t : Int)]) ∧ ∃ n, w' = w.drewN n := by
  have c0 := wh_now h
  clear h
  obtain ⟨hx, hx2⟩ := xor_i64 t now ht hn
  have HL := Lib.hid (place_lv t now ht hn)
  have HS := Lib.hid (place_sl now t ht)
  obtain ⟨x, hX⟩ : ∃ x, t ^^^ now = x := ⟨_, rfl⟩
  rw [hX] at hx hx2 HL
  have hw : IntKind.u64.wrap (x : Int) = (x : Int) := wrap_small .u64 (.inr rfl) _ (by omega) (by omega)
  have hl2 : Lib.bitLen x ≤ 64 := Lib.bitLen_le x 64 (by omega) (by omega)
  obtain ⟨k, hk⟩ : ∃ k, Lib.bitLen x = k := ⟨_, rfl⟩
  rw [hk] at HL hl2
  have HK := Lib.hid hk
  have HX := Lib.hid hX
  clear hk hX
  go_enter Tryd.func85, Tryd.ntmps85
  go_wp2_with (go_at_call 91; refine (Tryd.bits_Len _ _ (by omega) (by omega)).mono ?_; rintro e wx ⟨rfl, rfl⟩; rw [Int.toNat_natCast, HK.out])
  rw [HL.out]
  have h7 : lvl t now < 7 := lvl_six ht hn
  obtain ⟨lv, hlv⟩ : ∃ lv, lvl t now = lv := ⟨_, rfl⟩
  rw [hlv] at h7 HS
  rw [hlv]
  have h7I : (lv : Int) < 7 := by omega
  clear HL hx hw
  have hm : IntKind.i64.wrap (6 * (lv : Int)) = 6 * (lv : Int) := wrap_small .i64 (.inl rfl) _ (by omega) (by omega)
  go_quiet (fail)
  rw [HS.out]
  go_wp2
  subst hlv
  go_ret2
  exact ⟨rfl, _, rfl⟩
end Go.Proofs.YtaeiaoldlebhaaaDoor
