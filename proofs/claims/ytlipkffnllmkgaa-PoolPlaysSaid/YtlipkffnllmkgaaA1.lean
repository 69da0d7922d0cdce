import Derived.Test.YtlipkffnllmkgaaProg
import Derived.WalkKit
import Derived.WalkSpells
import Derived.WalkLawsBesides
import Derived.Outline
import Derived.StillTailTactics
import Derived.Deep.QuietTactic
import Derived.BigQuiet
import Derived.BigRegion
import Derived.RegionTactic
import Derived.ChangeAlike
import Derived.Lib.Hide
import Derived.LoopTactic
import Derived.Below
import Derived.Deep.CutRange
import Derived.Deep.LoopGhost
namespace Go.Proofs.Ytlipkffnllmkgaa
open Go.RowKit

theorem wp_tail {P : Program} {id : Nat} {Q : Exit → Act → World → Prop} {a : Act} {w : World} {l : List Oper} (n : Nat) (hm : P.follows .mixedOrders = true) (hB : Region.lexTailB .any l.toArray n = true)
    (h : wpStill P l.toArray w.drew (fun a' => wpList P l.toArray Q (l.drop n) a' w.drew) (l.take n) a) : (Code.region id l.toArray true).wp P Q a w := wp_region_still_tail n hm hB h
theorem grown_trans {a b c : World} {row : Option Nat} (h : a.grownBy b row) (k : b.grownBy c row) : a.grownBy c row :=
  ⟨k.os.trans h.os, k.tape.trans h.tape, k.output.trans h.output, Nat.le_trans h.size k.size, fun i hi hne => (k.block i (Nat.lt_of_lt_of_le hi h.size) hne).trans (h.block i hi hne)⟩
theorem grown_refl (w : World) (row : Option Nat) : w.grownBy w row := ⟨rfl, rfl, rfl, Nat.le_refl _, fun _ _ _ => rfl⟩
/-- x turned left by m's exponent, m * d = 2^64. -/
def rotl (m d : Int) (x : Int) : Int := bits .or .u64 (IntKind.u64.wrap (x * m)) (x / d)
def ux (a b : Int) : Int := bits .xor .u64 a b
def ua (a b : Int) : Int := IntKind.u64.wrap (a + b)

theorem rot13 (x : Int) (w : World) : Calls Try.prog 61 #[.int .u64 x, .int .i64 13] w fun e w' => e = .returned (.int .u64 (rotl 8192 2251799813685248 x)) ∧ w' = w := by
  have hb : bits .and .u64 13 63 = 13 := by decide
  go_enter Try.func61, Try.ntmps61
  go_wp2
  go_ret
  exact ⟨rfl, rfl⟩
theorem rot16 (x : Int) (w : World) : Calls Try.prog 61 #[.int .u64 x, .int .i64 16] w fun e w' => e = .returned (.int .u64 (rotl 65536 281474976710656 x)) ∧ w' = w := by
  have hb : bits .and .u64 16 63 = 16 := by decide
  go_enter Try.func61, Try.ntmps61
  go_wp2
  go_ret
  exact ⟨rfl, rfl⟩
theorem rot32 (x : Int) (w : World) : Calls Try.prog 61 #[.int .u64 x, .int .i64 32] w fun e w' => e = .returned (.int .u64 (rotl 4294967296 4294967296 x)) ∧ w' = w := by
  have hb : bits .and .u64 32 63 = 32 := by decide
  go_enter Try.func61, Try.ntmps61
  go_wp2
  go_ret
  exact ⟨rfl, rfl⟩
theorem rot17 (x : Int) (w : World) : Calls Try.prog 61 #[.int .u64 x, .int .i64 17] w fun e w' => e = .returned (.int .u64 (rotl 131072 140737488355328 x)) ∧ w' = w := by
  have hb : bits .and .u64 17 63 = 17 := by decide
  go_enter Try.func61, Try.ntmps61
  go_wp2
  go_ret
  exact ⟨rfl, rfl⟩
theorem rot21 (x : Int) (w : World) : Calls Try.prog 61 #[.int .u64 x, .int .i64 21] w fun e w' => e = .returned (.int .u64 (rotl 2097152 8796093022208 x)) ∧ w' = w := by
  have hb : bits .and .u64 21 63 = 21 := by decide
  go_enter Try.func61, Try.ntmps61
  go_wp2
  go_ret
  exact ⟨rfl, rfl⟩

/-- Four numbers in block b. -/
def At4 (b : Nat) (p q r s : Int) (w : World) : Prop :=
  w.cell? ⟨b, 0, none⟩ = some (.int .u64 p) ∧ w.cell? ⟨b, 1, none⟩ = some (.int .u64 q) ∧ w.cell? ⟨b, 2, none⟩ = some (.int .u64 r) ∧ w.cell? ⟨b, 3, none⟩ = some (.int .u64 s) ∧
  w.frozen? ⟨b, 0, none⟩ = false ∧ w.frozen? ⟨b, 1, none⟩ = false ∧ w.frozen? ⟨b, 2, none⟩ = false ∧ w.frozen? ⟨b, 3, none⟩ = false


structure S4 where
  p : Int
  q : Int
  r : Int
  s : Int
def AtS (b : Nat) (v : S4) (w : World) : Prop := At4 b v.p v.q v.r v.s w

def rnd (v : S4) : S4 :=
  let p1 := ua v.p v.q
  let r1 := ua v.r v.s
  let q1 := ux (rotl 8192 2251799813685248 v.q) p1
  let s1 := ux (rotl 65536 281474976710656 v.s) r1
  let p2 := rotl 4294967296 4294967296 p1
  let r2 := ua r1 q1
  let p3 := ua p2 s1
  let q2 := ux (rotl 131072 140737488355328 q1) r2
  let s2 := ux (rotl 2097152 8796093022208 s1) p3
  ⟨p3, q2, rotl 4294967296 4294967296 r2, s2⟩


theorem grown_set {w w1 : World} {b : Nat} {o : Nat} (h : w.grownBy w1 (some b)) (v : Value) : w.grownBy ((w1.setCell ⟨b, o, none⟩ v).drew) (some b) :=
  ⟨h.os, h.tape, h.output, by simpa [World.setCell, World.drew] using h.size, fun i hi hne => (Below.heap_setCell w1 ⟨b, o, none⟩ v i (by rintro rfl; exact hne rfl)).trans (h.block i hi hne)⟩
theorem At4.set0 {b : Nat} {p q r s : Int} {w : World} (h : At4 b p q r s w) (x : Int) : At4 b x q r s ((w.setCell ⟨b, 0, none⟩ (.int .u64 x)).drew) := by
  obtain ⟨c0, c1, c2, c3, f0, f1, f2, f3⟩ := h
  simp [At4, c0, c1, c2, c3, f0, f1, f2, f3, go_sem]
theorem At4.set1 {b : Nat} {p q r s : Int} {w : World} (h : At4 b p q r s w) (x : Int) : At4 b p x r s ((w.setCell ⟨b, 1, none⟩ (.int .u64 x)).drew) := by
  obtain ⟨c0, c1, c2, c3, f0, f1, f2, f3⟩ := h
  simp [At4, c0, c1, c2, c3, f0, f1, f2, f3, go_sem]
theorem At4.set2 {b : Nat} {p q r s : Int} {w : World} (h : At4 b p q r s w) (x : Int) : At4 b p q x s ((w.setCell ⟨b, 2, none⟩ (.int .u64 x)).drew) := by
  obtain ⟨c0, c1, c2, c3, f0, f1, f2, f3⟩ := h
  simp [At4, c0, c1, c2, c3, f0, f1, f2, f3, go_sem]
theorem At4.set3 {b : Nat} {p q r s : Int} {w : World} (h : At4 b p q r s w) (x : Int) : At4 b p q r x ((w.setCell ⟨b, 3, none⟩ (.int .u64 x)).drew) := by
  obtain ⟨c0, c1, c2, c3, f0, f1, f2, f3⟩ := h
  simp [At4, c0, c1, c2, c3, f0, f1, f2, f3, go_sem]

end Go.Proofs.Ytlipkffnllmkgaa
