import Derived.Test.YtaeiaoldlebhaaaDoorM0
import Derived.Test.YtaeiaoldlebhaaaDoorShelf
namespace Go.Proofs.YtaeiaoldlebhaaaDoor.S
open Go.RowKit Go.Maps Go.Lib

/-- The eight bytes of a number. -/
def eight (n : Nat) : List UInt8 := [UInt8.ofNat (n % 256), UInt8.ofNat (n / 256 % 256), UInt8.ofNat (n / 65536 % 256), UInt8.ofNat (n / 16777216 % 256), UInt8.ofNat (n / 4294967296 % 256), UInt8.ofNat (n / 1099511627776 % 256), UInt8.ofNat (n / 281474976710656 % 256), UInt8.ofNat (n / 72057594037927936 % 256)]
theorem u8_inj {a b : Nat} (ha : a < 256) (hb : b < 256) (h : UInt8.ofNat a = UInt8.ofNat b) : a = b := by
  have := congrArg UInt8.toNat h
  simp only [UInt8.toNat_ofNat'] at this
  omega
theorem eight_inj {n m : Nat} (hn : n < 18446744073709551616) (hm : m < 18446744073709551616) (h : eight n = eight m) : n = m := by
  unfold eight at h
  simp only [List.cons.injEq, and_true] at h
  obtain ⟨h0, h1, h2, h3, h4, h5, h6, h7⟩ := h
  have e0 := u8_inj (Nat.mod_lt _ (by decide)) (Nat.mod_lt _ (by decide)) h0
  have e1 := u8_inj (Nat.mod_lt _ (by decide)) (Nat.mod_lt _ (by decide)) h1
  have e2 := u8_inj (Nat.mod_lt _ (by decide)) (Nat.mod_lt _ (by decide)) h2
  have e3 := u8_inj (Nat.mod_lt _ (by decide)) (Nat.mod_lt _ (by decide)) h3
  have e4 := u8_inj (Nat.mod_lt _ (by decide)) (Nat.mod_lt _ (by decide)) h4
  have e5 := u8_inj (Nat.mod_lt _ (by decide)) (Nat.mod_lt _ (by decide)) h5
  have e6 := u8_inj (Nat.mod_lt _ (by decide)) (Nat.mod_lt _ (by decide)) h6
  have e7 := u8_inj (Nat.mod_lt _ (by decide)) (Nat.mod_lt _ (by decide)) h7
  omega
/-- A key's text: x, y and z for nought, one and two; none for three; eight bytes for any other. -/
def kl (k : Int) : List UInt8 := if 0 ≤ k ∧ k ≤ 2 then [UInt8.ofNat (120 + k.toNat)] else if k = 3 then [] else eight (k + 9223372036854775808).toNat
theorem kl_len (k : Int) : (kl k).length ≤ 8 := by
  unfold kl
  split
  · simp
  · split
    · simp
    · exact Nat.le_refl 8
theorem kl_inj {a b : Int} (ha : -9223372036854775808 ≤ a ∧ a ≤ 9223372036854775807) (hb : -9223372036854775808 ≤ b ∧ b ≤ 9223372036854775807) (h : kl a = kl b) : a = b := by
  have hl := congrArg List.length h
  by_cases a1 : 0 ≤ a ∧ a ≤ 2 <;> by_cases b1 : 0 ≤ b ∧ b ≤ 2
  · unfold kl at h
    rw [if_pos a1, if_pos b1] at h
    have e := u8_inj (by omega) (by omega) (List.cons.inj h).1
    omega
  · unfold kl at hl
    rw [if_pos a1, if_neg b1] at hl
    split at hl <;> simp [eight] at hl
  · unfold kl at hl
    rw [if_neg a1, if_pos b1] at hl
    split at hl <;> simp [eight] at hl
  · unfold kl at h hl
    rw [if_neg a1, if_neg b1] at h hl
    by_cases a2 : a = 3 <;> by_cases b2 : b = 3
    · omega
    · rw [if_pos a2, if_neg b2] at hl; simp [eight] at hl
    · rw [if_neg a2, if_pos b2] at hl; simp [eight] at hl
    · rw [if_neg a2, if_neg b2] at h
      have := eight_inj (by omega) (by omega) h
      omega
def kb (k : Int) : ByteArray := ⟨(kl k).toArray⟩
/-- Texts as keys. -/
def kS {P : Program} {kt : TypeId} (hu : P.underlying kt = some .string) : KeyEmb P kt Int :=
  ⟨fun k => .string (kb k), fun k => .string (kl k), fun k => (Lit.int .i64 k).wf = true, string_keyed hu, fun {a} _ => by
    have h1 := kl_len a
    have h2 := Go.WideMaps.keyOf_string_mk (k := kt) hu (s := kb a) (by show (kl a).toArray.size ≤ maxLen; unfold maxLen; simp; omega)
    rw [h2]
    rfl, fun {a b} ha hb e => by
    simp [Lit.wf, IntKind.min, IntKind.max, IntKind.signed, IntKind.bits] at ha hb
    exact kl_inj (by omega) (by omega) (Lit.string.inj e), fun _ => trivial⟩
theorem kb_none : kb 3 = ⟨#[]⟩ := by decide
end Go.Proofs.YtaeiaoldlebhaaaDoor.S
