import Derived.Test.YtbahcpejippcjaaDoorP1
import Derived.Lib.AtoiTie
import Derived.Lib.ItoaMem
namespace Go.Proofs.YtbahcpejippcjaaDoor
open Go.RowKit Go.Shelf

/-! ### Digits of any number -/
theorem digit_val {d : Nat} (h : d < 10) : Lib.digitVal (UInt8.ofNat (48 + d)) = some d := by
  have h1 : (UInt8.ofNat (48 + d)).toNat = 48 + d := by simp; omega
  unfold Lib.digitVal
  rw [h1, if_pos ⟨by omega, by omega⟩]
  congr 1
  omega
theorem decFrom_snoc (b : UInt8) : ∀ (l : List UInt8) (acc m : Nat), Lib.decFrom acc l = some m → Lib.decFrom acc (l ++ [b]) = (match Lib.digitVal b with | some d => some (m * 10 + d) | none => none)
  | [], acc, m, h => by
    simp only [Lib.decFrom, Option.some.injEq] at h
    subst h
    simp only [List.nil_append, Lib.decFrom]
    cases Lib.digitVal b <;> rfl
  | a :: t, acc, m, h => by
    simp only [List.cons_append, Lib.decFrom] at h ⊢
    cases ha : Lib.digitVal a with
    | none => simp [ha] at h
    | some d =>
      simp only [ha] at h ⊢
      exact decFrom_snoc b t _ m h
theorem dec_from (n : Nat) : Lib.decFrom 0 (Lib.decDigits n) = some n := by
  induction n using Nat.strongRecOn with
  | ind n ih =>
    unfold Lib.decDigits
    split
    · next h =>
      simp only [Lib.decFrom, digit_val h]
      simp
    · next h =>
      rw [decFrom_snoc _ _ 0 (n / 10) (ih (n / 10) (by omega)), digit_val (Nat.mod_lt _ (by omega))]
      simp only [Option.some.injEq]
      omega
theorem dec_len (k : Nat) : ∀ n, n < 10 ^ (k + 1) → (Lib.decDigits n).length ≤ k + 1 := by
  induction k with
  | zero => intro n h; unfold Lib.decDigits; rw [dif_pos (by omega)]; simp
  | succ k ih =>
    intro n h
    unfold Lib.decDigits
    split
    · simp
    · have := ih (n / 10) (by rw [Nat.pow_succ] at h; omega)
      simp
      omega
theorem dec_mem (n : Nat) : ∀ b ∈ Lib.decDigits n, 48 ≤ b.toNat ∧ b.toNat ≤ 57 := by
  induction n using Nat.strongRecOn with
  | ind n ih =>
    have hd : ∀ d, d < 10 → 48 ≤ (UInt8.ofNat (48 + d)).toNat ∧ (UInt8.ofNat (48 + d)).toNat ≤ 57 := fun d h => by
      have h1 : (UInt8.ofNat (48 + d)).toNat = 48 + d := by simp; omega
      omega
    unfold Lib.decDigits
    split
    · next h =>
      intro b hb
      simp only [List.mem_singleton] at hb
      subst hb
      exact hd n h
    · intro b hb
      rcases List.mem_append.1 hb with hb | hb
      · exact ih (n / 10) (by omega) b hb
      · simp only [List.mem_singleton] at hb
        subst hb
        exact hd _ (Nat.mod_lt _ (by omega))
theorem dec_ne (n : Nat) : Lib.decDigits n ≠ [] := by
  unfold Lib.decDigits
  split <;> simp
theorem port_back {n : Nat} (h : n < 100000) : Lib.atoiAll (Lib.itoa (n : Int)) = .ok (n : Int) := by
  rw [Lib.itoa_nonneg]
  have hl := dec_len 4 n h
  rw [Lib.atoiAll_short _ (by omega)]
  have hm := dec_mem n
  have hf := dec_from n
  have hn := dec_ne n
  cases hd : Lib.decDigits n with
  | nil => exact absurd hd hn
  | cons b r =>
    rw [hd] at hm hf
    have hb := hm b (List.mem_cons_self ..)
    have h45 : (b == 45) = false := by
      simp only [beq_eq_false_iff_ne]
      rintro rfl
      exact absurd hb.1 (by decide)
    have h43 : (b == 43) = false := by
      simp only [beq_eq_false_iff_ne]
      rintro rfl
      exact absurd hb.1 (by decide)
    simp [Lib.atoi, h45, h43, Lib.decNat, hf, Lib.NumEnd.ofOption]
theorem port_no {n : Nat} {c : UInt8} (h : c.toNat < 48 ∨ 57 < c.toNat) : c ∉ Lib.itoa (n : Int) := by
  rw [Lib.itoa_nonneg]
  intro hm
  have := dec_mem n c hm
  omega
theorem dig_mem {n : Nat} (h : n < 256) {c : UInt8} (hc : c ∈ dig n) : 48 ≤ c.toNat ∧ c.toNat ≤ 57 := (dig_facts h).1 c hc
theorem addr_no {a : Nat} {c : UInt8} (h1 : c ≠ 46) (h : c.toNat < 48 ∨ 57 < c.toNat) : c ∉ textOf a := by
  rw [text_dots]
  have m0 : a / 16777216 % 256 < 256 := Nat.mod_lt _ (by omega)
  have m1 : a / 65536 % 256 < 256 := Nat.mod_lt _ (by omega)
  have m2 : a / 256 % 256 < 256 := Nat.mod_lt _ (by omega)
  have m3 : a % 256 < 256 := Nat.mod_lt _ (by omega)
  intro hm
  unfold dots at hm
  simp only [List.mem_append, List.mem_cons] at hm
  rcases hm with hm | hm | hm | hm | hm | hm | hm
  · have := dig_mem m0 hm; omega
  · exact h1 hm
  · have := dig_mem m1 hm; omega
  · exact h1 hm
  · have := dig_mem m2 hm; omega
  · exact h1 hm
  · have := dig_mem m3 hm; omega
theorem cut_at {c : UInt8} {l : List UInt8} (r : List UInt8) (h : c ∉ l) : Lib.cut (l ++ c :: r) [c] = (l, r, true) := by
  unfold Lib.cut
  rw [index_at r h, if_pos (by omega)]
  simp

/-! ### A service, its line -/
structure Svc where
  proto : Int
  vip : Nat
  port : Int
  dsr : Bool
  nat : Nat
def Svc.ok (s : Svc) : Prop := s.vip < 4294967296 ∧ s.nat < 4294967296
def rightB (s : Svc) : Bool := (decide (s.proto = 6) || decide (s.proto = 17)) && decide (1 ≤ s.port) && decide (s.port ≤ 65535) && decide (s.vip ≠ 0) && (s.dsr == decide (s.nat = 0))
def protoL (p : Int) : List UInt8 := if p = 17 then [117, 100, 112] else [116, 99, 112]
def atL (s : Svc) : List UInt8 := textOf s.vip ++ 58 :: Lib.itoa s.port
def natL (s : Svc) : List UInt8 := [110, 97, 116] ++ 32 :: textOf s.nat
def howL (s : Svc) : List UInt8 := if s.dsr then [100, 115, 114] else natL s
def svcL (s : Svc) : List UInt8 := protoL s.proto ++ 32 :: (atL s ++ 32 :: howL s)

def sp : ByteArray := ⟨#[32]⟩
def colon : ByteArray := ⟨#[58]⟩
def wordsOf (s : ByteArray) : List ByteArray := Lib.splitB sp 0 (Lib.countB s sp) s
theorem wordsOf_length (s : ByteArray) : (wordsOf s).length = Lib.countB s sp + 1 := Lib.splitB_all sp (by decide) 0 _ s rfl
theorem words_data (s : ByteArray) : (wordsOf s).map (·.data.toList) = Lib.splitK [32] 0 (s.data.toList.count 32) s.data.toList := by
  unfold wordsOf
  rw [Lib.splitB_data]
  congr 1
  exact Lib.count_one 32 s.data.toList
def vipOf (s : ByteArray) : ByteArray := ⟨(Lib.cut s.data.toList [58]).1.toArray⟩
def portOf (s : ByteArray) : ByteArray := ⟨(Lib.cut s.data.toList [58]).2.1.toArray⟩
def protoOf (s : ByteArray) : Int := if s = ⟨#[116, 99, 112]⟩ then 6 else if s = ⟨#[117, 100, 112]⟩ then 17 else 0
def portN (s : ByteArray) : Int := match Lib.atoiAll s.data.toList with | .ok v => v | _ => 0
def word (l : List ByteArray) (i : Nat) : ByteArray := l.getD i ByteArray.empty
/-- What the code reads of a line's words. -/
def readS (l : List ByteArray) : Svc := ⟨protoOf (word l 0), (parseOf (vipOf (word l 1))).getD 0, portN (portOf (word l 1)), decide (word l 2 = ⟨#[100, 115, 114]⟩), if l.length = 4 then (parseOf (word l 3)).getD 0 else 0⟩
def parseS (line : ByteArray) : Option Svc := if (wordsOf line).length < 3 then none else if rightB (readS (wordsOf line)) = true ∧ svcL (readS (wordsOf line)) = line.data.toList then some (readS (wordsOf line)) else none

theorem right_facts {s : Svc} (h : rightB s = true) : (s.proto = 6 ∨ s.proto = 17) ∧ 1 ≤ s.port ∧ s.port ≤ 65535 ∧ s.vip ≠ 0 ∧ s.dsr = decide (s.nat = 0) := by
  unfold rightB at h
  simp only [Bool.and_eq_true, Bool.or_eq_true, decide_eq_true_eq, beq_iff_eq] at h
  exact ⟨h.1.1.1.1, h.1.1.1.2, h.1.1.2, h.1.2, h.2⟩
theorem proto_no (p : Int) : (32 : UInt8) ∉ protoL p := by
  unfold protoL
  split <;> decide
theorem port_nat {s : Svc} (h : rightB s = true) : ∃ q : Nat, s.port = (q : Int) ∧ q < 100000 := by
  obtain ⟨_, h1, h2, _⟩ := right_facts h
  exact ⟨s.port.toNat, by omega, by omega⟩
theorem at_no {s : Svc} (h : rightB s = true) : (32 : UInt8) ∉ atL s := by
  obtain ⟨q, hq, _⟩ := port_nat h
  unfold atL
  rw [hq]
  intro hm
  simp only [List.mem_append, List.mem_cons] at hm
  rcases hm with hm | hm | hm
  · exact addr_no (by decide) (by decide) hm
  · exact absurd hm (by decide)
  · exact port_no (by decide) hm
theorem natw_no : (32 : UInt8) ∉ ([110, 97, 116] : List UInt8) := by decide
theorem dsr_no : (32 : UInt8) ∉ ([100, 115, 114] : List UInt8) := by decide
theorem count_zero {l : List UInt8} {c : UInt8} (h : c ∉ l) : l.count c = 0 := List.count_eq_zero.2 h
theorem svc_count {s : Svc} (h : rightB s = true) : (svcL s).count 32 = if s.dsr then 2 else 3 := by
  unfold svcL howL
  have a1 := count_zero (proto_no s.proto)
  have a2 := count_zero (at_no h)
  have a4 := count_zero (addr_no (a := s.nat) (c := 32) (by decide) (by decide))
  cases s.dsr with
  | true => simp [List.count_append, a1, a2]
  | false => simp [natL, List.count_append, a1, a2, a4]
theorem svc_words {s : Svc} (h : rightB s = true) : wordsOf ⟨(svcL s).toArray⟩ = if s.dsr then [⟨(protoL s.proto).toArray⟩, ⟨(atL s).toArray⟩, ⟨#[100, 115, 114]⟩] else [⟨(protoL s.proto).toArray⟩, ⟨(atL s).toArray⟩, ⟨#[110, 97, 116]⟩, ⟨(textOf s.nat).toArray⟩] := by
  have hd := words_data ⟨(svcL s).toArray⟩
  dsimp only at hd
  rw [svc_count h] at hd
  unfold svcL howL at hd
  unfold svcL howL
  cases hb : s.dsr with
  | true =>
    simp only [hb, if_true] at hd ⊢
    rw [splitK_cons _ _ (proto_no _), splitK_cons _ _ (at_no h), splitK_last _ dsr_no] at hd
    exact bytes_list hd
  | false =>
    simp only [hb, Bool.false_eq_true, if_false, natL] at hd ⊢
    rw [splitK_cons _ _ (proto_no _), splitK_cons _ _ (at_no h), splitK_cons _ _ natw_no, splitK_last _ (addr_no (by decide) (by decide))] at hd
    exact bytes_list hd
theorem at_cut {s : Svc} : vipOf ⟨(atL s).toArray⟩ = ⟨(textOf s.vip).toArray⟩ ∧ portOf ⟨(atL s).toArray⟩ = ⟨(Lib.itoa s.port).toArray⟩ := by
  have hc : Lib.cut (atL s) [58] = (textOf s.vip, Lib.itoa s.port, true) := cut_at _ (addr_no (by decide) (by decide))
  unfold vipOf portOf
  dsimp only
  rw [hc]
  exact ⟨rfl, rfl⟩
theorem proto_back {s : Svc} (h : rightB s = true) : protoOf ⟨(protoL s.proto).toArray⟩ = s.proto := by
  obtain ⟨h1 | h1, _⟩ := right_facts h
  · rw [h1]; decide
  · rw [h1]; decide
theorem read_back {s : Svc} (h : rightB s = true) (ho : s.ok) : readS (wordsOf ⟨(svcL s).toArray⟩) = s ∧ 3 ≤ (wordsOf ⟨(svcL s).toArray⟩).length := by
  obtain ⟨q, hq, hq2⟩ := port_nat h
  obtain ⟨_, _, _, _, hn⟩ := right_facts h
  have hp : portN ⟨(Lib.itoa s.port).toArray⟩ = s.port := by
    unfold portN
    dsimp only
    rw [hq, port_back hq2]
  rw [svc_words h]
  have hpb := proto_back h
  obtain ⟨c1, c2⟩ := at_cut (s := s)
  cases hd : s.dsr with
  | true =>
    rw [hd] at hn
    have hn0 : s.nat = 0 := by simpa using hn.symm
    simp only [if_true]
    refine ⟨?_, by simp⟩
    unfold readS word
    simp only [List.getD_cons_zero, List.getD_cons_succ, hpb, c1, c2, hp, parse_text _ ho.1]
    cases s
    simp_all
  | false =>
    simp only [Bool.false_eq_true, if_false]
    refine ⟨?_, by simp⟩
    unfold readS word
    simp only [List.getD_cons_zero, List.getD_cons_succ, hpb, c1, c2, hp, parse_text _ ho.1, parse_text _ ho.2]
    have hne : ¬ (⟨#[110, 97, 116]⟩ : ByteArray) = ⟨#[100, 115, 114]⟩ := by decide
    cases s
    simp_all
/-- P19.3: what was written is read. -/
theorem parse_svc {s : Svc} (h : rightB s = true) (ho : s.ok) : parseS ⟨(svcL s).toArray⟩ = some s := by
  obtain ⟨h1, h2⟩ := read_back h ho
  unfold parseS
  rw [if_neg (by omega), h1, if_pos ⟨h, by simp⟩]
/-- What is read stood so. -/
theorem svc_parse {line : ByteArray} {s : Svc} (h : parseS line = some s) : rightB s = true ∧ svcL s = line.data.toList := by
  unfold parseS at h
  split at h
  · cases h
  · split at h
    · next hc => cases h; exact hc
    · cases h
end Go.Proofs.YtbahcpejippcjaaDoor
