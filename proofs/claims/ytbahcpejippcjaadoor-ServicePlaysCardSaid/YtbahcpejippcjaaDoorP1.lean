import Derived.Test.YtbahcpejippcjaaDoorK6
namespace Go.Proofs.YtbahcpejippcjaaDoor
open Go.RowKit Go.Shelf

/-- The digits of a number below 1000. -/
def dig (n : Nat) : List UInt8 :=
  if n < 10 then [UInt8.ofNat (48 + n)] else if n < 100 then [UInt8.ofNat (48 + n / 10), UInt8.ofNat (48 + n % 10)]
  else [UInt8.ofNat (48 + n / 100), UInt8.ofNat (48 + n / 10 % 10), UInt8.ofNat (48 + n % 10)]
theorem itoa_dig {n : Nat} (h : n < 1000) : Lib.itoa (n : Int) = dig n := by
  unfold Lib.itoa dig
  rw [if_neg (by omega), Int.toNat_natCast]
  by_cases h1 : n < 10
  · rw [if_pos h1, Lib.decDigits, dif_pos h1]
  · rw [if_neg h1, Lib.decDigits, dif_neg h1]
    by_cases h2 : n < 100
    · rw [if_pos h2, Lib.decDigits, dif_pos (by omega)]
      rfl
    · rw [if_neg h2, Lib.decDigits, dif_neg (by omega), Lib.decDigits, dif_pos (by omega), Nat.div_div_eq_div_mul]
      rfl
def digOk (n : Nat) : Bool := ((dig n).all fun b => decide (48 ≤ b.toNat) && decide (b.toNat ≤ 57)) && decide (1 ≤ (dig n).length) && decide ((dig n).length ≤ 3) &&
  (match Lib.atoiAll (dig n) with | .ok v => v == (n : Int) | _ => false) && ((dig n).head? != some 48 || n == 0)
theorem dig_ok : ∀ n : Fin 256, digOk n.val = true := by decide +kernel
theorem dig_facts {n : Nat} (h : n < 256) : (∀ b ∈ dig n, 48 ≤ b.toNat ∧ b.toNat ≤ 57) ∧ (1 ≤ (dig n).length ∧ (dig n).length ≤ 3) ∧ Lib.atoiAll (dig n) = .ok (n : Int) ∧ ((dig n).head? = some 48 → n = 0) := by
  have h1 := dig_ok ⟨n, h⟩
  unfold digOk at h1
  simp only [Bool.and_eq_true, decide_eq_true_eq, List.all_eq_true] at h1
  obtain ⟨⟨⟨⟨h1, h2⟩, h3⟩, h4⟩, h5⟩ := h1
  refine ⟨h1, ⟨h2, h3⟩, ?_, fun e => ?_⟩
  · split at h4
    · rename_i v hv
      rw [hv]
      have : v = (n : Int) := by simpa using h4
      rw [this]
    · cases h4
  · rw [e] at h5
    simpa using h5
theorem dig_nodot {n : Nat} (h : n < 256) : (46 : UInt8) ∉ dig n := fun hm => by
  have := (dig_facts h).1 46 hm
  revert this
  decide

/-! ### Splitting what was joined by points -/
theorem index_none {c : UInt8} : ∀ {l : List UInt8}, c ∉ l → Lib.index l [c] = -1
  | [], _ => rfl
  | b :: l, h => by
    have hb : b ≠ c := fun e => h (by rw [e]; exact List.mem_cons_self ..)
    have hl : c ∉ l := fun e => h (List.mem_cons_of_mem _ e)
    unfold Lib.index
    rw [if_neg (by simp [List.isPrefixOf]; exact fun e => hb e.symm), index_none hl]
    rfl
theorem index_at {c : UInt8} : ∀ {l : List UInt8} (r : List UInt8), c ∉ l → Lib.index (l ++ c :: r) [c] = (l.length : Int)
  | [], r, _ => by unfold Lib.index; simp [List.isPrefixOf]
  | b :: l, r, h => by
    have hb : b ≠ c := fun e => h (by rw [e]; exact List.mem_cons_self ..)
    have hl : c ∉ l := fun e => h (List.mem_cons_of_mem _ e)
    rw [List.cons_append]
    unfold Lib.index
    rw [if_neg (by simp [List.isPrefixOf]; exact fun e => hb e.symm), index_at r hl, if_neg (by simp)]
    simp
theorem splitK_cons {c : UInt8} {l : List UInt8} (r : List UInt8) (k : Nat) (h : c ∉ l) : Lib.splitK [c] 0 (k + 1) (l ++ c :: r) = l :: Lib.splitK [c] 0 k r := by
  rw [Lib.splitK.eq_2]
  rw [index_at r h, if_neg (by simp)]
  simp
theorem splitK_last {c : UInt8} {l : List UInt8} (k : Nat) (h : c ∉ l) : Lib.splitK [c] 0 k l = [l] := by
  cases k with
  | zero => rfl
  | succ k => unfold Lib.splitK; rw [index_none h]; rfl

theorem pieces_data (s : ByteArray) : (pieces s).map (·.data.toList) = Lib.splitK [46] 0 (s.data.toList.count 46) s.data.toList := by
  unfold pieces
  rw [Lib.splitB_data]
  congr 1
  exact Lib.count_one 46 s.data.toList
theorem bytes_list {l : List ByteArray} {m : List (List UInt8)} (h : l.map (·.data.toList) = m) : l = m.map fun x => ⟨x.toArray⟩ := by
  subst h
  induction l with
  | nil => rfl
  | cons a l ih => simp only [List.map_cons]; rw [← ih]

/-- What the point joins. -/
def dots (d0 d1 d2 d3 : List UInt8) : List UInt8 := d0 ++ 46 :: (d1 ++ 46 :: (d2 ++ 46 :: d3))
theorem count_no {l : List UInt8} (h : (46 : UInt8) ∉ l) : l.count 46 = 0 := List.count_eq_zero.2 h
theorem dots_pieces {d0 d1 d2 d3 : List UInt8} (h0 : (46 : UInt8) ∉ d0) (h1 : (46 : UInt8) ∉ d1) (h2 : (46 : UInt8) ∉ d2) (h3 : (46 : UInt8) ∉ d3) :
    pieces ⟨(dots d0 d1 d2 d3).toArray⟩ = [⟨d0.toArray⟩, ⟨d1.toArray⟩, ⟨d2.toArray⟩, ⟨d3.toArray⟩] := by
  have hc : (dots d0 d1 d2 d3).count 46 = 3 := by
    simp [dots, List.count_append, count_no h0, count_no h1, count_no h2, count_no h3]
  have h := pieces_data ⟨(dots d0 d1 d2 d3).toArray⟩
  dsimp only at h
  rw [hc] at h
  unfold dots at h
  rw [splitK_cons _ _ h0, splitK_cons _ _ h1, splitK_cons _ _ h2, splitK_last _ h3] at h
  exact bytes_list h
theorem text_dots (a : Nat) : textOf a = dots (dig (a / 16777216 % 256)) (dig (a / 65536 % 256)) (dig (a / 256 % 256)) (dig (a % 256)) := by
  have e : ∀ j, (part a j).data.toList = dig (a / 2 ^ (8 * (3 - j)) % 256) := fun j => by
    unfold part
    rw [itoa_dig (by have := Nat.mod_lt (a / 2 ^ (8 * (3 - j))) (show 0 < 256 by omega); omega)]
  unfold textOf
  rw [show (List.range 4).map (fun j => (part a j).data.toList) = [(part a 0).data.toList, (part a 1).data.toList, (part a 2).data.toList, (part a 3).data.toList] from rfl, e, e, e, e]
  simp [Lib.join, List.intercalate, dots]
theorem num_dig {n : Nat} (h : n < 256) : numOf ⟨(dig n).toArray⟩ 255 = some n :=
  num_is (v := n) (l := dig n) (by simpa using (dig_facts h).2.2.1) (itoa_dig (by omega)) (by rw [ByteArray.toList_eq]) (by omega)

/-- A text is read as it was written. -/
theorem parse_text (a : Nat) (ha : a < 4294967296) : parseOf ⟨(textOf a).toArray⟩ = some a := by
  have m0 : a / 16777216 % 256 < 256 := Nat.mod_lt _ (by omega)
  have m1 : a / 65536 % 256 < 256 := Nat.mod_lt _ (by omega)
  have m2 : a / 256 % 256 < 256 := Nat.mod_lt _ (by omega)
  have m3 : a % 256 < 256 := Nat.mod_lt _ (by omega)
  unfold parseOf
  rw [text_dots, dots_pieces (dig_nodot m0) (dig_nodot m1) (dig_nodot m2) (dig_nodot m3)]
  simp only [List.length_cons, List.length_nil, foldNum, num_dig m0, num_dig m1, num_dig m2, num_dig m3]
  simp
  omega
theorem text_inj {a b : Nat} (ha : a < 4294967296) (hb : b < 4294967296) (h : textOf a = textOf b) : a = b := by
  have h1 := parse_text a ha
  rw [h, parse_text b hb] at h1
  exact (Option.some.inj h1).symm
end Go.Proofs.YtbahcpejippcjaaDoor
