import Derived.Lib.SlKeysI
namespace Go.Proofs.Ytlipkffnllmkgaa
open Go.RowKit Go.Maps

/-- ks are the keys of f, rising. -/
structure KeysOf {α : Type} (f : Int → Option α) (ks : List Int) : Prop where
  up : ks.Pairwise (· < ·)
  wf : ∀ x ∈ ks, (Lit.int .i64 x).wf = true
  mem : ∀ x, (Lit.int .i64 x).wf = true → (x ∈ ks ↔ (f x).isSome = true)

theorem keys_sorted {P : Program} {k : TypeId} {R : Value → Option (DataW Value × List MemPlace)} {w : World} {b n : Nat} {D : DataW Value} {f : Int → Option Value}
    (hown : w.ownsMap P k R b n D) (K : Keyed P k) (hk : P.underlying k = some (.int .i64)) (hf : ∀ x, (Lit.int .i64 x).wf = true → Maps.has D (.int .i64 x) = (f x).isSome) :
    ∃ ks, KeysOf f ks ∧ ks.length = Maps.size D ∧ ∀ ss : List Int, ss.Perm (intKeys D) → ss.mergeSort (fun x y => decide (x ≤ y)) = ks ∧ ss.length = ks.length := by
  have hwf := intKeys_wf hown hk
  obtain ⟨es, hD, hpw, _⟩ := hown.entries K
  obtain ⟨es', hD', hko⟩ := hown.keysOf
  obtain rfl : es = es' := by rw [hD] at hD'; simpa using hD'
  subst hD
  have hkey : ∀ p ∈ es, ∃ x, p.1 = .int .i64 x := fun p hp => by obtain ⟨v, hv⟩ := hko p hp; obtain ⟨x, _, hx, _⟩ := Maps.keyOf_i64 hk hv; exact ⟨x, hx⟩
  have hnd : (intKeys (.map es)).Nodup := by
    show (es.map fun p => intOf p.1).Nodup
    refine List.pairwise_map.2 (hpw.imp_of_mem fun {p q} hp' hq' hne e => hne ?_)
    obtain ⟨a, ha⟩ := hkey p hp'
    obtain ⟨b, hb⟩ := hkey q hq'
    rw [ha, hb] at e ⊢
    exact congrArg _ e
  have hmem : ∀ x, x ∈ intKeys (.map es) ↔ Maps.has (.map es) (.int .i64 x) = true := fun x => by
    rw [has_eq, List.any_eq_true]
    show x ∈ es.map (fun p => intOf p.1) ↔ _
    rw [List.mem_map]
    constructor
    · rintro ⟨p, hp', rfl⟩
      obtain ⟨a, ha⟩ := hkey p hp'
      exact ⟨p, hp', by rw [ha]; simp [Lit.sameKey, intOf]⟩
    · rintro ⟨p, hp', hs⟩
      obtain ⟨a, ha⟩ := hkey p hp'
      rw [ha] at hs
      exact ⟨p, hp', by rw [ha]; simpa [Lit.sameKey, intOf] using hs⟩
  have tr : ∀ a b c : Int, leI a b = true → leI b c = true → leI a c = true := fun a b c h1 h2 => by simp only [leI, decide_eq_true_eq] at *; exact Int.le_trans h1 h2
  have to : ∀ a b : Int, (leI a b || leI b a) = true := fun a b => by simp only [leI, Bool.or_eq_true, decide_eq_true_eq]; exact Int.le_total a b
  have hperm := List.mergeSort_perm (intKeys (.map es)) leI
  have hle := List.pairwise_mergeSort tr to (intKeys (.map es))
  have hnd2 : ((intKeys (.map es)).mergeSort leI).Nodup := hperm.nodup_iff.2 hnd
  refine ⟨(intKeys (.map es)).mergeSort leI, ⟨?_, fun x hx => hwf x (hperm.mem_iff.1 hx), fun x hx => ?_⟩, ?_, fun ss hs => ⟨mergeSort_of_perm_i hs, ?_⟩⟩
  · have h2 := List.Pairwise.and hle hnd2
    refine h2.imp ?_
    rintro a b ⟨h1, h2⟩
    simp only [leI, decide_eq_true_eq] at h1
    omega
  · rw [hperm.mem_iff, hmem, hf x hx]
  · rw [hperm.length_eq]
    show (es.map _).length = es.length
    simp
  · rw [hperm.length_eq, hs.length_eq]
/-- There is but one such list. -/
theorem KeysOf.one {α : Type} {f : Int → Option α} {ks ls : List Int} (h : KeysOf f ks) (h' : KeysOf f ls) : ks = ls := by
  refine List.Perm.eq_of_pairwise (le := fun a b : Int => a < b) (fun a b _ _ h1 h2 => by omega) h.up h'.up ?_
  refine (List.perm_ext_iff_of_nodup (h.up.imp (fun h => by omega)) (h'.up.imp (fun h => by omega))).2 fun x => ?_
  constructor
  · intro hx
    exact (h'.mem x (h.wf x hx)).2 ((h.mem x (h.wf x hx)).1 hx)
  · intro hx
    exact (h.mem x (h'.wf x hx)).2 ((h'.mem x (h'.wf x hx)).1 hx)
theorem KeysOf.of {α β : Type} {f : Int → Option α} {g : Int → Option β} {ks : List Int} (h : KeysOf f ks) (e : ∀ x, (f x).isSome = (g x).isSome) : KeysOf g ks := ⟨h.up, h.wf, fun x hx => by rw [h.mem x hx, e x]⟩
end Go.Proofs.Ytlipkffnllmkgaa
