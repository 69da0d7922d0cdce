import Derived.Test.YtaeiaoldlebhaaaDoorWB
namespace Go.Proofs.YtaeiaoldlebhaaaDoor
open Go.RowKit Go.Maps Go.Lib Go.Sort

theorem entsC_get {l : List Ent} {t : Nat} (ht : t < l.length * 3) : (entsC l)[t]? = some ((entC (l.toArray[t / 3]!))[t % 3]!) := by
  have hi : t / 3 < l.length := by omega
  have hx : l[t / 3]? = some (l.toArray[t / 3]!) := by
    rw [getElem!_pos l.toArray (t / 3) (by simpa using hi), List.getElem?_eq_getElem hi]
    simp
  generalize l.toArray[t / 3]! = x at hx ⊢
  obtain ⟨h1, h2, h3⟩ := entsC_at hx
  have hm : t % 3 = 0 ∨ t % 3 = 1 ∨ t % 3 = 2 := by omega
  rcases hm with hm | hm | hm
  · rw [show t / 3 * 3 = t from by omega] at h1
    rw [hm, h1]; rfl
  · rw [show t / 3 * 3 + 1 = t from by omega] at h2
    rw [hm, h2]; rfl
  · rw [show t / 3 * 3 + 2 = t from by omega] at h3
    rw [hm, h3]; rfl
theorem entsC_flat (l : List Ent) : entsC l = (flatK entC 3 l.toArray).toList := by
  refine List.ext_getElem? (fun t => ?_)
  by_cases ht : t < l.length * 3
  · rw [entsC_get ht]
    have h := get_flatK entC 3 l.toArray t (by simpa using ht)
    rw [← h, Array.getElem?_toList]
    rw [Array.getElem?_eq_getElem (by rw [size_flatK]; simpa using ht), getElem!_pos (flatK entC 3 l.toArray) t (by rw [size_flatK]; simpa using ht)]
  · rw [List.getElem?_eq_none (by rw [entsC_len]; omega), List.getElem?_eq_none (by rw [Array.length_toList, size_flatK]; simpa using ht)]
theorem row_holds {w : World} {base g n cap : Nat} {l : List Ent} (h : w.ownsRow base 109 3 (.slice (some ⟨g, 0, none⟩) n cap) n (entsC l)) (hn : l.length = n) : HoldsK entC 3 w g 0 l.toArray := by
  rcases h.2 with ⟨hv, _⟩ | ⟨g', cap', cur, hv, _, hg, hle, _, hsz, htk⟩
  · cases hv
  · cases hv
    intro j hj
    rw [size_flatK] at hj
    have hj : j < n * 3 := by rw [← hn]; simpa using hj
    have hc : cur[j]? = some (flatK entC 3 l.toArray)[j]! := by
      have e1 : (cur.toList.take (n * 3))[j]? = cur[j]? := by rw [List.getElem?_take, if_pos hj]; simp
      rw [← e1, htk, entsC_flat, Array.getElem?_toList, Array.getElem?_eq_getElem (by rw [size_flatK]; simp; omega), getElem!_pos _ j (by rw [size_flatK]; simp; omega)]
    constructor
    · simp only [World.cell?, hg, Nat.zero_add]
      simpa using hc
    · simp [World.frozen?, hg]
theorem row_sorted {w : World} {base g n cap : Nat} {l l' : List Ent} (h : w.ownsRow base 109 3 (.slice (some ⟨g, 0, none⟩) n cap) n (entsC l)) (hn' : l'.length = n) (q : Nat) (os : Array Obj) :
    (sortWorldK entC 3 w g 0 q l'.toArray os).ownsRow base 109 3 (.slice (some ⟨g, 0, none⟩) n cap) n (entsC l') ∧ w.grownBy (sortWorldK entC 3 w g 0 q l'.toArray os) (some g) := by
  rcases h.2 with ⟨hv, _⟩ | ⟨g', cap', cur, hv, hb, hg, hle, hm, hsz, htk⟩
  · cases hv
  · cases hv
    have hgl := (Array.getElem?_eq_some_iff.1 hg).1
    have hgr : ∀ i, i < w.heap.size → (sortWorldK entC 3 w g 0 q l'.toArray os).heap[i]? = (putRowK entC 3 (Sort.ahead w q) g 0 l'.toArray).heap[i]? := fun i hi => by
      unfold sortWorldK grow
      exact Array.getElem?_append_left (by rw [size_putRowK]; exact hi)
    have hpg : (putRowK entC 3 (Sort.ahead w q) g 0 l'.toArray).heap[g]? = some (.cells (putCells id 0 (flatK entC 3 l'.toArray) cur) 109 (0, 0)) := by
      unfold putRowK putRow mapBlock Sort.ahead
      simp [Array.getElem?_modify, hg, onCells]
    refine ⟨⟨by rw [entsC_len, hn'], .inr ⟨g, cap, _, rfl, hb, (hgr g hgl).trans hpg, hle, hm, by simp [putCells, hsz], ?_⟩⟩, ⟨rfl, rfl, rfl, ?_, fun i hi hne => (hgr i hi).trans ?_⟩⟩
    · refine List.ext_getElem? (fun j => ?_)
      by_cases hj : j < n * 3
      · rw [List.getElem?_take, if_pos hj, entsC_flat, Array.getElem?_toList, Array.getElem?_toList]
        have hfs : j < (flatK entC 3 l'.toArray).size := by rw [size_flatK]; simp; omega
        have hle2 : n * 3 ≤ cap * 3 := Nat.mul_le_mul_right _ hle
        have hcs : j < cur.size := by omega
        simp only [putCells, Array.getElem?_mapIdx, Array.getElem?_eq_getElem hcs, Option.map_some]
        rw [if_pos ⟨by omega, by omega⟩, Array.getElem?_eq_getElem hfs, Nat.sub_zero, getElem!_pos _ j hfs]
        rfl
      · rw [List.getElem?_take, if_neg hj, List.getElem?_eq_none (by rw [entsC_len]; omega)]
    · exact size_sortWorldK_c _ _ _ _ _ _ _ _
    · unfold putRowK putRow mapBlock Sort.ahead
      simp only [Array.getElem?_modify]
      rw [if_neg (fun e => hne (by rw [e]))]
theorem cmpLays48 (blk off size : Nat) (w : World) : CmpLays Tryd.prog 48 #[] entC 3 cfE blk off size w := fun _ _ _ _ x y => before_ok x y _
theorem sort_up {l l' : List Ent} (ho : (l.map Ent.ord).Nodup) (hp : PermIn 0 l.toArray.size l.toArray l'.toArray) (hs : SortedIn (ltOf cfE) 0 l.toArray.size l'.toArray) : Up l' ∧ l'.Perm l := by
  obtain ⟨hsz, _, hperm⟩ := hp
  have e1 : l'.toArray.extract 0 l.toArray.size = l'.toArray := by rw [← hsz]; exact Array.extract_size
  rw [e1, Array.extract_size] at hperm
  have hp : l'.Perm l := by simpa using hperm
  refine ⟨?_, hp⟩
  have ho' : (l'.map Ent.ord).Nodup := ((hp.map Ent.ord).nodup_iff).2 ho
  unfold Up
  rw [List.pairwise_iff_getElem]
  intro i j hi hj hij
  have h := hs i j (Nat.zero_le _) hij (by rw [← hsz]; simpa using hj)
  rw [getElem!_pos l'.toArray j (by simpa using hj), getElem!_pos l'.toArray i (by simpa using hi), lt_cfE_false] at h
  have hne : (l'[i]).ord ≠ (l'[j]).ord := by
    have := (List.pairwise_iff_getElem.1 ho') i j (by simpa using hi) (by simpa using hj) hij
    simpa using this
  have h : ¬ (l'[j]).lt (l'[i]) := by simpa using h
  unfold Ent.lt at *
  omega
/-- A row, sorted. -/
theorem sort_ok {w : World} {base n : Nat} {v : Value} {l : List Ent} (h : w.ownsRow base 109 3 v n (entsC l)) (hn : l.length = n) (ho : (l.map Ent.ord).Nodup) (h0 : 0 < n) (hsz : n < 1099511627776) :
    Calls Tryd.prog 47 #[v, .func (.func 48) #[] #[]] w fun e w' => e = .returned (.tuple #[]) ∧ ∃ l', Up l' ∧ l'.Perm l ∧ w'.ownsRow base 109 3 v n (entsC l') ∧ w.grownBy w' v.ownBlock := by
  obtain ⟨g, cap, rfl, _, hgl⟩ := h.form h0
  have eg : ∀ args w, (callFunc 48 args).run Tryd.prog w = .ok (.enter 48 args) w := enters_of Tryd.func48 (by kernel_rfl) rfl
  have hcon := AnyQ.slices_SortFunc Tryd.sortE 3 Tryd.isAgg109 Tryd.sizeOf109 entC (fun _ => rfl) (fun x v hv => by simp [entC] at hv; rcases hv with rfl | rfl | rfl <;> rfl) cfE swoE 48 #[] g 0 cap l.toArray w eg (cmpLays48 g 0 _ w) (row_holds h hn) hgl (by simp; omega)
  change Calls Tryd.prog 47 _ _ _ at hcon
  rw [show l.toArray.size = n from by simpa using hn] at hcon
  refine hcon.mono ?_
  rintro e w' ⟨he, d', q, os, hp, hs, rfl⟩
  have hd : d' = d'.toList.toArray := by simp
  rw [hd] at hp hs ⊢
  rw [show n = l.toArray.size from by simpa using hn.symm] at hp hs
  obtain ⟨h1, h2⟩ := sort_up ho hp hs
  obtain ⟨h3, h4⟩ := row_sorted h (h2.length_eq.trans hn) q os
  exact ⟨he, d'.toList, h1, h2, h3, h4⟩
end Go.Proofs.YtaeiaoldlebhaaaDoor
