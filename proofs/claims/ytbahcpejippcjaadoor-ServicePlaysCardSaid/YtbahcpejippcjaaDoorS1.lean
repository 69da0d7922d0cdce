import Derived.Test.YtbahcpejippcjaaDoorPS
import Derived.ShutString
import Derived.Deep.RegionHeld3
import Derived.Deep.RegionWith
namespace Go.Proofs.YtbahcpejippcjaaDoor
open Go.RowKit Go.Shelf

def Svc.val (s : Svc) : Value := .agg #[.int .i64 s.proto, .int .u32 (s.vip : Int), .int .i64 s.port, .bool s.dsr, .int .u32 (s.nat : Int)]
theorem box_on {wx wt : World} {o : Obj} (hB : Below (wx.alloc o).heap.size (wx.alloc o) wt) : wt.heap[wx.heap.size]? = some o := (hB.block _ (by simp)).trans (World.alloc_heap_new wx o)
theorem box_go {w w' : World} {b : Nat} {o : Obj} (h : w.heap[b]? = some o) (hB : Below w.heap.size w w') : w'.heap[b]? = some o := (hB.block _ (Array.getElem?_eq_some_iff.1 h).1).trans h
theorem cells5 {w : World} {b : Nat} {u0 u1 u2 u3 u4 : Value} {t : TypeId} (h : w.heap[b]? = some (.cells #[u0, u1, u2, u3, u4] t (0, 0))) : (w.cell? ⟨b, 0, none⟩ = some u0 ∧ w.cell? ⟨b, 1, none⟩ = some u1 ∧ w.cell? ⟨b, 2, none⟩ = some u2 ∧ w.cell? ⟨b, 3, none⟩ = some u3 ∧ w.cell? ⟨b, 4, none⟩ = some u4) ∧ w.frozen? ⟨b, 0, none⟩ = false ∧ w.frozen? ⟨b, 1, none⟩ = false ∧ w.frozen? ⟨b, 2, none⟩ = false ∧ w.frozen? ⟨b, 3, none⟩ = false ∧ w.frozen? ⟨b, 4, none⟩ = false := by
  refine ⟨⟨?_, ?_, ?_, ?_, ?_⟩, ?_, ?_, ?_, ?_, ?_⟩ <;> simp [World.cell?, World.frozen?, h]
theorem nat_zero (n : Nat) : ((n : Int) == 0) = decide (n = 0) := by
  by_cases h : n = 0
  · subst h; rfl
  · have h2 : ¬ (n : Int) = 0 := by omega
    simp [h]
set_option maxRecDepth 100000 in
theorem right_calls (s : Svc) (w : World) : Calls Tryd.prog 15 #[s.val] w fun e w' => e = .returned (.bool (rightB s)) ∧ Below w.heap.size w w' := by
  unfold Svc.val
  go_enter Tryd.func15, Tryd.ntmps15
  go_wp2_with fail
  all_goals
    go_ret
    refine ⟨?_, (Below.refl _ w).alloc (Nat.le_refl _) _⟩
    simp_all [rightB, nat_zero]
    try omega
/-- A line's words. -/
theorem split_words (s : ByteArray) (hs : s.size < 4294967281) (w : World) (hE : Env w) (L : Nat) (hL : (wordsOf s).length = L) :
    Calls Tryd.prog 32 #[.string s, .string ⟨#[32]⟩] w fun e w' => e = .returned (.slice (some ⟨w.heap.size, 0, none⟩) L L) ∧ (∀ i, i < L → w'.cell? ⟨w.heap.size, i, none⟩ = some (.string (word (wordsOf s) i))) ∧ Below w.heap.size w w' := by
  obtain ⟨m0, hm0⟩ := hE.len
  have hc : Lib.countB s sp + 1 = L := by rw [← wordsOf_length]; exact hL
  refine (Tryd.strings_Split s sp m0 _ hs hm0 (by decide)).mono ?_
  rintro e wx ⟨he, rfl⟩
  refine ⟨by rw [he, hc], fun i hi => ?_, (Below.refl _ w).alloc (Nat.le_refl _) _⟩
  have h : (w.alloc (.cells ((wordsOf s).map Value.string).toArray 9)).heap[w.heap.size]? = some (.cells ((wordsOf s).map Value.string).toArray 9 (0, 0)) := World.alloc_heap_new w _
  show (w.alloc (.cells ((wordsOf s).map Value.string).toArray 9)).cell? _ = _
  have hi2 : i < (wordsOf s).length := by omega
  unfold World.cell?
  dsimp only
  rw [h]
  simp [hi2, word, List.getD]
theorem words_size (s : ByteArray) (i : Nat) : (word (wordsOf s) i).size ≤ s.size := by
  unfold word
  by_cases h : i < (wordsOf s).length
  · rw [List.getD_eq_getElem?_getD, List.getElem?_eq_getElem h]
    exact splitB_size sp 0 _ s _ (List.getElem_mem h)
  · rw [List.getD_eq_getElem?_getD, List.getElem?_eq_none (by omega)]
    simp
theorem cut_colon (s : ByteArray) (hs : s.size < 4294967281) (w : World) (hE : Env w) :
    Calls Tryd.prog 33 #[.string s, .string ⟨#[58]⟩] w fun e w' => (∃ b, e = .returned (.tuple #[.string (vipOf s), .string (portOf s), .bool b])) ∧ Below w.heap.size w w' := by
  obtain ⟨m0, hm0⟩ := hE.len
  refine (Tryd.strings_Cut s ⟨#[58]⟩ m0 w hs hm0).mono ?_
  rintro e w' ⟨he, n, rfl⟩
  exact ⟨⟨_, he⟩, below_drewN w n⟩
theorem vip_size (s : ByteArray) : (vipOf s).size ≤ s.size ∧ (portOf s).size ≤ s.size := by
  have hs : s.size = s.data.toList.length := by rw [Array.length_toList]; rfl
  have h : (Lib.cut s.data.toList [58]).1.length ≤ s.data.toList.length ∧ (Lib.cut s.data.toList [58]).2.1.length ≤ s.data.toList.length := by
    unfold Lib.cut
    split
    · rw [List.length_take, List.length_drop]; exact ⟨Nat.min_le_right _ _, Nat.sub_le _ _⟩
    · exact ⟨Nat.le_refl _, Nat.zero_le _⟩
  rw [hs]
  refine ⟨?_, ?_⟩
  · show (List.toArray _).size ≤ _
    rw [List.size_toArray]
    exact h.1
  · show (List.toArray _).size ≤ _
    rw [List.size_toArray]
    exact h.2
/-- What Atoi hands over beside whatever error. -/
theorem atoi_any (s : ByteArray) (hs : s.size ≤ 281474976710656) (w : World) (hE : Env w) :
    Calls Tryd.prog 35 #[.string s] w fun e w' => (∃ (n : Int) (x : Value), (n = portN s ∨ (portN s = 0 ∧ (n < 1 ∨ 65535 < n))) ∧ e = .returned (.tuple #[.int .i64 n, x])) ∧ Below w.heap.size w w' := by
  by_cases h : ∃ v, Lib.atoiAll s.data.toList = .ok v
  · obtain ⟨v, hv⟩ := h
    refine (atoi_ok s hs v hv w).mono ?_
    rintro e w' ⟨he, hb⟩
    exact ⟨⟨v, _, .inl (by unfold portN; rw [hv]), he⟩, hb⟩
  · have h2 : ∀ v, Lib.atoiAll s.data.toList ≠ .ok v := fun v hv => h ⟨v, hv⟩
    refine (atoi_bad s hs h2 w hE).mono ?_
    rintro e w' ⟨n, N, hn, he, hb⟩
    refine ⟨⟨n, _, .inr ⟨?_, hn⟩, he⟩, hb⟩
    unfold portN
    split
    · next v hv => exact absurd hv (h2 v)
    · rfl

theorem join3 (blk : Nat) (x y z : ByteArray) (w : World) (h : w.heap[blk]? = some (.cells #[.string x, .string y, .string z] 9 (0, 0))) (hx : x.data.toList.length ≤ 1000) (hy : y.data.toList.length ≤ 1000) (hz : z.data.toList.length ≤ 1000) :
    Calls Tryd.prog 28 #[.slice (some ⟨blk, 0, none⟩) 3 3, .string ⟨#[32]⟩] w fun e w' => e = .returned (.string ⟨(x.data.toList ++ 32 :: (y.data.toList ++ 32 :: z.data.toList)).toArray⟩) ∧ Below w.heap.size w w' := by
  have e : Lib.join ([x, y, z].map (·.data.toList)) [32] = x.data.toList ++ 32 :: (y.data.toList ++ 32 :: z.data.toList) := by simp [Lib.join, List.intercalate]
  have := Tryd.strings_Join blk 0 3 [x, y, z] ⟨#[32]⟩ w (fun j u hu => by
      have hj : j < 3 := by
        have := (List.getElem?_eq_some_iff.1 hu).1
        simpa using this
      have h4 : j = 0 ∨ j = 1 ∨ j = 2 := by omega
      rcases h4 with rfl | rfl | rfl <;> (simp at hu; subst hu; simp [World.cell?, h])) (Array.getElem?_eq_some_iff.1 h).1 (by simp) (by simp) (by rw [e, List.length_append, List.length_cons, List.length_append, List.length_cons]; omega)
  rw [e] at this
  simpa using this
set_option maxRecDepth 100000 in
theorem text_no (s : Svc) (h : rightB s = false) (w : World) : Calls Tryd.prog 10 #[s.val] w fun e w' => e = .returned (.tuple #[.string ⟨#[]⟩, .bool false]) ∧ Below w.heap.size w w' := by
  have HR := Lib.hid (right_calls s)
  rw [h] at HR
  have HB := Lib.hid (Below.refl w.heap.size w)
  unfold Svc.val at *
  go_enter Tryd.func10, Tryd.ntmps10
  go_wp2_with (go_at_call 15; refine (HR.out _).mono ?_; rintro e wx ⟨rfl, hB⟩; replace HB := Lib.hid (below_step (HB.out.alloc HB.out.size _) hB); clear hB)
  go_ret2
  exact ⟨rfl, HB.out⟩
theorem held5 {W0 W : World} {b : Nat} {s : Svc} (h : W0.heap[b]? = some (.cells #[.int .i64 s.proto, .int .u32 (s.vip : Int), .int .i64 s.port, .bool s.dsr, .int .u32 (s.nat : Int)] 24 (0, 0))) (hb : Below W0.heap.size W0 W) : W.cell? ⟨b, 1, none⟩ = some (.int .u32 (s.vip : Int)) ∧ W.cell? ⟨b, 2, none⟩ = some (.int .i64 s.port) := by
  obtain ⟨⟨d0, d1, d2, d3, d4⟩, _⟩ := cells5 (box_go h hb)
  exact ⟨d1, d2⟩
theorem svc_eqs {s : Svc} {T N D : ByteArray} (hT : (⟨(textOf s.vip).toArray⟩ : ByteArray) = T) (hN : (⟨(textOf s.nat).toArray⟩ : ByteArray) = N) (hD : (⟨(Lib.itoa s.port).toArray⟩ : ByteArray) = D) : T.data.toList = textOf s.vip ∧ N.data.toList = textOf s.nat ∧ D.data.toList = Lib.itoa s.port := by
  subst hT
  subst hN
  subst hD
  exact ⟨by simp, by simp, by simp⟩
set_option maxRecDepth 100000 in
set_option maxHeartbeats 1000000 in
theorem text_yes (s : Svc) (h : rightB s = true) (ho : s.ok) (w : World) (hE : Env w) : Calls Tryd.prog 10 #[s.val] w fun e w' => e = .returned (.tuple #[.string ⟨(svcL s).toArray⟩, .bool true]) ∧ Below w.heap.size w w' := by
  have HR := Lib.hid (right_calls s)
  rw [h] at HR
  have HB := Lib.hid (Below.refl w.heap.size w)
  have HE := Lib.hid hE
  obtain ⟨hpr, hp1, hp2, hrest⟩ := right_facts h
  clear hrest
  have HT := Lib.hid (text_calls s.vip ho.1)
  have HN := Lib.hid (text_calls s.nat ho.2)
  have HD := Lib.hid (itoa_calls s.port (by omega) (by omega))
  have s1 : (⟨(textOf s.vip).toArray⟩ : ByteArray).size ≤ 100 := by rw [size_of_list]; exact text_le s.vip
  have s2 : (⟨(textOf s.nat).toArray⟩ : ByteArray).size ≤ 100 := by rw [size_of_list]; exact text_le s.nat
  have s3 : (⟨(Lib.itoa s.port).toArray⟩ : ByteArray).size ≤ 21 := by rw [size_of_list]; exact Lib.itoa_length_le s.port (by omega) (by omega)
  obtain ⟨T, hT⟩ : ∃ T, (⟨(textOf s.vip).toArray⟩ : ByteArray) = T := ⟨_, rfl⟩
  obtain ⟨N, hN⟩ : ∃ N, (⟨(textOf s.nat).toArray⟩ : ByteArray) = N := ⟨_, rfl⟩
  obtain ⟨D, hD⟩ : ∃ D, (⟨(Lib.itoa s.port).toArray⟩ : ByteArray) = D := ⟨_, rfl⟩
  have HEQ := Lib.hid (svc_eqs hT hN hD)
  rw [hT] at HT s1
  rw [hN] at HN s2
  rw [hD] at HD s3
  have t1 : (T.size : Int) ≤ 100 := by omega
  have t2 : (N.size : Int) ≤ 100 := by omega
  have t3 : (D.size : Int) ≤ 21 := by omega
  have t5 : (T ++ ⟨#[58]⟩ : ByteArray).size = T.size + 1 := by rw [ByteArray.size_append]; rfl
  have HPR := Lib.hid hpr
  have hln : (⟨#[117, 100, 112]⟩ : ByteArray).data.toList.length ≤ 1000 ∧ (⟨#[116, 99, 112]⟩ : ByteArray).data.toList.length ≤ 1000 ∧ (T ++ ⟨#[58]⟩ ++ D : ByteArray).data.toList.length ≤ 1000 ∧ (⟨#[100, 115, 114]⟩ : ByteArray).data.toList.length ≤ 1000 ∧ (⟨#[110, 97, 116, 32]⟩ ++ N : ByteArray).data.toList.length ≤ 1000 := by
    refine ⟨by decide, by decide, ?_, by decide, ?_⟩
    · rw [Array.length_toList]
      show (T ++ ⟨#[58]⟩ ++ D : ByteArray).size ≤ 1000
      rw [ByteArray.size_append, t5]
      omega
    · rw [Array.length_toList]
      show (⟨#[110, 97, 116, 32]⟩ ++ N : ByteArray).size ≤ 1000
      rw [ByteArray.size_append]
      show 4 + N.size ≤ 1000
      omega
  have HLN := Lib.hid hln
  clear hln
  unfold Svc.val at *
  clear hE hT hN hD h ho hp1 hp2 hpr s1 s2 s3
  go_enter Tryd.func10, Tryd.ntmps10
  go_wp2_with (first
    | (go_at_call 15; refine (HR.out _).mono ?_; rintro e wx ⟨rfl, hB⟩; have hb5 := box_on hB; obtain ⟨⟨d0, d1, d2, d3, d4⟩, _⟩ := cells5 hb5; have HX := Lib.hid hb5; replace HE := Lib.hid ((HE.out.below ((Below.refl _ _).alloc (Nat.le_refl _) _)).below hB); replace HB := Lib.hid (below_step (HB.out.alloc HB.out.size _) hB); clear hB hb5)
    | (go_at_call 27; refine (HN.out _ HE.out).mono ?_; rintro e wx ⟨rfl, hB⟩; clear d0 d1 d2 d3 d4; have hb5 := box_go HX.out hB; obtain ⟨⟨d0, d1, d2, d3, d4⟩, _⟩ := cells5 hb5; replace HX := Lib.hid hb5; replace HE := Lib.hid (HE.out.below hB); replace HB := Lib.hid (below_step HB.out hB); clear hB hb5))
  all_goals
    clear d0 d1 d2 d3 d4
    have n1 : ¬ 9223372036854775807 < T.size + 1 := by omega
    have n2 : ¬ 9223372036854775807 ≤ T.size := by omega
    have n3 : ¬ 9223372036854775807 < T.size + 1 + D.size := by omega
    go_region_held3 (fun W : World => (W.cell? ⟨w.heap.size, 1, none⟩ = some (.int .u32 (s.vip : Int)) ∧ W.cell? ⟨w.heap.size, 2, none⟩ = some (.int .i64 s.port))) (first | exact held5 HX.out (Below.refl _ _) | exact held5 HX.out (Below.refl _ _).drew | exact held5 HX.out ((Below.refl _ _).alloc (Nat.le_refl _) _)) (first
      | (go_at_call 27; refine (HT.out _ (HE.out.below ((Below.refl _ _).drew))).mono ?_; rintro e wx ⟨rfl, hB⟩; replace HX := Lib.hid (box_go (w := World.drew _) HX.out hB); replace HE := Lib.hid ((HE.out.below ((Below.refl _ _).drew)).below hB); replace HB := Lib.hid (below_step HB.out.drew hB); clear hB)
      | (go_at_call 29; refine (HD.out _ HE.out).mono ?_; rintro e wx ⟨rfl, hB⟩; replace HX := Lib.hid (box_go HX.out hB); replace HE := Lib.hid (HE.out.below hB); replace HB := Lib.hid (below_step HB.out hB); clear hB)
      | (go_at_call 28; refine (join3 _ _ _ _ _ (World.alloc_heap_new _ _) (by first | exact HLN.out.1 | exact HLN.out.2.1 | exact HLN.out.2.2.1 | exact HLN.out.2.2.2.1 | exact HLN.out.2.2.2.2) (by first | exact HLN.out.1 | exact HLN.out.2.1 | exact HLN.out.2.2.1 | exact HLN.out.2.2.2.1 | exact HLN.out.2.2.2.2) (by first | exact HLN.out.1 | exact HLN.out.2.1 | exact HLN.out.2.2.1 | exact HLN.out.2.2.2.1 | exact HLN.out.2.2.2.2)).mono ?_; rintro e wx ⟨rfl, hB⟩; replace HX := Lib.hid (box_go (box_go HX.out ((Below.refl _ _).alloc (Nat.le_refl _) _)) hB); replace HB := Lib.hid (below_step (HB.out.alloc HB.out.size _) hB); clear hB))
  all_goals
    go_wp2_with fail
    go_ret2
    refine ⟨?_, HB.out⟩
    obtain ⟨q1, q2, q3⟩ := HEQ.out
    simp_all [svcL, protoL, atL, howL, natL]
end Go.Proofs.YtbahcpejippcjaaDoor
