import Derived.Test.YtaeiaoldlebhaaaDoorWG
namespace Go.Proofs.YtaeiaoldlebhaaaDoor
open Go.RowKit Go.Maps Go.Lib

theorem set_mid (A : List Ent) (y z : Ent) (Bs : List Ent) : (A ++ y :: z :: Bs).set A.length z = (A ++ [z]) ++ z :: Bs := by
  rw [List.set_append_right _ _ (Nat.le_refl _)]; simp
theorem row_of_grown {wr : World} {base g n cap : Nat} {xs : List Value} (h : wr.ownsRow base 109 3 (.slice (some ⟨g, 0, none⟩) n cap) n xs) {w2 : World} (hb : Below wr.heap.size wr w2) : w2.ownsRow base 109 3 (.slice (some ⟨g, 0, none⟩) n cap) n xs := ownsRow_kept h (fun g' hg => hb.block g' (h.lt g' hg).2)
theorem grown_below {w wr w2 : World} {row : Option Nat} (h : w.grownBy wr row) (hb : Below wr.heap.size wr w2) : w.grownBy w2 row :=
  ⟨hb.os.trans h.os, hb.tape.trans h.tape, hb.output.trans h.output, Nat.le_trans h.size hb.size, fun i hi hne => (hb.block i (Nat.lt_of_lt_of_le hi h.size)).trans (h.block i hi hne)⟩
theorem grown_trans' {a b c : World} {row : Option Nat} (h : a.grownBy b row) (k : b.grownBy c row) : a.grownBy c row :=
  ⟨k.os.trans h.os, k.tape.trans h.tape, k.output.trans h.output, Nat.le_trans h.size k.size, fun i hi hne => (k.block i (Nat.lt_of_lt_of_le hi h.size) hne).trans (h.block i hi hne)⟩
set_option maxRecDepth 100000 in
set_option maxHeartbeats 2000000 in
theorem delete_ok {w : World} {base g n cap X d0 : Nat} {E1 E2 : List Ent} {x0 : Ent} (h : w.ownsRow base 109 3 (.slice (some ⟨g, 0, none⟩) n cap) n (entsC (E1 ++ x0 :: E2))) (hn : (E1 ++ x0 :: E2).length = n) (h1 : ∀ y ∈ E1 ++ E2, y.ord ≠ d0) (h0 : x0.ord = d0) (hX : w.cell? ⟨X, 2, none⟩ = some (.int .i64 (d0 : Int))) (hXl : X < w.heap.size) (hXg : X ≠ g) (hsz : n < 1099511627776) :
    Calls Tryd.prog 86 #[.slice (some ⟨g, 0, none⟩) n cap, .func (.func 88) #[] #[.pointer (some ⟨X, 0, none⟩)]] w fun e w' => e = .returned (.slice (some ⟨g, 0, none⟩) (E1 ++ E2).length cap) ∧ w'.ownsRow base 109 3 (.slice (some ⟨g, 0, none⟩) (E1 ++ E2).length cap) (E1 ++ E2).length (entsC (E1 ++ E2)) ∧ w.grownBy w' (some g) := by
  have HI := Lib.hid (index_ok h hn (fun y hy => h1 y (List.mem_append_left _ hy)) h0 hX hXl hsz)
  have H := Lib.hid h
  have HX := Lib.hid hX
  have hnc : n ≤ cap ∧ cap ≤ maxLen := by
    rcases h.2 with ⟨hv, _⟩ | ⟨g', cap', cur, hv, hb, hg, hle, hm, hr⟩
    · cases hv
    · cases hv; exact ⟨hle, hm⟩
  obtain ⟨hnc, hcm⟩ := hnc
  unfold maxLen at hcm
  have HN := Lib.hid hn
  have H1 := Lib.hid h1
  have H0 := Lib.hid h0
  have hneg : ((E1.length : Int) == -1) = false := by rw [beq_eq_false_iff_ne]; omega
  have hE1 : (E1.length : Int) < 1099511627776 := by
    have : E1.length < n := by rw [← hn]; simp
    omega
  clear h hX hn h1 h0
  go_enter Tryd.func86, Tryd.ntmps86
  go_wp2_with (go_at_call 114; refine HI.out.mono ?_; rintro e wi ⟨rfl, hbi⟩; have HBI := Lib.hid hbi; clear hbi)
  go_loopw [5, 6] (fun vi vj wr => ∃ (A Bs : List Ent) (y : Ent), vi = .int .i64 (A.length : Int) ∧ vj = .int .i64 ((A.length : Int) + 1) ∧ A ++ Bs = E1 ++ E2 ∧ A.length + Bs.length + 1 = n ∧ wr.ownsRow base 109 3 (.slice (some ⟨g, 0, none⟩) n cap) n (entsC (A ++ y :: Bs)) ∧ w.grownBy wr (some g)) (fun _ vj _ => n - (intOf vj).toNat)
  case atStart =>
    refine ⟨E1, E2, x0, rfl, rfl, rfl, by have := HN.out; simp at this; omega, row_of_grown H.out HBI.out, ⟨HBI.out.os, HBI.out.tape, HBI.out.output, HBI.out.size, fun i hi _ => HBI.out.block i hi⟩⟩
  case round =>
    obtain ⟨A, Bs, y, rfl, rfl, hAB, hlen, hrow, hgr⟩ := hrel
    have HAB := Lib.hid hAB
    have HROW := Lib.hid hrow
    have HGR := Lib.hid hgr
    have hXr : wr.cell? ⟨X, 2, none⟩ = some (.int .i64 (d0 : Int)) := (World.cell?_of_block (hgr.block X hXl (by simp; exact hXg))).trans HX.out
    have hXr2 : X < wr.heap.size := Nat.lt_of_lt_of_le hXl hgr.size
    clear hAB hgr
    cases Bs with
    | cons z Bs =>
      have hlt : (A.length : Int) + 1 < (n : Int) := by simp at hlen; omega
      have hAl : (A.length : Int) < 1099511627776 := by omega
      have hz : (A ++ y :: z :: Bs)[A.length + 1]? = some z := by rw [List.getElem?_append_right (by omega)]; simp
      obtain ⟨c0, c1, c2⟩ := row_at hrow hz
      have hb4 : Below wr.heap.size wr (wr.alloc (.cells #[.int .i64 z.key, .int .i64 (z.due : Int), .int .i64 (z.ord : Int)] 109)) := (Below.refl _ _).alloc (Nat.le_refl _) _
      have hne := H1.out z (by rw [← HAB.out]; simp)
      have HC := Lib.hid (same_ok z.key z.due z.ord X d0 (wr.alloc (.cells #[.int .i64 z.key, .int .i64 (z.due : Int), .int .i64 (z.ord : Int)] 109)) ((World.cell?_of_block (hb4.block X hXr2)).trans hXr) (by simp; omega))
      rw [decide_eq_false hne] at HC
      have HLEN := Lib.hid hlen
      clear hrow hz hne hXr hlen hb4
      go_wp2_with fail
      refine HC.out.mono ?_
      rintro e wx ⟨rfl, hb⟩
      obtain ⟨hb5, hbox⟩ := box3 (w := wr) (by simpa using hb)
      obtain ⟨⟨b0, b1, b2⟩, _⟩ := cells3 hbox
      have HROW2 := Lib.hid (row_of_grown HROW.out hb5)
      have HGR2 := Lib.hid (grown_below HGR.out hb5)
      have r0 := row_free HROW2.out (A.length * 3)
      have r1 := row_free HROW2.out (A.length * 3 + 1)
      have r2 := row_free HROW2.out (A.length * 3 + 2)
      obtain ⟨s0, s1, s2⟩ := row_at HROW2.out (k := A.length) (x := y) (by rw [List.getElem?_append_right (Nat.le_refl _)]; simp)
      have hAn : (A.length : Int) < (n : Int) := by have := HLEN.out; simp at this; omega
      clear hb hb5 hbox
      go_wp2_with fail
      have hset := row_set HROW2.out (by have := HLEN.out; simp at this ⊢; omega) A.length z
      rw [set_mid] at hset
      refine ⟨⟨A ++ [z], Bs, z, by simp, by simp, by rw [List.append_assoc]; exact HAB.out, by have := HLEN.out; simp at this ⊢; omega, hset.1, grown_trans' HGR2.out hset.2⟩, by have := HLEN.out; simp [intOf] at this ⊢; omega⟩
    | nil =>
      have hnA : n = A.length + 1 := by simp at hlen; omega
      clear hlen
      subst hnA
      have hAE : A = E1 ++ E2 := by have := HAB.out; simpa using this
      have hAl : (A.length : Int) < 1099511627776 := by omega
      have hcap : A.length < cap := by omega
      have hcapI : (A.length : Int) < (cap : Int) := by omega
      have hcapJ : (A.length : Int) ≤ (cap : Int) := by omega
      obtain ⟨s0, s1, s2⟩ := row_at hrow (k := A.length) (x := y) (by rw [List.getElem?_append_right (Nat.le_refl _)]; simp)
      have hcl := fun ty => run_clear1 wr ty g (A.length * 3) (cap - A.length) (fun j hj => by
        have hj3 : j = 0 ∨ j = 1 ∨ j = 2 := by omega
        rcases hj3 with rfl | rfl | rfl
        · rw [Nat.add_zero, s0]; rfl
        · rw [s1]; rfl
        · rw [s2]; rfl) (fun j _ => row_free hrow _)
      have hsub : A.length + 1 - A.length = 1 := by omega
      have hset := row_set hrow (by simp) A.length ⟨0, 0, 0⟩
      have HSET := Lib.hid hset
      have HAE := Lib.hid hAE
      clear hrow hXr s0 s1 s2 hset hAE
      go_wp2_with fail
      go_ret
      have hAE2 := HAE.out
      have hlen2 : (E1.length + E2.length) = A.length := by rw [hAE2]; simp
      rw [hlen2, ← hAE2]
      have hcut := row_cut HSET.out.1 (by simp) (m := A.length) (by omega)
      have htk : ((A ++ [y]).set A.length ⟨0, 0, 0⟩).take A.length = A := by
        rw [List.set_append_right _ _ (Nat.le_refl _)]; simp
      rw [htk] at hcut
      exact ⟨rfl, hcut, grown_trans' HGR.out HSET.out.2⟩
end Go.Proofs.YtaeiaoldlebhaaaDoor
