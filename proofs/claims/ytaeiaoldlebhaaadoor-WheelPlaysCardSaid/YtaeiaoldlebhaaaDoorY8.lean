import Derived.Test.YtaeiaoldlebhaaaDoorY7
import Derived.Test.YtaeiaoldlebhaaaDoorDI
namespace Go.Proofs.YtaeiaoldlebhaaaDoor
open Go.RowKit Go.Shelf Go.Maps Go.Lib
attribute [local go_sem] Oper.semAt_some

set_option maxRecDepth 100000 in
set_option maxHeartbeats 8000000 in
theorem walk_WheelPlays (a0 : Option Addr) (len0 cap0 : Nat) (w : World) (w0 : DeedsIn w a0 len0 cap0) (hE : TabAt 0 Lib.deBruijn64tab w ∧ 0 < w.heap.size) :
    Calls Tryd.prog 7 #[.slice a0 len0 cap0] w fun e w' => e = .returned (.bool true) ∧ Below w.heap.size w w' := by
  obtain ⟨hT, h0⟩ := hE
  have HT := Lib.hid hT
  have W0 := Lib.hid w0
  have hl0 := w0.len
  unfold maxLen at hl0
  clear hT w0
  have HB0 := Lib.hid ((Below.refl w.heap.size w).alloc (Nat.le_refl _) (.cells #[.bool false] 4))
  have HR0 := Lib.hid (heap_alloc_new w (.cells #[.bool false] 4))
  refine calls_of_endsP Tryd.func7 rfl ?_
  simp only [Tryd.ntmps7, List.size_toArray, List.length_cons, List.length_nil, Nat.reduceAdd, Nat.reduceSub, Array.replicate_succ, Array.replicate_zero, List.push_toArray, List.append_toArray, List.nil_append, List.cons_append]
  go_wp2_with fail
  obtain ⟨wb, hwb⟩ : ∃ wb, w.alloc (.cells #[.bool false] 4) = wb := ⟨_, rfl⟩
  have hsb : w.heap.size < wb.heap.size := by rw [← hwb]; simp
  rw [hwb] at HB0 HR0
  rw [hwb]
  clear hwb
  obtain ⟨b2, hb2⟩ : ∃ b2, w.heap.size = b2 := ⟨_, rfl⟩
  have HB2 := Lib.hid hb2
  rw [hb2] at HR0
  rw [hb2]
  have hb2l : b2 < wb.heap.size := by omega
  clear hb2
  refine (examples16 wb (tab_below HT.out h0 HB0.out) (by omega)).mono ?_
  rintro e wx ⟨rfl, hb⟩
  have HB := Lib.hid (HB0.out.trans (hb.mono (by omega)))
  have HRX := Lib.hid ((hb.block b2 hb2l).trans HR0.out)
  have hsx : wb.heap.size ≤ wx.heap.size := hb.size
  clear hb
  go_wp2_with fail
  refine (new_whl wx).mono ?_
  rintro e wa ⟨W, S, rfl, hA, hb, hS⟩
  have HST := Lib.hid (play_start hA hb hS (by omega : b2 < wx.heap.size))
  have HBA := Lib.hid hb
  clear hA hb hS
  have c0 := (box_cell (((HBA.out.block b2 (by omega)).trans HRX.out))).1
  have f0 := (box_cell (((HBA.out.block b2 (by omega)).trans HRX.out))).2
  go_wp2_with fail
  obtain ⟨X, hX⟩ : ∃ X, wa.heap.size = X := ⟨_, rfl⟩
  obtain ⟨C, hC⟩ : ∃ C, wa.heap.size + 1 = C := ⟨_, rfl⟩
  obtain ⟨B, hBB⟩ : ∃ B, wx.heap.size = B := ⟨_, rfl⟩
  obtain ⟨wy, hwy⟩ : ∃ wy, (wa.alloc (.cells #[.int .i64 0, .slice none 0 0] 52)).alloc (.cells #[.pointer (some ⟨wa.heap.size, 0, none⟩)] 49) = wy := ⟨_, rfl⟩
  have hPL : PlI w B W X C b2 0 [] wy := by
    have e1 := heap_alloc_new (wa.alloc (.cells #[.int .i64 0, .slice none 0 0] 52)) (.cells #[.pointer (some ⟨wa.heap.size, 0, none⟩)] 49)
    rw [World.size_alloc] at e1
    have hs := HBA.out.size
    have hA : Below wa.heap.size wa wy := by rw [← hwy]; exact ((Below.refl _ wa).alloc (Nat.le_refl _) _).alloc (by simp) _
    have hs2 := HB.out.size
    refine ⟨⟨0, 0, [], ?_, Nat.le_refl _⟩, ?_, ?_, List.nodup_nil, (fun D hD => by cases hD), (fun D hD => by cases hD), HB.out.trans ((HBA.out.trans (hA.mono hs)).mono hs2), by omega⟩
    · have := HST.out
      rw [hwy, hC, hX, hBB] at this
      exact this
    · rw [← hwy, ← hC, ← hX]
      exact e1
    · exact (hA.block b2 (by omega)).trans ((HBA.out.block b2 (by omega)).trans HRX.out)
  rw [hwy, hC, hX]
  have HPL := Lib.hid hPL
  have HBB := Lib.hid hBB
  have hB0 : 0 < B := by omega
  clear hPL hwy hX hC c0 f0 HST
  refine wp_loop (fun a' wr => ∃ (i : Nat) (Ds : List Nat) (u7 u8 u9 u10 u19 u20 u21 u22 u23 u24 u25 u26 u27 u28 u29 u30 u31 u32 u33 u34 u35 u36 u37 u38 u39 u40 u41 u42 u43 u44 u45 u46 u47 u48 u49 u50 u51 u52 u53 u54 u55 u56 u57 u58 u59 u60 u61 u62 u63 u64 u65 u66 u67 u68 u69 u70 u71 u72 u73 u74 u75 u76 u77 u78 u79 u80 u81 u82 u83 u84 u85 u86 u87 u88 u89 u90 u91 u92 u93 u94 u95 u96 u97 u98 u99 u100 : Value), a' = { tmps := #[.slice a0 len0 cap0, undef, .pointer (some ⟨b2, 0, none⟩), .bool true, .pointer (some ⟨W, 0, none⟩), .pointer (some ⟨C, 0, none⟩), .int .i64 (i : Int), u7, u8, u9, u10, .bool true, .bool true, .bool false, .pointer (some ⟨W, 0, none⟩), .agg #[.int .i64 0, .slice none 0 0], .pointer (some ⟨X, 0, none⟩), .pointer (some ⟨W, 0, none⟩), .bool false, u19, u20, u21, u22, u23, u24, u25, u26, u27, u28, u29, u30, u31, u32, u33, u34, u35, u36, u37, u38, u39, u40, u41, u42, u43, u44, u45, u46, u47, u48, u49, u50, u51, u52, u53, u54, u55, u56, u57, u58, u59, u60, u61, u62, u63, u64, u65, u66, u67, u68, u69, u70, u71, u72, u73, u74, u75, u76, u77, u78, u79, u80, u81, u82, u83, u84, u85, u86, u87, u88, u89, u90, u91, u92, u93, u94, u95, u96, u97, u98, u99, u100, undef], defers := Ds.map mark } ∧ i ≤ 80 ∧ PlI w B W X C b2 i Ds wr) (fun a' _ => 81 - (intOf (a'.tmps.getD 6 undef)).toNat) ?_ ?_
  · refine ⟨0, [], ?_⟩
    (repeat apply Exists.intro)
    exact ⟨rfl, by omega, HPL.out⟩
  · intro a' wr hinv
    obtain ⟨i, hinv⟩ := hinv
    obtain ⟨Ds, hinv⟩ := hinv
    obtain ⟨u7, hinv⟩ := hinv
    obtain ⟨u8, hinv⟩ := hinv
    obtain ⟨u9, hinv⟩ := hinv
    obtain ⟨u10, hinv⟩ := hinv
    obtain ⟨u19, hinv⟩ := hinv
    obtain ⟨u20, hinv⟩ := hinv
    obtain ⟨u21, hinv⟩ := hinv
    obtain ⟨u22, hinv⟩ := hinv
    obtain ⟨u23, hinv⟩ := hinv
    obtain ⟨u24, hinv⟩ := hinv
    obtain ⟨u25, hinv⟩ := hinv
    obtain ⟨u26, hinv⟩ := hinv
    obtain ⟨u27, hinv⟩ := hinv
    obtain ⟨u28, hinv⟩ := hinv
    obtain ⟨u29, hinv⟩ := hinv
    obtain ⟨u30, hinv⟩ := hinv
    obtain ⟨u31, hinv⟩ := hinv
    obtain ⟨u32, hinv⟩ := hinv
    obtain ⟨u33, hinv⟩ := hinv
    obtain ⟨u34, hinv⟩ := hinv
    obtain ⟨u35, hinv⟩ := hinv
    obtain ⟨u36, hinv⟩ := hinv
    obtain ⟨u37, hinv⟩ := hinv
    obtain ⟨u38, hinv⟩ := hinv
    obtain ⟨u39, hinv⟩ := hinv
    obtain ⟨u40, hinv⟩ := hinv
    obtain ⟨u41, hinv⟩ := hinv
    obtain ⟨u42, hinv⟩ := hinv
    obtain ⟨u43, hinv⟩ := hinv
    obtain ⟨u44, hinv⟩ := hinv
    obtain ⟨u45, hinv⟩ := hinv
    obtain ⟨u46, hinv⟩ := hinv
    obtain ⟨u47, hinv⟩ := hinv
    obtain ⟨u48, hinv⟩ := hinv
    obtain ⟨u49, hinv⟩ := hinv
    obtain ⟨u50, hinv⟩ := hinv
    obtain ⟨u51, hinv⟩ := hinv
    obtain ⟨u52, hinv⟩ := hinv
    obtain ⟨u53, hinv⟩ := hinv
    obtain ⟨u54, hinv⟩ := hinv
    obtain ⟨u55, hinv⟩ := hinv
    obtain ⟨u56, hinv⟩ := hinv
    obtain ⟨u57, hinv⟩ := hinv
    obtain ⟨u58, hinv⟩ := hinv
    obtain ⟨u59, hinv⟩ := hinv
    obtain ⟨u60, hinv⟩ := hinv
    obtain ⟨u61, hinv⟩ := hinv
    obtain ⟨u62, hinv⟩ := hinv
    obtain ⟨u63, hinv⟩ := hinv
    obtain ⟨u64, hinv⟩ := hinv
    obtain ⟨u65, hinv⟩ := hinv
    obtain ⟨u66, hinv⟩ := hinv
    obtain ⟨u67, hinv⟩ := hinv
    obtain ⟨u68, hinv⟩ := hinv
    obtain ⟨u69, hinv⟩ := hinv
    obtain ⟨u70, hinv⟩ := hinv
    obtain ⟨u71, hinv⟩ := hinv
    obtain ⟨u72, hinv⟩ := hinv
    obtain ⟨u73, hinv⟩ := hinv
    obtain ⟨u74, hinv⟩ := hinv
    obtain ⟨u75, hinv⟩ := hinv
    obtain ⟨u76, hinv⟩ := hinv
    obtain ⟨u77, hinv⟩ := hinv
    obtain ⟨u78, hinv⟩ := hinv
    obtain ⟨u79, hinv⟩ := hinv
    obtain ⟨u80, hinv⟩ := hinv
    obtain ⟨u81, hinv⟩ := hinv
    obtain ⟨u82, hinv⟩ := hinv
    obtain ⟨u83, hinv⟩ := hinv
    obtain ⟨u84, hinv⟩ := hinv
    obtain ⟨u85, hinv⟩ := hinv
    obtain ⟨u86, hinv⟩ := hinv
    obtain ⟨u87, hinv⟩ := hinv
    obtain ⟨u88, hinv⟩ := hinv
    obtain ⟨u89, hinv⟩ := hinv
    obtain ⟨u90, hinv⟩ := hinv
    obtain ⟨u91, hinv⟩ := hinv
    obtain ⟨u92, hinv⟩ := hinv
    obtain ⟨u93, hinv⟩ := hinv
    obtain ⟨u94, hinv⟩ := hinv
    obtain ⟨u95, hinv⟩ := hinv
    obtain ⟨u96, hinv⟩ := hinv
    obtain ⟨u97, hinv⟩ := hinv
    obtain ⟨u98, hinv⟩ := hinv
    obtain ⟨u99, hinv⟩ := hinv
    obtain ⟨u100, hinv⟩ := hinv
    obtain ⟨ha', hi, hP⟩ := hinv
    subst ha'
    clear HPL
    have HPL := Lib.hid hP
    clear hP
    have c5 := (box_cell HPL.out.boxC).1
    obtain ⟨ds, hds⟩ : ∃ ds, Ds.map mark = ds := ⟨_, rfl⟩
    have HDS := Lib.hid hds
    rw [hds]
    clear hds
    by_cases hlt : i < len0 ∧ i < 80
    · obtain ⟨x, d, rfl, hd, hdc⟩ := W0.out.read HPL.out.below hlt.1
      obtain ⟨hl1, hl2⟩ := hlt
      have hi2 : (i : Int) < (len0 : Int) := by omega
      have hi3 : (i : Int) < 80 := by omega
      obtain ⟨kd, k, a, far⟩ := d
      obtain ⟨d0, d1, d2, d3⟩ := hdc
      dsimp only at d0 d1 d2 d3
      have HD := Lib.hid hd
      clear hd
      go_upto_region 11 with fail
      obtain ⟨now, o, L, hboth, ho⟩ := HPL.out.both
      have HDO := Lib.hid (does27 (hboth.below ((Below.refl _ wr).drew)) (show TabAt 0 Lib.deBruijn64tab wr.drew from tab_below HT.out h0 HPL.out.below.drew) hB0 (by omega) kd k a far HD.out.1 HD.out.2.1 HD.out.2.2)
      have HO := Lib.hid ho
      have HPL1 := Lib.hid ((Below.refl B wr).drew)
      clear hboth ho
      refine wp_tail 6 (by kernel_rfl) (by kernel_rfl) ?_
      simp only [List.take_succ_cons, List.take_zero, List.drop_succ_cons, List.drop_zero]
      repeat still_step
      refine wpStill_nil ?_
      go_upto_region 12 with (go_at_call 27; refine HDO.out.mono ?_; rintro e wd ⟨rfl, now2, o2, L2, hq, ho2, hb2, hg2⟩; have HP1 := Lib.hid (HPL.out.step hq (by have := HO.out; omega) (HPL1.out.trans hb2) hg2); have HQ := Lib.hid hq; have HOO := Lib.hid ho2; clear hq ho2 hb2 hg2)
      obtain ⟨hX1, hX2, x0, A2, c2, x1, hrowR⟩ := both_ptr HQ.out
      obtain ⟨n, hn⟩ : ∃ n, L2.length = n := ⟨_, rfl⟩
      rw [hn] at x1
      have HN := Lib.hid hn
      have HRR := Lib.hid hrowR
      clear c5 d0 d1 d2 d3 hn hrowR
      have c5 := (box_cell HP1.out.boxC).1
      have hnn : ((now2 : Int) != (now2 : Int)) = false := by simp
      have hll : ((n : Int) != (n : Int)) = false := by simp
      go_quiet ((first
        | (go_at_call 21; exact Calls.quiet_of_same (both_now (HQ.out.below (below_drewN (Below.refl _ _) _))))
        | (go_at_call 19; exact Calls.quiet_of_same (both_len (HQ.out.below (below_drewN (Below.refl _ _) _)) n HN.out))))
      have HQ2 := Lib.hid (HQ.out.below (below_drewN (Below.refl _ wd) nq))
      clear x0 x1 c5 hnn hll
      obtain ⟨wq, hwq⟩ : ∃ wq, wd.drewN nq = wq := ⟨_, rfl⟩
      have HP2 := Lib.hid (show PlI w B W X C b2 (i + 1) Ds wq from by rw [← hwq]; exact ⟨⟨now2, o2, L2, HQ2.out, by have := HP1.out; have := HOO.out; have := HO.out; omega⟩, HP1.out.boxC, HP1.out.boxR, HP1.out.nd, HP1.out.marks, HP1.out.hi, below_drewN HP1.out.below nq, HP1.out.wb⟩)
      rw [hwq] at HQ2
      rw [hwq]
      clear hwq
      go_wp2_with (go_at_call 28; refine (all28 _ _).mono ?_; rintro e w8 ⟨rfl, rfl⟩)
      refine (wpIn_wide (n := 9)).1 ?_
      refine wpIn_genP _ ?_
      intro w2 hw2
      refine wpIn_genA _ ?_
      intro Ac hA
      obtain ⟨S0, hS0⟩ : ∃ S0, wq.heap.size = S0 := ⟨_, rfl⟩
      have hs2 : w2.heap.size = S0 + 2 := by rw [hw2, ← hS0]; simp
      have hbq : Below wq.heap.size wq w2 := by rw [hw2]; exact ((Below.refl _ wq).alloc (Nat.le_refl _) _).alloc (by simp) _
      have h02 : w2.heap[S0]? = some (.cells #[.int .i64 0] 3 (0, 0)) := by
        rw [hw2, ← hS0]
        exact (Below.heap_alloc _ _ _ (by simp)).trans (heap_alloc_new wq _)
      have hx2 : w2.heap[S0 + 1]? = some (.cells #[.pointer (some ⟨W, 0, none⟩)] 24 (0, 0)) := by
        rw [hw2, ← hS0]
        have h5 := heap_alloc_new (wq.alloc (.cells #[.int .i64 0] 3)) (.cells #[.pointer (some ⟨W, 0, none⟩)] 24)
        rwa [World.size_alloc] at h5
      have hB2 : Both B W X now2 o2 L2 now2 L2 (S0 :: (Ds ++ [C, b2])) w2 := by
        have h1 := HQ2.out.guard (.cells #[.int .i64 0] 3)
        rw [hS0] at h1
        rw [hw2]
        exact h1.below ((Below.refl _ _).alloc (Nat.le_refl _) _)
      have HB2W := Lib.hid hB2
      have HP3 := Lib.hid (show PlI w B W X C b2 (i + 1) Ds wq from HP2.out)
      obtain ⟨hXw, hXG, A3, c3, y1, hrow3, hgG⟩ := both_ptr2 hB2
      rw [HN.out] at y1
      have HR3 := Lib.hid hrow3
      have HX3 := Lib.hid (show X ≠ S0 from fun e => hXG (e ▸ List.mem_cons_self ..))
      have HG3 := Lib.hid (show ∀ g off, A3 = some ⟨g, off, none⟩ → g ≠ S0 from fun g off e e2 => hgG g off e (e2 ▸ List.mem_cons_self ..))
      have HY1 := Lib.hid y1
      have hcb3 := hrow3.1
      have hcm3 := hrow3.2.1
      unfold maxLen at hcm3
      rw [HN.out] at hcb3
      obtain ⟨S, A, c, hWl, _⟩ := hB2
      clear y1 hrow3 hgG hXG
      have hst := all62_own (B := w2.heap.size + 2) hx2 hWl (by omega)
      have HST2 := Lib.hid hst
      have HBQ := Lib.hid hbq
      have HC2 := Lib.hid ((hbq.block C ((Array.getElem?_eq_some_iff.1 HP2.out.boxC).1)).trans HP2.out.boxC)
      have HS0 := Lib.hid hS0
      clear hbq hx2 hst hWl
      refine range_own (α := Ent) rfl (by omega) (gf := 62) (lb := #[.pointer (some ⟨S0 + 1, 0, none⟩)]) (by rw [hA, ← hS0]; rfl) trivial (enters_of Tryd.func62 (by kernel_rfl) rfl) HST2.out
        (fun h h' => h.trans h') (fun W1 o => (KeepB.put (x := w2.heap.size + 1) W1 o).mono (B := w2.heap.size + 2) (Nat.le_refl _) (.inr (by omega))) (Below.refl _ _) (fun _ => rfl)
        (fun pre Y => AtI w2 S0 pre.length Y)
        (fun _ _ _ => False)
        (AtI.own (by omega))
        (fun _ s A1 B1 row hs _ _ => hs)
        ⟨⟨rfl, rfl, rfl, Nat.le_refl _, fun _ _ _ => rfl⟩, h02⟩
        (fun e a' _ => a' = { tmps := ((((Ac.tmps.setIfInBounds 59 (.int .i64 e.key)).setIfInBounds 60 (.int .i64 (e.due : Int))).setIfInBounds 9 (.int .i64 e.key)).setIfInBounds 10 (.int .i64 (e.due : Int))), defers := [] })
        (fun e a' _ A1 B1 row hs hg hr => hs)
        ?assign ?body ?done ?stop
      case assign =>
        intro l pre y Y K hi2 hK
        have HK := Lib.hid hK
        clear hK
        gi_wp2
        refine HK.out _ _ (KeepsFrom.refl _ _) (KeepB.of_below (Below.refl _ _)) hi2 ?_
        rw [hA]
        simp
      case body =>
        rintro l pre ⟨ky, dy, oy⟩ a' Y hI rfl hlt hlen hpre
        obtain ⟨m, hm⟩ : ∃ m, pre.length = m := ⟨_, rfl⟩
        have hget : L2[m]? = some ⟨ky, dy, oy⟩ := by
          obtain ⟨q, hq⟩ := hpre
          rw [← hq, ← hm, List.append_assoc, List.getElem?_append_right (Nat.le_refl _), Nat.sub_self]
          rfl
        rw [hm] at hI
        have hmn : m < n := by have := HN.out; omega
        obtain ⟨g, off, rfl, hgl, r0, r1⟩ := HR3.out.at hget
        have hkp : ∀ b, b < w2.heap.size → b ≠ S0 → Y.heap[b]? = w2.heap[b]? := fun b hb hne => hI.grown.block b hb (fun e => hne (Option.some.inj e))
        have s0 := (box_cell hI.box).1
        have sf := (box_cell hI.box).2
        have s1 : Y.cell? ⟨X, 1, none⟩ = some (.slice (some ⟨g, off, none⟩) n c3) := (World.cell?_of_block (hkp X hXw HX3.out)).trans HY1.out
        have s2 : Y.cell? ⟨C, 0, none⟩ = some (.pointer (some ⟨X, 0, none⟩)) := (World.cell?_of_block (hkp C (Array.getElem?_eq_some_iff.1 HC2.out).1 (fun e => by have h7 := HC2.out; rw [e, h02] at h7; cases h7))).trans (box_cell HC2.out).1
        have s3 : Y.cell? ⟨g, off + m * 2, none⟩ = some (.int .i64 ky) := (World.cell?_of_block (hkp g hgl (HG3.out g off rfl))).trans r0
        have s4 : Y.cell? ⟨g, off + m * 2 + 1, none⟩ = some (.int .i64 (dy : Int)) := (World.cell?_of_block (hkp g hgl (HG3.out g off rfl))).trans r1
        have hmI : ¬ (n : Int) ≤ (m : Int) := by omega
        have hmI2 : (m : Int) < (n : Int) := by omega
        have hcI : (n : Int) ≤ (c3 : Int) := by omega
        have hcI2 : (c3 : Int) ≤ 9223372036854775807 := by omega
        have hkk : (ky != ky) = false := by simp
        have hdd : ((dy : Int) != (dy : Int)) = false := by simp
        have hge : decide ((n : Int) ≤ (m : Int)) = false := decide_eq_false hmI
        have hge2 : decide (n ≤ m) = false := decide_eq_false (by omega)
        have HNX := Lib.hid (AtI.next (by omega) hI)
        have HMM := Lib.hid hm
        clear hI hkp r0 r1 hget hpre hlen hm h02
        subst hA
        simp only [List.setIfInBounds_toArray, List.set_cons_zero, List.set_cons_succ]
        gi_wp2
        refine I.wpIn_G (Good := fun W' => W'.cell? ⟨S0, 0, none⟩ = some (.int .i64 (m : Int)) ∧ W'.cell? ⟨C, 0, none⟩ = some (.pointer (some ⟨X, 0, none⟩)) ∧ W'.cell? ⟨X, 1, none⟩ = some (.slice (some ⟨g, off, none⟩) n c3) ∧ W'.cell? ⟨g, off + m * 2, none⟩ = some (.int .i64 ky) ∧ W'.cell? ⟨g, off + m * 2 + 1, none⟩ = some (.int .i64 (dy : Int))) (fun _ => trivial) 30 0 [0, 1, 2, 3, 4, 5, 6, 7, 8, 9, 10, 11, 12, 13, 14, 15, 16, 17, 18, 19, 20, 21, 22, 23, 24, 25, 26, 27, 28, 29] (by kernel_rfl) (by kernel_rfl) (by kernel_rfl) (by kernel_rfl) (by kernel_rfl) (by kernel_rfl) rfl (fun _ _ _ _ _ h => h) (by kernel_rfl) ⟨s0, s2, s1, s3, s4⟩ ?_
        iterate 30 (refine I.stepsG_cons (v := ?_) rfl rfl rfl (fun wg hw => ?_) ?_; rotate_left; (obtain ⟨q0, q2, q1, q3, q4⟩ := hw; go_simp; try with_reducible rfl); go_simp)
        refine ⟨by kernel_rfl, ?_⟩
        gi_wp2
        refine ⟨⟨HNX.out.1.size, HNX.out.1.same⟩, HNX.out.2.1, ?_⟩
        dsimp only
        rw [List.length_append, HMM.out]
        exact ⟨⟨HNX.out.2.2.grown.os, HNX.out.2.2.grown.tape, HNX.out.2.2.grown.output, HNX.out.2.2.grown.size, HNX.out.2.2.grown.block⟩, HNX.out.2.2.box⟩
      case done =>
        rintro xs Y rfl hI hK
        rw [HN.out] at hI
        have hkp : ∀ b, b < w2.heap.size → b ≠ S0 → Y.heap[b]? = w2.heap[b]? := fun b hb hne => hI.grown.block b hb (fun e => hne (Option.some.inj e))
        have s0 := (box_cell hI.box).1
        have s1 : Y.cell? ⟨X, 1, none⟩ = some (.slice A3 n c3) := (World.cell?_of_block (hkp X hXw HX3.out)).trans HY1.out
        have hCl := (Array.getElem?_eq_some_iff.1 HC2.out).1
        have hCne : C ≠ S0 := fun e => by have h7 := HC2.out; rw [e, h02] at h7; cases h7
        have s2 : Y.cell? ⟨C, 0, none⟩ = some (.pointer (some ⟨X, 0, none⟩)) := (World.cell?_of_block (hkp C hCl hCne)).trans (box_cell HC2.out).1
        have hll : ((n : Int) != (n : Int)) = false := by simp
        have HK2 := Lib.hid hK
        have hDl := (Array.getElem?_eq_some_iff.1 hK).1
        have HPN := Lib.hid (show PlI w B W X C b2 (i + 1) (w2.heap.size :: Ds) Y from by
          have hq : ∀ b, b < wq.heap.size → Y.heap[b]? = wq.heap[b]? := fun b hb => (hkp b (by have := HBQ.out.size; omega) (by have := HS0.out; omega)).trans (HBQ.out.block b hb)
          have hbw : Below w.heap.size w Y := (HP3.out.below.trans (HBQ.out.mono HP3.out.below.size)).trans ⟨hI.grown.os, hI.grown.tape, hI.grown.output, hI.grown.size, fun b hb => hkp b (by have := HP3.out.below.size; have := HBQ.out.size; omega) (by have := HP3.out.below.size; have := HS0.out; omega)⟩
          refine ⟨⟨now2, o2, xs, by have h8 := HB2W.out.carry hI.grown ⟨Nat.le_refl _, hDl⟩; simpa using h8, by have := HOO.out; have := HO.out; omega⟩, (hq C ((Array.getElem?_eq_some_iff.1 HP3.out.boxC).1)).trans HP3.out.boxC, (hq b2 ((Array.getElem?_eq_some_iff.1 HP3.out.boxR).1)).trans HP3.out.boxR, List.nodup_cons.2 ⟨fun hm => by have := (Array.getElem?_eq_some_iff.1 (HP3.out.marks _ hm)).1; have := HBQ.out.size; omega, HP3.out.nd⟩, fun D hD => ?_, fun D hD => ?_, hbw, HP3.out.wb⟩
          · rcases List.mem_cons.1 hD with rfl | hD
            · exact hK
            · exact (hq D ((Array.getElem?_eq_some_iff.1 (HP3.out.marks D hD)).1)).trans (HP3.out.marks D hD)
          · rcases List.mem_cons.1 hD with rfl | hD
            · have := HP3.out.below.size; have := HBQ.out.size; omega
            · exact HP3.out.hi D hD)
        clear hI hkp hK h02 hCne hCl hDl
        subst hA
        go_upto_region 21 with fail
        go_quiet (fail)
        have HPM := Lib.hid (show PlI w B W X C b2 (i + 1) (w2.heap.size :: Ds) (Y.drewN nq) from ⟨by obtain ⟨a1, a2, a3, q1, q2⟩ := HPN.out.both; exact ⟨a1, a2, a3, q1.below (below_drewN (Below.refl _ _) nq), q2⟩, HPN.out.boxC, HPN.out.boxR, HPN.out.nd, HPN.out.marks, HPN.out.hi, below_drewN HPN.out.below nq, HPN.out.wb⟩)
        go_wp2_with fail
        have eI : (i : Int) + 1 = ((i + 1 : Nat) : Int) := by omega
        rw [eI, ← HDS.out]
        refine ⟨⟨i + 1, w2.heap.size :: Ds, ?_⟩, ?_⟩
        · (repeat apply Exists.intro)
          exact ⟨rfl, by omega, HPM.out⟩
        · simp [intOf]
          omega
      case stop =>
        rintro c pre X2 _ h
        exact h.elim
    · have r0 := (box_cell HPL.out.boxR).1
      have rf := (box_cell HPL.out.boxR).2
      by_cases hl : i < len0
      · have hi2 : (i : Int) < (len0 : Int) := by omega
        have hi3 : ¬ (i : Int) < 80 := by omega
        go_wp2_with fail
        rw [← HDS.out]
        exact HPL.out.leave HB2.out (fun Z hZ => by simp [results, Tryd.f7, go_sem, hZ])
      · have hi2 : ¬ (i : Int) < (len0 : Int) := by omega
        go_wp2_with fail
        rw [← HDS.out]
        exact HPL.out.leave HB2.out (fun Z hZ => by simp [results, Tryd.f7, go_sem, hZ])
end Go.Proofs.YtaeiaoldlebhaaaDoor
