/- packhorseref14.Reset and Same. -/
import Derived.Test.YtbhdojpgjmbogaaTcp2
namespace Go.Proofs.Ytbhdojpgjmbogaa
open Go.RowKit Go.Shelf
theorem sizeN_nonneg (fl : Int) (n : Nat) : 0 ≤ sizeN fl n := by unfold sizeN; omega
set_option maxHeartbeats 1600000 in
theorem rreset (s : SG) (n c : Nat) (A : Option Addr) (hd : s.da = .slice A n c) (hn : n ≤ 140737488355328) (hq : U32 s.sq) (w : World) :
    Calls Try.prog 48 #[s.v] w (RsEnd w s n) := by
  obtain ⟨hq0, hq1⟩ := hq
  have hsz := sizeN_nonneg s.fl n
  have hsz2 : sizeN s.fl n ≤ 140737488355330 := by unfold sizeN; omega
  have Hd := Lib.hid hd
  clear hd
  have h4 : hasB s.fl 4 = true ∨ hasB s.fl 4 = false := by cases hasB s.fl 4 <;> simp
  have h16 : hasB s.fl 16 = true ∨ hasB s.fl 16 = false := by cases hasB s.fl 16 <;> simp
  rcases h4 with h4 | h4
  · go_enter Try.func48, Try.ntmps48
    go_upto_region 1 with (fail)
    refine box3 (s := s) (motive := fun X => Code.wp Try.prog _ _ _ X) ?_
    intro X hB hX hs hz
    go_wp2_with ((with_reducible refine at_slot 7 ?_); refine wpList_loadB rfl 67 (.tmp 1) rfl hs rfl Try.underlying67 rfl SG.info ?_)
    refine (rhas4 s _).mono ?_
    rintro e w1 ⟨rfl, hb1⟩
    have hz1 := hz.mono hb1
    have hB1 := below_step hB hB.size hb1
    go_wp2_with (refine wpList_storeB rfl 67 (.tmp 2) (.tmp 10) rfl rfl hz1 SG.zero.cells rfl rfl SG.info rfl (SG.one (s := SG.zero) rfl rfl) ?_)
    (try simp only [Exit.inBlock, Exit.then])
    have hz2 := (heap_setRow (cells := SG.zero.cells) hz1).1
    refine bodyPost_ret (by exact ret_seg rfl _ _ rfl hz2 rfl) (by rfl) ?_
    exact ⟨by simp [h4], below_setRow hB1 hz1 (by omega)⟩
  · go_enter Try.func48, Try.ntmps48
    go_upto_region 1 with (fail)
    refine box3 (s := s) (motive := fun X => Code.wp Try.prog _ _ _ X) ?_
    intro X hB hX hs hz
    go_wp2_with ((with_reducible refine at_slot 7 ?_); refine wpList_loadB rfl 67 (.tmp 1) rfl hs rfl Try.underlying67 rfl SG.info ?_)
    refine (rhas4 s _).mono ?_
    rintro e w1 ⟨rfl, hb1⟩
    have hs1 := hs.mono hb1
    have hz1 := hz.mono hb1
    have hB1 := below_step hB hB.size hb1
    have hX1 := hb1.size
    clear hs hz hb1 hB
    have hc0 := hs1.cell 0
    have hc1 := hs1.cell 1
    simp only [List.getElem?_toArray, List.getElem?_cons_succ, List.getElem?_cons_zero] at hc0 hc1
    go_upto_region 5 with (fail)
    refine box1 (s := ⟨s.too, s.fr, 0, 0, 4, 0, 0, false, noS, noS⟩) (motive := fun X => Code.wp Try.prog _ _ _ X) ?_
    intro Y hBY hY hr
    have hB2 := below_step hB1 hB1.size hBY
    have hs2 := hs1.mono hBY
    have hz2 := hz1.mono hBY
    clear hc0 hc1 hs1 hz1 hBY
    go_wp2_with ((with_reducible refine at_slot 16 ?_); refine wpList_loadB rfl 67 (.tmp 1) rfl hs2 rfl Try.underlying67 rfl SG.info ?_)
    refine (rhas16 s _).mono ?_
    rintro e w3 ⟨rfl, hb3⟩
    have hs3 := hs2.mono hb3
    have hz3 := hz2.mono hb3
    have hr3 := hr.mono hb3
    have hB3 := below_step hB2 hB2.size hb3
    have hX3 := hb3.size
    clear hs2 hz2 hb3 hr hB2 hB1
    rcases h16 with h16 | h16
    · have hc3 := hs3.cell 3
      simp only [List.getElem?_toArray, List.getElem?_cons_succ, List.getElem?_cons_zero] at hc3
      obtain ⟨r0, r1, r2⟩ := hr3.out3
      obtain ⟨f0, f1, f2⟩ := hr3.free3
      go_upto_region 10 with (fail)
      have hS := hr3.set 2 (.int .u32 s.ak)
      have hZ := hz3.far (p := ⟨w1.heap.size, 2, none⟩) (by show w.heap.size + 1 ≠ w1.heap.size; omega) (.int .u32 s.ak)
      have hBz := hB3.setCell (p := ⟨w1.heap.size, 2, none⟩) (by show w.heap.size ≤ w1.heap.size; omega) (.int .u32 s.ak)
      have hS' : Blk (w3.setCell ⟨w1.heap.size, 2, none⟩ (.int .u32 s.ak)) w1.heap.size 67 (SG.cells ⟨s.too, s.fr, s.ak, 0, 4, 0, 0, false, noS, noS⟩) := by simpa using hS
      clear hS hc3 r0 r1 r2 f0 f1 f2 hr3 hz3 hs3 hB3
      generalize World.setCell w3 _ _ = Z at *
      go_wp2_with (first | ((with_reducible refine at_slot 32 ?_); refine wpList_loadB rfl 67 (.tmp 5) rfl hS' rfl Try.underlying67 rfl SG.info ?_) | (refine wpList_storeB rfl 67 (.tmp 2) (.tmp 32) rfl rfl hZ (SG.cells ⟨s.too, s.fr, s.ak, 0, 4, 0, 0, false, noS, noS⟩) rfl rfl SG.info rfl (SG.one (s := ⟨s.too, s.fr, s.ak, 0, 4, 0, 0, false, noS, noS⟩) rfl rfl) ?_))
      (try simp only [Exit.inBlock, Exit.then])
      have hz4 := (heap_setRow (cells := SG.cells ⟨s.too, s.fr, s.ak, 0, 4, 0, 0, false, noS, noS⟩) hZ).1
      refine bodyPost_ret (by exact ret_seg rfl _ _ rfl hz4 rfl) (by rfl) ?_
      exact ⟨by simp [h4, h16, rstS], below_setRow hBz hZ (by omega)⟩
    · obtain ⟨r0, r1, r2⟩ := hr3.out3
      obtain ⟨f0, f1, f2⟩ := hr3.free3
      go_upto_region 9 with (fail)
      have hS := hr3.set 4 (.int .i64 20)
      have hZ := hz3.far (p := ⟨w1.heap.size, 4, none⟩) (by show w.heap.size + 1 ≠ w1.heap.size; omega) (.int .i64 20)
      have hs4 := hs3.far (p := ⟨w1.heap.size, 4, none⟩) (by show w.heap.size ≠ w1.heap.size; omega) (.int .i64 20)
      have hBz := hB3.setCell (p := ⟨w1.heap.size, 4, none⟩) (by show w.heap.size ≤ w1.heap.size; omega) (.int .i64 20)
      have hS' : Blk (w3.setCell ⟨w1.heap.size, 4, none⟩ (.int .i64 20)) w1.heap.size 67 (SG.cells ⟨s.too, s.fr, 0, 0, 20, 0, 0, false, noS, noS⟩) := by simpa using hS
      clear hS r0 r1 r2 f0 f1 f2 hr3 hz3 hs3 hB3
      generalize World.setCell w3 _ _ = Z at *
      obtain ⟨c0, c1, c2, c3, c4, c5, c6, c7, c8, c9⟩ := hs4.sg
      obtain ⟨r0, r1, r2⟩ := hS'.out3
      obtain ⟨f0, f1, f2⟩ := hS'.free3
      have hmod : (s.sq + sizeN s.fl n).tmod 4294967296 = (s.sq + sizeN s.fl n) % 4294967296 := tmod_pos (by omega)
      go_region_with (go_at_call 41; refine (rsize s n c A Hd.out hn _).mono ?_; rintro e w5 ⟨rfl, hb5⟩; obtain ⟨d0, d1, d2, d3, d4, d5, d6, d7, d8, d9⟩ := (hs4.drw.mono hb5).sg; obtain ⟨r0, r1, r2⟩ := (hS'.drw.mono hb5).out3; obtain ⟨f0, f1, f2⟩ := (hS'.drw.mono hb5).free3)
      all_goals
        have hV : IntKind.u32.wrap ((IntKind.i64.wrap (IntKind.i64.wrap s.sq + sizeN s.fl n)).tmod 4294967296) = (s.sq + sizeN s.fl n) % 4294967296 := by
          have e1 : IntKind.i64.wrap s.sq = s.sq := by rw [IntKind.wrap_i64]; omega
          have e2 : IntKind.i64.wrap (s.sq + sizeN s.fl n) = s.sq + sizeN s.fl n := by rw [IntKind.wrap_i64]; omega
          rw [e1, e2, hmod, IntKind.wrap_u32]
          omega
        rw [hV]
        have hBw := below_step hBz hBz.size ((Below.refl Z.heap.size Z).drew.trans hb5)
        have hz5 := hZ.drw.mono hb5
        have hr5 := hS'.drw.mono hb5
        have hS := hr5.set 3 (.int .u32 ((s.sq + sizeN s.fl n) % 4294967296))
        have hS2 : Blk (w5.setCell ⟨w1.heap.size, 3, none⟩ (.int .u32 ((s.sq + sizeN s.fl n) % 4294967296))) w1.heap.size 67 (SG.cells ⟨s.too, s.fr, 0, (s.sq + sizeN s.fl n) % 4294967296, 20, 0, 0, false, noS, noS⟩) := by simpa using hS
        have hZ5 := hz5.far (p := ⟨w1.heap.size, 3, none⟩) (by show w.heap.size + 1 ≠ w1.heap.size; omega) (.int .u32 ((s.sq + sizeN s.fl n) % 4294967296))
        have hB5 := hBw.setCell (p := ⟨w1.heap.size, 3, none⟩) (by show w.heap.size ≤ w1.heap.size; omega) (.int .u32 ((s.sq + sizeN s.fl n) % 4294967296))
        clear hV hmod hS hz5 hr5 hBw hBz hZ hs4 hS' c0 c1 c2 c3 c4 c5 c6 c7 c8 c9 d0 d1 d2 d3 d4 d5 d6 d7 d8 d9 r0 r1 r2 f0 f1 f2 hb5
        generalize World.setCell w5 _ _ = Z5 at *
        go_wp2_with (first | ((with_reducible refine at_slot 32 ?_); refine wpList_loadB rfl 67 (.tmp 5) rfl hS2 rfl Try.underlying67 rfl SG.info ?_) | (refine wpList_storeB rfl 67 (.tmp 2) (.tmp 32) rfl rfl hZ5 (SG.cells ⟨s.too, s.fr, 0, (s.sq + sizeN s.fl n) % 4294967296, 20, 0, 0, false, noS, noS⟩) rfl rfl SG.info rfl (SG.one (s := ⟨s.too, s.fr, 0, (s.sq + sizeN s.fl n) % 4294967296, 20, 0, 0, false, noS, noS⟩) rfl rfl) ?_))
        (try simp only [Exit.inBlock, Exit.then])
        have hz6 := (heap_setRow (cells := SG.cells ⟨s.too, s.fr, 0, (s.sq + sizeN s.fl n) % 4294967296, 20, 0, 0, false, noS, noS⟩) hZ5).1
        refine bodyPost_ret (by exact ret_seg rfl _ _ rfl hz6 rfl) (by rfl) ?_
        exact ⟨by simp [h4, h16, rstS], below_setRow hB5 hZ5 (by omega)⟩
end Go.Proofs.Ytbhdojpgjmbogaa
