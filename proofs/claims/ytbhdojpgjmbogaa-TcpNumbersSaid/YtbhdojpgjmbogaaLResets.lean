/- TcpResets: the walk: it answers true. -/
import Derived.Test.YtbhdojpgjmbogaaTAwake
import Derived.Test.YtbhdojpgjmbogaaTcp3
namespace Go.Proofs.Ytbhdojpgjmbogaa
open Go.RowKit Go.Shelf
/-- A segment without bytes and spans. -/
@[reducible] def bare (a b q k f : Int) : SG := ⟨a, b, q, k, f, 0, 0, false, noS, noS⟩
set_option maxRecDepth 100000 in
set_option maxHeartbeats 8000000 in
theorem law_resets_no (s : SG) (n c : Nat) (A : Option Addr) (hd : s.da = .slice A n c) (hn : n ≤ 140737488355328) (hq : U32 s.sq) (h4 : hasB s.fl 4 = true) (w : World) :
    Calls Try.prog 12 #[s.v] w fun e w' => e = .returned (.bool true) ∧ Below w.heap.size w w' := by
  have T := Lib.hid (fun W => treset s n c A hd hn W)
  have R := Lib.hid (fun W => rreset s n c A hd hn hq W)
  have Hk := Lib.hid h4
  clear hd h4
  go_enter Try.func12, Try.ntmps12
  go_upto_region 1 with (fail)
  refine box1 (s := s) (motive := fun X => Code.wp Try.prog _ _ _ X) ?_
  intro X hB hX hs
  go_wp2_with fail
  refine (tawake _).mono ?_
  rintro e w1 ⟨rfl, hb1⟩
  have hs1 := hs.mono hb1
  have hB1 := below_step hB hB.size hb1
  clear hs hB hb1
  go_wp2_with ((with_reducible refine at_slot 14 ?_); refine wpList_loadB rfl 67 (.tmp 1) rfl hs1 rfl Try.underlying67 rfl SG.info ?_)
  refine (T.out _).mono ?_
  rintro e w2 ⟨rfl, hb2⟩
  rw [Hk.out, if_pos rfl, show SG.zero = bare 0 0 0 0 0 from rfl]
  have hs2 := (hs1.mono hb2).alloc (.cells (bare 0 0 0 0 0).cells 67)
  have hr2 : Blk (w2.alloc (.cells (bare 0 0 0 0 0).cells 67)) w2.heap.size 67 (bare 0 0 0 0 0).cells := Blk.new _ _ _ _ rfl
  have hB2 := below_step (below_step hB1 hB1.size hb2) (Nat.le_trans hB1.size hb2.size) (below_alloc w2 (.cells (bare 0 0 0 0 0).cells 67))
  clear hs1 hb2 hB1
  go_wp2_with ((with_reducible refine at_slot 19 ?_); refine wpList_loadB rfl 67 (.tmp 1) rfl hs2 rfl Try.underlying67 rfl SG.info ?_)
  refine (R.out _).mono ?_
  rintro e w3 ⟨rfl, hb3⟩
  rw [Hk.out, if_pos rfl, show SG.zero = bare 0 0 0 0 0 from rfl]
  have hs3 := (hs2.mono hb3).alloc (.cells (bare 0 0 0 0 0).cells 67)
  have hr3 := (hr2.mono hb3).alloc (.cells (bare 0 0 0 0 0).cells 67)
  have hq3 : Blk (w3.alloc (.cells (bare 0 0 0 0 0).cells 67)) w3.heap.size 67 (bare 0 0 0 0 0).cells := Blk.new _ _ _ _ rfl
  have hB3 := below_step (below_step hB2 hB2.size hb3) (Nat.le_trans hB2.size hb3.size) (below_alloc w3 (.cells (bare 0 0 0 0 0).cells 67))
  clear hs2 hr2 hb3 hB2
  go_wp2_with (first | ((with_reducible refine at_slot 23 ?_); refine wpList_loadB rfl 67 (.tmp 4) rfl hr3 rfl Try.underlying67 rfl SG.info ?_) | ((with_reducible refine at_slot 24 ?_); refine wpList_loadB rfl 67 (.tmp 6) rfl hq3 rfl Try.underlying67 rfl SG.info ?_))
  refine (rsame (bare 0 0 0 0 0) (bare 0 0 0 0 0) [] _ rfl rfl rfl rfl rfl rfl rfl rfl none none 0 0 rfl rfl (Rd.nil _) (Rd.nil _)).mono ?_
  rintro e w4 ⟨rfl, hb4⟩
  have hs4 := hs3.mono hb4
  have hB4 := below_step hB3 hB3.size hb4
  clear hs3 hr3 hq3 hb4 hB3
  have H4 := rhas4 s w4
  rw [Hk.out] at H4
  have H := Lib.hid H4
  clear H4
  go_wp2_with ((with_reducible refine at_slot 37 ?_); refine wpList_loadB rfl 67 (.tmp 1) rfl hs4 rfl Try.underlying67 rfl SG.info ?_)
  refine H.out.mono ?_
  rintro e w5 ⟨rfl, hb5⟩
  have hB5 := below_step hB4 hB4.size hb5
  clear hs4
  go_wp2
  go_ret
  exact ⟨rfl, hB5⟩
set_option maxRecDepth 100000 in
set_option maxHeartbeats 8000000 in
theorem law_resets_yes (s : SG) (n c : Nat) (A : Option Addr) (hd : s.da = .slice A n c) (hn : n ≤ 140737488355328) (hq : U32 s.sq) (h4 : hasB s.fl 4 = false) (q k f : Int) (hR : rstS s n = bare s.too s.fr q k f) (hf : hasB f 4 = true) (w : World) :
    Calls Try.prog 12 #[s.v] w fun e w' => e = .returned (.bool true) ∧ Below w.heap.size w w' := by
  have T := Lib.hid (fun W => treset s n c A hd hn W)
  have R := Lib.hid (fun W => rreset s n c A hd hn hq W)
  have T2 := Lib.hid (fun W => treset (bare s.too s.fr q k f) 0 0 none rfl (by decide) W)
  have Hk := Lib.hid h4
  have HR := Lib.hid hR
  have Hf := Lib.hid hf
  clear hd h4 hR hf
  go_enter Try.func12, Try.ntmps12
  go_upto_region 1 with (fail)
  refine box1 (s := s) (motive := fun X => Code.wp Try.prog _ _ _ X) ?_
  intro X hB hX hs
  go_wp2_with fail
  refine (tawake _).mono ?_
  rintro e w1 ⟨rfl, hb1⟩
  have hs1 := hs.mono hb1
  have hB1 := below_step hB hB.size hb1
  clear hs hB hb1
  go_wp2_with ((with_reducible refine at_slot 14 ?_); refine wpList_loadB rfl 67 (.tmp 1) rfl hs1 rfl Try.underlying67 rfl SG.info ?_)
  refine (T.out _).mono ?_
  rintro e w2 ⟨rfl, hb2⟩
  rw [Hk.out, if_neg (by decide), HR.out]
  have hs2 := (hs1.mono hb2).alloc (.cells (bare s.too s.fr q k f).cells 67)
  have hr2 : Blk (w2.alloc (.cells (bare s.too s.fr q k f).cells 67)) w2.heap.size 67 (bare s.too s.fr q k f).cells := Blk.new _ _ _ _ rfl
  have hB2 := below_step (below_step hB1 hB1.size hb2) (Nat.le_trans hB1.size hb2.size) (below_alloc w2 (.cells (bare s.too s.fr q k f).cells 67))
  clear hs1 hb2 hB1
  go_wp2_with ((with_reducible refine at_slot 19 ?_); refine wpList_loadB rfl 67 (.tmp 1) rfl hs2 rfl Try.underlying67 rfl SG.info ?_)
  refine (R.out _).mono ?_
  rintro e w3 ⟨rfl, hb3⟩
  rw [Hk.out, if_neg (by decide), HR.out]
  have hs3 := (hs2.mono hb3).alloc (.cells (bare s.too s.fr q k f).cells 67)
  have hr3 := (hr2.mono hb3).alloc (.cells (bare s.too s.fr q k f).cells 67)
  have hq3 : Blk (w3.alloc (.cells (bare s.too s.fr q k f).cells 67)) w3.heap.size 67 (bare s.too s.fr q k f).cells := Blk.new _ _ _ _ rfl
  have hB3 := below_step (below_step hB2 hB2.size hb3) (Nat.le_trans hB2.size hb3.size) (below_alloc w3 (.cells (bare s.too s.fr q k f).cells 67))
  clear hs2 hr2 hb3 hB2
  go_wp2_with (first | ((with_reducible refine at_slot 23 ?_); refine wpList_loadB rfl 67 (.tmp 4) rfl hr3 rfl Try.underlying67 rfl SG.info ?_) | ((with_reducible refine at_slot 24 ?_); refine wpList_loadB rfl 67 (.tmp 6) rfl hq3 rfl Try.underlying67 rfl SG.info ?_))
  refine (rsame (bare s.too s.fr q k f) (bare s.too s.fr q k f) [] _ rfl rfl rfl rfl rfl rfl rfl rfl none none 0 0 rfl rfl (Rd.nil _) (Rd.nil _)).mono ?_
  rintro e w4 ⟨rfl, hb4⟩
  have hs4 := hs3.mono hb4
  have hr4 := hr3.mono hb4
  have hB4 := below_step hB3 hB3.size hb4
  clear hs3 hr3 hq3 hb4 hB3
  have H4 := rhas4 s w4
  rw [Hk.out] at H4
  have H := Lib.hid H4
  clear H4
  go_wp2_with ((with_reducible refine at_slot 37 ?_); refine wpList_loadB rfl 67 (.tmp 1) rfl hs4 rfl Try.underlying67 rfl SG.info ?_)
  refine H.out.mono ?_
  rintro e w5 ⟨rfl, hb5⟩
  have hs5 := hs4.mono hb5
  have hr5 := hr4.mono hb5
  have hB5 := below_step hB4 hB4.size hb5
  clear hs4 hr4 hb5 hB4
  go_wp2_with ((with_reducible refine at_slot 43 ?_); refine wpList_loadB rfl 67 (.tmp 4) rfl hr5 rfl Try.underlying67 rfl SG.info ?_)
  refine (T2.out _).mono ?_
  rintro e w6 ⟨rfl, hb6⟩
  rw [show hasB (bare s.too s.fr q k f).fl 4 = true from Hf.out, if_pos rfl, show SG.zero = bare 0 0 0 0 0 from rfl]
  have hs6 := (hs5.mono hb6).alloc (.cells (bare 0 0 0 0 0).cells 67)
  have hr6 := (hr5.mono hb6).alloc (.cells (bare 0 0 0 0 0).cells 67)
  have hB6 := below_step (below_step hB5 hB5.size hb6) (Nat.le_trans hB5.size hb6.size) (below_alloc w6 (.cells (bare 0 0 0 0 0).cells 67))
  have s0 := hs6.sg.1
  have s1 := hs6.sg.2.1
  have r0 : (w6.alloc (.cells (bare 0 0 0 0 0).cells 67)).cell? ⟨w2.heap.size, 0, none⟩ = some (.int .i64 s.too) := hr6.sg.1
  have r1 : (w6.alloc (.cells (bare 0 0 0 0 0).cells 67)).cell? ⟨w2.heap.size, 1, none⟩ = some (.int .i64 s.fr) := hr6.sg.2.1
  have r9 : (w6.alloc (.cells (bare 0 0 0 0 0).cells 67)).cell? ⟨w2.heap.size, 9, none⟩ = some (.slice none 0 0) := hr6.sg.2.2.2.2.2.2.2.2.2
  clear hs5 hr5 hb6 hB5 hs6 hr6
  go_wp2
  go_ret
  exact ⟨rfl, hB6⟩
theorem law_resets (s : SG) (n c : Nat) (A : Option Addr) (hd : s.da = .slice A n c) (hn : n ≤ 140737488355328) (hq : U32 s.sq) (w : World) :
    Calls Try.prog 12 #[s.v] w fun e w' => e = .returned (.bool true) ∧ Below w.heap.size w w' := by
  cases h4 : hasB s.fl 4 with
  | true => exact law_resets_no s n c A hd hn hq h4 w
  | false =>
    cases h16 : hasB s.fl 16 with
    | true => exact law_resets_yes s n c A hd hn hq h4 s.ak 0 4 (by simp [rstS, h16]) (by decide) w
    | false => exact law_resets_yes s n c A hd hn hq h4 0 _ 20 (by simp only [rstS, h16]; rfl) (by decide) w
end Go.Proofs.Ytbhdojpgjmbogaa
