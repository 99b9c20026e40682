/- TcpSizes: the walk: it answers true. -/
import Derived.Test.YtbhdojpgjmbogaaLResets
namespace Go.Proofs.Ytbhdojpgjmbogaa
open Go.RowKit Go.Shelf
set_option maxRecDepth 100000 in
set_option maxHeartbeats 8000000 in
theorem law_sizes_out (s : SG) (n c : Nat) (A : Option Addr) (hd : s.da = .slice A n c) (ho : s.fl < 0 ∨ 31 < s.fl) (w : World) :
    Calls Try.prog 14 #[s.v] w fun e w' => e = .returned (.bool true) ∧ Below w.heap.size w w' := by
  have Hd := Lib.hid hd
  clear hd
  go_enter Try.func14, Try.ntmps14
  go_upto_region 1 with (fail)
  refine box1 (s := s) (motive := fun X => Code.wp Try.prog _ _ _ X) ?_
  intro X hB hX hs
  go_wp2_with fail
  refine (tawake _).mono ?_
  rintro e w1 ⟨rfl, hb1⟩
  have hs1 := hs.mono hb1
  have hB1 := below_step hB hB.size hb1
  clear hs hB hb1
  obtain ⟨-, -, -, -, c4, -, -, -, -, c9⟩ := hs1.sg
  rw [Hd.out] at c9
  by_cases h1 : s.fl < 0
  · have g1 : decide (s.fl < 0) = true := by simpa using h1
    clear ho h1
    go_wp2
    go_ret
    exact ⟨rfl, hB1⟩
  · have g1 : decide (s.fl < 0) = false := by simpa using h1
    have g2 : decide (31 < s.fl) = true := by simp; omega
    clear ho h1
    go_wp2
    go_ret
    exact ⟨rfl, hB1⟩
set_option maxRecDepth 100000 in
set_option maxHeartbeats 40000000 in
theorem law_sizes_no (s : SG) (n c : Nat) (A : Option Addr) (hd : s.da = .slice A n c) (hn : n ≤ 140737488355328) (hq : U32 s.sq) (h0 : 0 ≤ s.fl) (h31 : s.fl ≤ 31) (hR : (if hasB s.fl 4 then SG.zero else rstS s n) = bare 0 0 0 0 0) (hI : (!hasB s.fl 4) = false) (b1 b2 : Bool) (e1 : (s.fl % 2 == 1) = b1) (e2 : (s.fl / 2 % 2 == 1) = b2)
    (w : World) : Calls Try.prog 14 #[s.v] w fun e w' => e = .returned (.bool true) ∧ Below w.heap.size w w' := by
  have T := Lib.hid (fun W => treset s n c A hd hn W)
  have S := Lib.hid (fun W => tsize s n c A hd hn W)
  have Hd := Lib.hid hd
  have g1 : decide (s.fl < 0) = false := by simp; omega
  have g2 : decide (31 < s.fl) = false := by simp; omega
  have hsz : sizeN s.fl n = n + (if b1 then 1 else 0) + (if b2 then 1 else 0) := by
    unfold sizeN
    rw [← e1, ← e2]
    have k1 : s.fl % 2 = 0 ∨ s.fl % 2 = 1 := by omega
    have k2 : s.fl / 2 % 2 = 0 ∨ s.fl / 2 % 2 = 1 := by omega
    rcases k1 with k1 | k1 <;> rcases k2 with k2 | k2 <;> simp [k1, k2]
  have HS := Lib.hid hsz
  have HQ := Lib.hid hq
  have HR := Lib.hid hR
  have HI := Lib.hid hI
  clear hR hI
  clear hd hsz hq
  go_enter Try.func14, Try.ntmps14
  go_upto_region 1 with (fail)
  refine box1 (s := s) (motive := fun X => Code.wp Try.prog _ _ _ X) ?_
  intro X hB hX hs
  go_wp2_with fail
  refine (tawake _).mono ?_
  rintro e w1 ⟨rfl, hb1⟩
  have hs1 := hs.mono hb1
  have hB1 := below_step hB hB.size hb1
  clear hs hB hb1
  obtain ⟨-, -, -, -, c4, -, -, -, -, c9⟩ := hs1.sg
  rw [Hd.out] at c9
  cases b1 <;> cases b2
  all_goals
    simp only [Bool.false_eq_true, if_false, if_true] at HS
    go_wp2_with ((with_reducible refine at_slot 34 ?_); refine wpList_loadB rfl 67 (.tmp 1) rfl hs1 rfl Try.underlying67 rfl SG.info ?_)
    refine (T.out _).mono ?_
    rintro e w2 ⟨rfl, hb2⟩
    rw [HR.out, HI.out]
    have hs2 := (hs1.mono hb2).alloc (.cells (bare 0 0 0 0 0).cells 67)
    have hr2 : Blk (w2.alloc (.cells (bare 0 0 0 0 0).cells 67)) w2.heap.size 67 (bare 0 0 0 0 0).cells := Blk.new _ _ _ _ rfl
    have hB2 := below_step (below_step hB1 hB1.size hb2) (Nat.le_trans hB1.size hb2.size) (below_alloc w2 (.cells (bare 0 0 0 0 0).cells 67))
    obtain ⟨s0, s1, s2, s3, s4, s5, s6, s7, s8, s9⟩ := hs2.sg
    have r2 : (w2.alloc (.cells (bare 0 0 0 0 0).cells 67)).cell? ⟨w2.heap.size, 2, none⟩ = some (.int .u32 (bare 0 0 0 0 0).sq) := hr2.sg.2.2.1
    have r3 : (w2.alloc (.cells (bare 0 0 0 0 0).cells 67)).cell? ⟨w2.heap.size, 3, none⟩ = some (.int .u32 (bare 0 0 0 0 0).ak) := hr2.sg.2.2.2.1
    dsimp only at r2 r3
    clear hs1 hb2 hB1 hr2 c4 c9
    go_wp2_with fail
    refine (S.out _).mono ?_
    rintro e w3 ⟨rfl, hb3⟩
    rw [HS.out]
    clear s0 s1 s2 s3 s4 s5 s6 s7 s8 s9 r2 r3
    (try simp only [Int.add_zero])
    go_wp2
    go_ret
    exact ⟨rfl, below_step hB2 hB2.size hb3⟩
set_option maxRecDepth 100000 in
set_option maxHeartbeats 40000000 in
theorem law_sizes_ack (s : SG) (n c : Nat) (A : Option Addr) (hd : s.da = .slice A n c) (hn : n ≤ 140737488355328) (hq : U32 s.sq) (h0 : 0 ≤ s.fl) (h31 : s.fl ≤ 31) (hR : (if hasB s.fl 4 then SG.zero else rstS s n) = bare s.too s.fr s.ak 0 4) (hI : (!hasB s.fl 4) = true) (m0 : (s.fl / 16 % 2 == 0) = false) (m1 : (s.fl / 16 % 2 == 1) = true) (b1 b2 : Bool) (e1 : (s.fl % 2 == 1) = b1) (e2 : (s.fl / 2 % 2 == 1) = b2)
    (w : World) : Calls Try.prog 14 #[s.v] w fun e w' => e = .returned (.bool true) ∧ Below w.heap.size w w' := by
  have T := Lib.hid (fun W => treset s n c A hd hn W)
  have S := Lib.hid (fun W => tsize s n c A hd hn W)
  have Hd := Lib.hid hd
  have g1 : decide (s.fl < 0) = false := by simp; omega
  have g2 : decide (31 < s.fl) = false := by simp; omega
  have hsz : sizeN s.fl n = n + (if b1 then 1 else 0) + (if b2 then 1 else 0) := by
    unfold sizeN
    rw [← e1, ← e2]
    have k1 : s.fl % 2 = 0 ∨ s.fl % 2 = 1 := by omega
    have k2 : s.fl / 2 % 2 = 0 ∨ s.fl / 2 % 2 = 1 := by omega
    rcases k1 with k1 | k1 <;> rcases k2 with k2 | k2 <;> simp [k1, k2]
  have HS := Lib.hid hsz
  have HQ := Lib.hid hq
  have HR := Lib.hid hR
  have HI := Lib.hid hI
  clear hR hI
  clear hd hsz hq
  go_enter Try.func14, Try.ntmps14
  go_upto_region 1 with (fail)
  refine box1 (s := s) (motive := fun X => Code.wp Try.prog _ _ _ X) ?_
  intro X hB hX hs
  go_wp2_with fail
  refine (tawake _).mono ?_
  rintro e w1 ⟨rfl, hb1⟩
  have hs1 := hs.mono hb1
  have hB1 := below_step hB hB.size hb1
  clear hs hB hb1
  obtain ⟨-, -, -, -, c4, -, -, -, -, c9⟩ := hs1.sg
  rw [Hd.out] at c9
  cases b1 <;> cases b2
  all_goals
    simp only [Bool.false_eq_true, if_false, if_true] at HS
    go_wp2_with ((with_reducible refine at_slot 34 ?_); refine wpList_loadB rfl 67 (.tmp 1) rfl hs1 rfl Try.underlying67 rfl SG.info ?_)
    refine (T.out _).mono ?_
    rintro e w2 ⟨rfl, hb2⟩
    rw [HR.out, HI.out]
    have hs2 := (hs1.mono hb2).alloc (.cells (bare s.too s.fr s.ak 0 4).cells 67)
    have hr2 : Blk (w2.alloc (.cells (bare s.too s.fr s.ak 0 4).cells 67)) w2.heap.size 67 (bare s.too s.fr s.ak 0 4).cells := Blk.new _ _ _ _ rfl
    have hB2 := below_step (below_step hB1 hB1.size hb2) (Nat.le_trans hB1.size hb2.size) (below_alloc w2 (.cells (bare s.too s.fr s.ak 0 4).cells 67))
    obtain ⟨s0, s1, s2, s3, s4, s5, s6, s7, s8, s9⟩ := hs2.sg
    have r2 : (w2.alloc (.cells (bare s.too s.fr s.ak 0 4).cells 67)).cell? ⟨w2.heap.size, 2, none⟩ = some (.int .u32 (bare s.too s.fr s.ak 0 4).sq) := hr2.sg.2.2.1
    have r3 : (w2.alloc (.cells (bare s.too s.fr s.ak 0 4).cells 67)).cell? ⟨w2.heap.size, 3, none⟩ = some (.int .u32 (bare s.too s.fr s.ak 0 4).ak) := hr2.sg.2.2.2.1
    dsimp only at r2 r3
    clear hs1 hb2 hB1 hr2 c4 c9
    go_wp2_with fail
    refine (S.out _).mono ?_
    rintro e w3 ⟨rfl, hb3⟩
    rw [HS.out]
    clear s0 s1 s2 s3 s4 s5 s6 s7 s8 s9 r2 r3
    (try simp only [Int.add_zero])
    go_wp2
    go_ret
    exact ⟨rfl, below_step hB2 hB2.size hb3⟩
set_option maxRecDepth 100000 in
set_option maxHeartbeats 40000000 in
theorem law_sizes_seq (s : SG) (n c : Nat) (A : Option Addr) (hd : s.da = .slice A n c) (hn : n ≤ 140737488355328) (hq : U32 s.sq) (h0 : 0 ≤ s.fl) (h31 : s.fl ≤ 31) (K : Int) (hR : (if hasB s.fl 4 then SG.zero else rstS s n) = bare s.too s.fr 0 K 20) (hI : (!hasB s.fl 4) = true) (m0 : (s.fl / 16 % 2 == 0) = true) (m1 : (s.fl / 16 % 2 == 1) = false) (hdf : dif K s.sq = sizeN s.fl n) (b1 b2 : Bool) (e1 : (s.fl % 2 == 1) = b1) (e2 : (s.fl / 2 % 2 == 1) = b2)
    (w : World) : Calls Try.prog 14 #[s.v] w fun e w' => e = .returned (.bool true) ∧ Below w.heap.size w w' := by
  have T := Lib.hid (fun W => treset s n c A hd hn W)
  have S := Lib.hid (fun W => tsize s n c A hd hn W)
  have Hd := Lib.hid hd
  have g1 : decide (s.fl < 0) = false := by simp; omega
  have g2 : decide (31 < s.fl) = false := by simp; omega
  have hsz : sizeN s.fl n = n + (if b1 then 1 else 0) + (if b2 then 1 else 0) := by
    unfold sizeN
    rw [← e1, ← e2]
    have k1 : s.fl % 2 = 0 ∨ s.fl % 2 = 1 := by omega
    have k2 : s.fl / 2 % 2 = 0 ∨ s.fl / 2 % 2 = 1 := by omega
    rcases k1 with k1 | k1 <;> rcases k2 with k2 | k2 <;> simp [k1, k2]
  have HS := Lib.hid hsz
  have HQ := Lib.hid hq
  have HR := Lib.hid hR
  have HI := Lib.hid hI
  clear hR hI
  have HDF := Lib.hid hdf
  clear hdf
  clear hd hsz hq
  go_enter Try.func14, Try.ntmps14
  go_upto_region 1 with (fail)
  refine box1 (s := s) (motive := fun X => Code.wp Try.prog _ _ _ X) ?_
  intro X hB hX hs
  go_wp2_with fail
  refine (tawake _).mono ?_
  rintro e w1 ⟨rfl, hb1⟩
  have hs1 := hs.mono hb1
  have hB1 := below_step hB hB.size hb1
  clear hs hB hb1
  obtain ⟨-, -, -, -, c4, -, -, -, -, c9⟩ := hs1.sg
  rw [Hd.out] at c9
  cases b1 <;> cases b2
  all_goals
    simp only [Bool.false_eq_true, if_false, if_true] at HS
    go_wp2_with ((with_reducible refine at_slot 34 ?_); refine wpList_loadB rfl 67 (.tmp 1) rfl hs1 rfl Try.underlying67 rfl SG.info ?_)
    refine (T.out _).mono ?_
    rintro e w2 ⟨rfl, hb2⟩
    rw [HR.out, HI.out]
    have hs2 := (hs1.mono hb2).alloc (.cells (bare s.too s.fr 0 K 20).cells 67)
    have hr2 : Blk (w2.alloc (.cells (bare s.too s.fr 0 K 20).cells 67)) w2.heap.size 67 (bare s.too s.fr 0 K 20).cells := Blk.new _ _ _ _ rfl
    have hB2 := below_step (below_step hB1 hB1.size hb2) (Nat.le_trans hB1.size hb2.size) (below_alloc w2 (.cells (bare s.too s.fr 0 K 20).cells 67))
    obtain ⟨s0, s1, s2, s3, s4, s5, s6, s7, s8, s9⟩ := hs2.sg
    have r2 : (w2.alloc (.cells (bare s.too s.fr 0 K 20).cells 67)).cell? ⟨w2.heap.size, 2, none⟩ = some (.int .u32 (bare s.too s.fr 0 K 20).sq) := hr2.sg.2.2.1
    have r3 : (w2.alloc (.cells (bare s.too s.fr 0 K 20).cells 67)).cell? ⟨w2.heap.size, 3, none⟩ = some (.int .u32 (bare s.too s.fr 0 K 20).ak) := hr2.sg.2.2.2.1
    dsimp only at r2 r3
    clear hs1 hb2 hB1 hr2 c4 c9
    have hdd := fun W => tdiff K s.sq W
    rw [HDF.out, HS.out] at hdd
    (try simp only [Int.add_zero] at hdd)
    have HDD := Lib.hid hdd
    clear hdd
    go_wp2_with fail
    refine (HDD.out _).mono ?_
    rintro e w' ⟨rfl, rfl⟩
    go_wp2_with fail
    refine (S.out _).mono ?_
    rintro e w3 ⟨rfl, hb3⟩
    rw [HS.out]
    clear s0 s1 s2 s3 s4 s5 s6 s7 s8 s9 r2 r3
    (try simp only [Int.add_zero])
    go_wp2
    go_ret
    exact ⟨rfl, below_step hB2 hB2.size hb3⟩
theorem law_sizes (s : SG) (n c : Nat) (A : Option Addr) (hd : s.da = .slice A n c) (hn : n ≤ 140737488355328) (hn2 : n ≤ 2147480000) (hq : U32 s.sq) (w : World) :
    Calls Try.prog 14 #[s.v] w fun e w' => e = .returned (.bool true) ∧ Below w.heap.size w w' := by
  by_cases ho : s.fl < 0 ∨ 31 < s.fl
  · exact law_sizes_out s n c A hd ho w
  · cases h4 : hasB s.fl 4 with
    | true => exact law_sizes_no s n c A hd hn hq (by omega) (by omega) (by rw [h4]; rfl) (by rw [h4]; rfl) _ _ rfl rfl w
    | false =>
      cases h16 : hasB s.fl 16 with
      | true =>
        have h16' : s.fl / 16 % 2 = 1 := by simpa [hasB] using h16
        exact law_sizes_ack s n c A hd hn hq (by omega) (by omega) (by rw [h4]; simp [rstS, h16]) (by rw [h4]; rfl) (by simp; omega) (by simp; omega) _ _ rfl rfl w
      | false =>
        have h16' : ¬ s.fl / 16 % 2 = 1 := by simpa [hasB] using h16
        obtain ⟨q0, q1⟩ := hq
        have z0 := sizeN_nonneg s.fl n
        have z1 : sizeN s.fl n ≤ n + 2 := by unfold sizeN; omega
        exact law_sizes_seq s n c A hd hn ⟨q0, q1⟩ (by omega) (by omega) ((s.sq + sizeN s.fl n) % 4294967296) (by rw [h4]; simp [rstS, h16]) (by rw [h4]; rfl) (by simp; omega) (by simp; omega) (by unfold dif; omega) _ _ rfl rfl w
end Go.Proofs.Ytbhdojpgjmbogaa
