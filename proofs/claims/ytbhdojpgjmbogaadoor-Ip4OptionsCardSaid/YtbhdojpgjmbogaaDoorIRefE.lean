/- packhorseref09.head and Encode. -/
import Derived.Test.YtbhdojpgjmbogaaDoorIEnc2
import Derived.Test.YtbhdojpgjmbogaaDoorIRefR
import Derived.Deep.MidRow
namespace Go.Proofs.YtbhdojpgjmbogaaDoor
open Go.RowKit Go.Shelf
theorem IP.cells_len (i : IP) : (Tryd.prog.info? 23).map (·.size) = some i.cells.toList.length := IP.info
theorem Blk.rangeS {w : World} {g : Nat} {p : PK} (h : Blk w g 26 p.cells) : w.rangeAt g 0 p.s.cells.toList := by
  intro j v hv
  rw [Nat.zero_add, Blk.cell h]
  match j, hv with
  | 0, hv => exact hv
  | 1, hv => exact hv
  | 2, hv => exact hv
  | 3, hv => exact hv
  | j + 4, hv => simp [IP.cells] at hv
theorem Blk.rangeD {w : World} {g : Nat} {p : PK} (h : Blk w g 26 p.cells) : w.rangeAt g 4 p.d.cells.toList := by
  intro j v hv
  rw [Blk.cell h]
  match j, hv with
  | 0, hv => exact hv
  | 1, hv => exact hv
  | 2, hv => exact hv
  | 3, hv => exact hv
  | j + 4, hv => simp [IP.cells] at hv
set_option maxRecDepth 100000 in
set_option maxHeartbeats 20000000 in
theorem rhead (p : PK) (o : List UInt8) (size S : Int) (w : World) (hok : p.Ok) (hop : Rd w p.op o) (h40 : o.length ≤ 40) (hz0 : 0 ≤ size) (hz1 : size ≤ 65535) (hS0 : 0 ≤ S) (hS1 : S ≤ 65535) :
    Calls Tryd.prog 25 #[p.v, .int .i64 size, .int .i64 S] w fun e w' => ∃ v', e = .returned v' ∧ Ow w' w.heap.size v' (ihL p o size S) ∧ Below w.heap.size w w' := by
  obtain ⟨ps, pd, ppr, ptl, pid, pts, wh, mo, pfo, pop⟩ := p
  dsimp only at hop
  obtain ⟨k1, k2, k3, k4, k5, k6⟩ := hok
  simp only [decide_eq_true_eq] at k1 k2 k3 k4 k5 k6
  obtain ⟨k10, k11⟩ := k1
  obtain ⟨k20, k21⟩ := k2
  obtain ⟨k30, k31⟩ := k3
  obtain ⟨k40, k41⟩ := k4
  obtain ⟨k50, k51⟩ := k5
  obtain ⟨Ao, co, eo, hco, hco2⟩ := hop.form
  obtain ⟨n, hn⟩ : ∃ n, n = o.length := ⟨_, rfl⟩
  rw [← hn] at eo hco h40
  have HO := Lib.hid eo
  have HN := Lib.hid hn
  clear eo hn k6
  go_enter Tryd.func25, Tryd.ntmps25
  go_upto_region 1 with (fail)
  refine boxP (p := ⟨ps, pd, ppr, ptl, pid, pts, wh, mo, pfo, pop⟩) (motive := fun X => Code.wp Tryd.prog _ _ _ X) ?_
  intro X hB hX hs
  have hopX := hop.mono hB
  obtain ⟨c8, c9, c10, c11, c12, c13, c14, c15⟩ := hs.pk
  dsimp only at c8 c9 c10 c11 c12 c13 c14 c15
  rw [HO.out] at c15 hopX
  have e1 : (64 + (20 + (n : Int)) / 4) % 256 = 64 + (20 + (n : Int)) / 4 := by omega
  go_wp2_with fail
  have hh0 : Rd (X.alloc (.cells #[.int .u8 (64 + (20 + (n : Int)) / 4), .int .u8 pts] 5)) (.slice (some ⟨X.heap.size, 0, none⟩) 2 2) [by8 (64 + (20 + (n : Int)) / 4), by8 pts] := by
    refine rd_at X _ _ 2 _ ?_ rfl (by omega) rfl
    simp only [List.map_cons, List.map_nil, bv_by8]
    rw [e1, Int.emod_eq_of_lt k20 (by omega)]
  refine (rput2 _ _ _ _ hh0 (by simp) hz0 (by omega)).mono ?_
  rintro e w2 ⟨v2, rfl, ho2, hb2⟩
  have hB12 := below_step (below_alloc X (.cells #[.int .u8 (64 + (20 + (n : Int)) / 4), .int .u8 pts] 5)) (by simp) hb2
  have hs2 := hs.mono hB12
  obtain ⟨-, -, d10, -, -, -, -, -⟩ := hs2.pk
  dsimp only at d10
  clear hh0 hb2 c8 c9 c10 c11 c12 c13 c14 c15 e1
  go_wp2_with fail
  refine (rput2 _ _ _ _ ho2.rd (by simp [p16_len]) k30 (by omega)).mono ?_
  rintro e w3 ⟨v3, rfl, ho3, hb3⟩
  have hB13 := below_step hB12 hB12.size hb3
  have hs3 := hs.mono hB13
  have hB3 := below_step hB hB.size hB13
  have hop3 := hop.mono hB3
  obtain ⟨c8, c9, c10, c11, c12, c13, c14, c15⟩ := hs3.pk
  dsimp only at c8 c9 c10 c11 c12 c13 c14 c15
  rw [HO.out] at c15
  clear hs2 d10 ho2 hb3 hB12 hs hopX
  obtain ⟨pf, hpf⟩ : ∃ pf : Nat, pfo / 8 = pf := ⟨(pfo / 8).toNat, by omega⟩
  have hpf1 : pf < 8192 := by omega
  have HPF := Lib.hid hpf
  obtain ⟨q, hq⟩ : ∃ q : Nat, q = pf + (if wh then 16384 else 0) := ⟨_, rfl⟩
  obtain ⟨r, hrr⟩ : ∃ r : Nat, r = q + (if mo then 8192 else 0) := ⟨_, rfl⟩
  have hfg : (PK.fg ⟨ps, pd, ppr, ptl, pid, pts, wh, mo, pfo, pop⟩) = (r : Int) := by
    unfold PK.fg
    dsimp only
    rw [hrr, hq, hpf]
    cases wh <;> cases mo <;> simp
  have hq2 : q < 24576 := by rw [hq]; cases wh <;> simp <;> omega
  have hr2 : r < 32768 := by rw [hrr, hq]; cases wh <;> cases mo <;> simp <;> omega
  have FG := Lib.hid hfg
  have HQ := Lib.hid hq
  have HR := Lib.hid hrr
  clear hq hrr hfg
  go_upto_if 33 with (fail)
  rw [hpf]
  clear hpf
  go_cut [9] from 34 to 35 (fun u wx => u = .int .i64 q ∧ w3 = wx)
  case first =>
    cases wh
    · have HQ2 := Lib.hid (show q = pf from HQ.out)
      go_wp2
      go_meet
      exact ⟨by rw [HQ2.out], rfl⟩
    · have HQ2 := Lib.hid (show q = pf + 16384 from HQ.out)
      go_wp2
      go_meet
      exact ⟨by rw [HQ2.out]; simp, rfl⟩
  case rest =>
  obtain ⟨rfl, rfl⟩ := hcut
  go_upto_if 37 with (fail)
  go_cut [9] from 38 to 39 (fun u wx => u = .int .i64 r ∧ w3 = wx)
  case first =>
    cases mo
    · have HR2 := Lib.hid (show r = q from HR.out)
      go_wp2
      go_meet
      exact ⟨by rw [HR2.out], rfl⟩
    · have HR2 := Lib.hid (show r = q + 8192 from HR.out)
      go_wp2
      go_meet
      exact ⟨by rw [HR2.out]; simp, rfl⟩
  case rest =>
  obtain ⟨rfl, rfl⟩ := hcut
  clear c8 c9 c10 c11 c12 c13 c14 c15
  go_wp2_with fail
  refine (rput2 _ _ _ _ ho3.rd (by simp [p16_len]) (by omega) (by omega)).mono ?_
  rintro e w4 ⟨v4, rfl, ho4, hb4⟩
  have hB4 := below_step hB3 hB3.size hb4
  have hs4 := hs3.mono hb4
  have z34 := hb4.size
  obtain ⟨c8, c9, -, -, -, -, -, -⟩ := hs4.pk
  dsimp only at c8 c9
  clear ho3 hb4
  have hwt : ptl % 256 = ptl := by omega
  have hwp : ppr % 256 = ppr := by omega
  have hn2 : Rd (w4.alloc (.cells #[.int .u8 ptl, .int .u8 ppr] 5)) (.slice (some ⟨w4.heap.size, 0, none⟩) 2 2) [by8 ptl, by8 ppr] := by
    refine rd_at w4 _ _ 2 _ ?_ rfl (by omega) rfl
    simp only [List.map_cons, List.map_nil, bv_by8]
    rw [hwt, hwp]
  clear hwt hwp
  have hB45 := below_alloc w4 (.cells #[.int .u8 ptl, .int .u8 ppr] 5)
  have ho4' := ho4.mono hB45
  go_upto_region 12 with ((with_reducible refine at_slot 51 ?_); refine wpList_app rfl (.tmp 43) (.tmp 50) rfl w3.heap.size ho4' hn2 rfl rfl (by simp [p16_len]) (by simp; omega) ?_; intro v5 w5 ho5 hb5 hg5; clear hg5)
  have hB35 : Below w3.heap.size w4 w5 := (hB45.mono z34).trans hb5
  have hB5 := hB4.trans (hB35.mono hB3.size)
  have hs5 := hs4.keep hB35 hs3.lt
  clear hn2 hB45 ho4' ho4 hb5 hs4 c8 c9
  go_wp2_with fail
  refine (rput2 _ _ _ _ ho5.rd (by simp [p16_len]) hS0 (by omega)).mono ?_
  rintro e w6 ⟨v6, rfl, ho6, hb6⟩
  have hB6 := below_step hB5 hB5.size hb6
  have hs6 := hs5.mono hb6
  have hrS := hs6.rangeS
  clear ho5 hs5
  go_wp2_with ((with_reducible refine at_slot 57 ?_); refine wpList_load_mid rfl 23 (.tmp 56) rfl w.heap.size 0 rfl _ _ hrS Tryd.underlying23 rfl (IP.cells_len _) ?_)
  refine (rip _ _ ps _ _ hb6.size ho6 (by simp [p16_len])).mono ?_
  rintro e w7 ⟨v7, rfl, ho7, hb7⟩
  have hlt : w.heap.size < w5.heap.size := by have := hs3.lt; have := hB35.size; omega
  have hs7 := hs6.keep hb7 hlt
  have hb57 := hb6.trans hb7
  have hB7 := hB5.trans (hb57.mono hB5.size)
  have hrD := hs7.rangeD
  clear hrS hb6 hs6 ho6 hb7 hB6
  go_wp2_with ((with_reducible refine at_slot 61 ?_); refine wpList_load_mid rfl 23 (.tmp 60) rfl w.heap.size 4 rfl _ _ hrD Tryd.underlying23 rfl (IP.cells_len _) ?_)
  refine (rip _ _ pd _ _ hb57.size ho7 (by simp [p16_len, IP.l])).mono ?_
  rintro e w8 ⟨v8, rfl, ho8, hb8⟩
  have hs8 := hs7.keep hb8 hlt
  have hb58 := hb57.trans hb8
  have hB8 := hB5.trans (hb58.mono hB5.size)
  have hop8 := hop.mono hB8
  have c15 := hs8.pk.2.2.2.2.2.2.2
  dsimp only at c15
  rw [HO.out] at c15 hop8
  clear hrD hs7 ho7 hb8 hb57 hB7 hs3
  go_wp2_with ((with_reducible refine at_slot 66 ?_); refine wpList_app rfl (.tmp 63) (.tmp 65) rfl w5.heap.size ho8 hop8 rfl rfl (by rw [← HN.out]; simp [p16_len, IP.l]; omega) hb58.size ?_; intro v9 w9 ho9 hb9 hg9; clear hg9)
  go_ret
  refine ⟨_, rfl, ?_, hB8.trans (hb9.mono hB5.size)⟩
  have h := ho9.less hB5.size
  unfold ihL ihA
  rw [FG.out, ← HN.out]
  simpa [List.append_assoc] using h
set_option maxRecDepth 100000 in
set_option maxHeartbeats 20000000 in
theorem renc9_arg (p : PK) (v : Value) (w : World) (b : List UInt8) (hr : Rd w v b) (hno : p.argB = false) : Calls Tryd.prog 11 #[p.v, v] w (CEnd w [] 1) := by
  obtain ⟨ps, pd, ppr, ptl, pid, pts, wh, mo, pfo, pop⟩ := p
  obtain ⟨A, c, rfl, hc1, hc2⟩ := hr.form
  have key : (decide (ppr < 0) = true) ∨ (decide (ppr < 0) = false ∧ decide (255 < ppr) = true) ∨ (decide (ppr < 0) = false ∧ decide (255 < ppr) = false ∧ decide (pts < 0) = true) ∨ (decide (ppr < 0) = false ∧ decide (255 < ppr) = false ∧ decide (pts < 0) = false ∧ decide (255 < pts) = true) ∨ (decide (ppr < 0) = false ∧ decide (255 < ppr) = false ∧ decide (pts < 0) = false ∧ decide (255 < pts) = false ∧ decide (pid < 0) = true) ∨ (decide (ppr < 0) = false ∧ decide (255 < ppr) = false ∧ decide (pts < 0) = false ∧ decide (255 < pts) = false ∧ decide (pid < 0) = false ∧ decide (65535 < pid) = true) ∨ (decide (ppr < 0) = false ∧ decide (255 < ppr) = false ∧ decide (pts < 0) = false ∧ decide (255 < pts) = false ∧ decide (pid < 0) = false ∧ decide (65535 < pid) = false ∧ decide (ptl < 1) = true) ∨ (decide (ppr < 0) = false ∧ decide (255 < ppr) = false ∧ decide (pts < 0) = false ∧ decide (255 < pts) = false ∧ decide (pid < 0) = false ∧ decide (65535 < pid) = false ∧ decide (ptl < 1) = false ∧ decide (255 < ptl) = true) ∨ (decide (ppr < 0) = false ∧ decide (255 < ppr) = false ∧ decide (pts < 0) = false ∧ decide (255 < pts) = false ∧ decide (pid < 0) = false ∧ decide (65535 < pid) = false ∧ decide (ptl < 1) = false ∧ decide (255 < ptl) = false ∧ decide (pfo < 0) = true) ∨ (decide (ppr < 0) = false ∧ decide (255 < ppr) = false ∧ decide (pts < 0) = false ∧ decide (255 < pts) = false ∧ decide (pid < 0) = false ∧ decide (65535 < pid) = false ∧ decide (ptl < 1) = false ∧ decide (255 < ptl) = false ∧ decide (pfo < 0) = false ∧ decide (65528 < pfo) = true) ∨ (decide (ppr < 0) = false ∧ decide (255 < ppr) = false ∧ decide (pts < 0) = false ∧ decide (255 < pts) = false ∧ decide (pid < 0) = false ∧ decide (65535 < pid) = false ∧ decide (ptl < 1) = false ∧ decide (255 < ptl) = false ∧ decide (pfo < 0) = false ∧ decide (65528 < pfo) = false ∧ 0 ≤ pfo ∧ (pfo % 8 != 0) = true) := by
    rcases Bool.eq_false_or_eq_true (decide (ppr < 0)) with h | h0
    · exact .inl h
    refine .inr ?_
    rcases Bool.eq_false_or_eq_true (decide (255 < ppr)) with h | h1
    · exact .inl ⟨h0, h⟩
    refine .inr ?_
    rcases Bool.eq_false_or_eq_true (decide (pts < 0)) with h | h2
    · exact .inl ⟨h0, h1, h⟩
    refine .inr ?_
    rcases Bool.eq_false_or_eq_true (decide (255 < pts)) with h | h3
    · exact .inl ⟨h0, h1, h2, h⟩
    refine .inr ?_
    rcases Bool.eq_false_or_eq_true (decide (pid < 0)) with h | h4
    · exact .inl ⟨h0, h1, h2, h3, h⟩
    refine .inr ?_
    rcases Bool.eq_false_or_eq_true (decide (65535 < pid)) with h | h5
    · exact .inl ⟨h0, h1, h2, h3, h4, h⟩
    refine .inr ?_
    rcases Bool.eq_false_or_eq_true (decide (ptl < 1)) with h | h6
    · exact .inl ⟨h0, h1, h2, h3, h4, h5, h⟩
    refine .inr ?_
    rcases Bool.eq_false_or_eq_true (decide (255 < ptl)) with h | h7
    · exact .inl ⟨h0, h1, h2, h3, h4, h5, h6, h⟩
    refine .inr ?_
    rcases Bool.eq_false_or_eq_true (decide (pfo < 0)) with h | h8
    · exact .inl ⟨h0, h1, h2, h3, h4, h5, h6, h7, h⟩
    refine .inr ?_
    rcases Bool.eq_false_or_eq_true (decide (65528 < pfo)) with h | h9
    · exact .inl ⟨h0, h1, h2, h3, h4, h5, h6, h7, h8, h⟩
    refine .inr ?_
    have hf : 0 ≤ pfo := by have := of_decide_eq_false h8; omega
    refine ⟨h0, h1, h2, h3, h4, h5, h6, h7, h8, h9, hf, ?_⟩
    simp only [decide_eq_false_iff_not] at h0 h1 h2 h3 h4 h5 h6 h7 h8 h9
    have a1 : decide (0 ≤ ppr ∧ ppr ≤ 255) = true := decide_eq_true (by omega)
    have a2 : decide (0 ≤ pts ∧ pts ≤ 255) = true := decide_eq_true (by omega)
    have a3 : decide (0 ≤ pid ∧ pid ≤ 65535) = true := decide_eq_true (by omega)
    have a4 : decide (1 ≤ ptl ∧ ptl ≤ 255) = true := decide_eq_true (by omega)
    have a5 : decide (0 ≤ pfo ∧ pfo ≤ 65528) = true := decide_eq_true (by omega)
    simp only [PK.argB, a1, a2, a3, a4, a5, Bool.true_and] at hno
    simpa using hno
  clear hno
  go_enter Tryd.func11, Tryd.ntmps11
  go_upto_region 1 with (fail)
  refine boxP (p := ⟨ps, pd, ppr, ptl, pid, pts, wh, mo, pfo, pop⟩) (motive := fun X => Code.wp Tryd.prog _ _ _ X) ?_
  intro X hB hX hs
  obtain ⟨c8, c9, c10, c11, c12, c13, c14, c15⟩ := hs.pk
  dsimp only at c8 c9 c10 c11 c12 c13 c14 c15
  rcases key with ⟨q0⟩ | ⟨q0, q1⟩ | ⟨q0, q1, q2⟩ | ⟨q0, q1, q2, q3⟩ | ⟨q0, q1, q2, q3, q4⟩ | ⟨q0, q1, q2, q3, q4, q5⟩ | ⟨q0, q1, q2, q3, q4, q5, q6⟩ | ⟨q0, q1, q2, q3, q4, q5, q6, q7⟩ | ⟨q0, q1, q2, q3, q4, q5, q6, q7, q8⟩ | ⟨q0, q1, q2, q3, q4, q5, q6, q7, q8, q9⟩ | ⟨q0, q1, q2, q3, q4, q5, q6, q7, q8, q9, q10, q11⟩
  all_goals
    go_wp2
    go_ret2
    exact ⟨_, rfl, Ow.nil _ _, hB⟩
theorem arg_facts {p : PK} (h : p.Ok) : decide (p.pr < 0) = false ∧ decide (255 < p.pr) = false ∧ decide (p.ts < 0) = false ∧ decide (255 < p.ts) = false ∧ decide (p.id < 0) = false ∧ decide (65535 < p.id) = false ∧ decide (p.tl < 1) = false ∧ decide (255 < p.tl) = false ∧
    decide (p.fo < 0) = false ∧ decide (65528 < p.fo) = false ∧ 0 ≤ p.fo ∧ (p.fo % 8 != 0) = false := by
  obtain ⟨k1, k2, k3, k4, k5, k6⟩ := h
  simp only [decide_eq_true_eq] at k1 k2 k3 k4 k5 k6
  simp only [decide_eq_false_iff_not, bne_eq_false_iff_eq]
  omega
set_option maxRecDepth 100000 in
set_option maxHeartbeats 20000000 in
theorem renc9_more (p : PK) (o b : List UInt8) (v : Value) (w : World) (E : Int) (hok : p.Ok) (hop : Rd w p.op o) (hol : o.length ≤ 140737488355000) (hr : Rd w v b) (hbl : b.length ≤ 140737488355000)
    (hE : (optB9 o = false ∧ E = 92) ∨ (optB9 o = true ∧ 65535 < 20 + o.length + b.length ∧ E = 2)) : Calls Tryd.prog 11 #[p.v, v] w (CEnd w [] E) := by
  obtain ⟨q1, q2, q3, q4, q5, q6, q7, q8, q9, q10, q11, q12⟩ := arg_facts hok
  obtain ⟨ps, pd, ppr, ptl, pid, pts, wh, mo, pfo, pop⟩ := p
  dsimp only at hop q1 q2 q3 q4 q5 q6 q7 q8 q9 q10 q11 q12
  obtain ⟨Ao, co, eo, hco, hco2⟩ := hop.form
  obtain ⟨A, c, rfl, hc1, hc2⟩ := hr.form
  obtain ⟨n, hn⟩ : ∃ n, n = o.length := ⟨_, rfl⟩
  obtain ⟨m, hm⟩ : ∃ m, m = b.length := ⟨_, rfl⟩
  obtain ⟨B, hB0⟩ : ∃ B, B = okO o := ⟨_, rfl⟩
  have key : (B = false ∧ E = 92) ∨ (B = true ∧ decide (40 < (n : Int)) = true ∧ E = 92) ∨ (B = true ∧ decide (40 < (n : Int)) = false ∧ ((n : Int) % 4 != 0) = true ∧ E = 92) ∨
      (B = true ∧ decide (40 < (n : Int)) = false ∧ ((n : Int) % 4 != 0) = false ∧ decide (65535 < 20 + (n : Int) + (m : Int)) = true ∧ E = 2) := by
    simp only [optB9, ← hB0, ← hn, ← hm] at hE
    cases B
    · simp at hE ⊢
      exact hE
    · have e : (decide (n ≤ 40) && (n % 4 == 0)) = decide (n ≤ 40 ∧ n % 4 = 0) := by rw [Bool.eq_iff_iff]; simp
      rw [Bool.true_and, e] at hE
      simp only [decide_eq_true_eq, decide_eq_false_iff_not] at hE
      simp only [decide_eq_true_eq, decide_eq_false_iff_not, bne_iff_ne, ne_eq, bne_eq_false_iff_eq, Bool.true_eq_false, false_and, false_or, true_and]
      omega
  rw [← hn] at eo hco hol
  rw [← hm] at hr hc1 hbl ⊢
  have HO := Lib.hid eo
  have HB0 := Lib.hid hB0
  clear eo hn hm hE hB0
  go_enter Tryd.func11, Tryd.ntmps11
  go_upto_region 1 with (fail)
  refine boxP (p := ⟨ps, pd, ppr, ptl, pid, pts, wh, mo, pfo, pop⟩) (motive := fun X => Code.wp Tryd.prog _ _ _ X) ?_
  intro X hB hX hs
  have hopX := hop.mono hB
  obtain ⟨c8, c9, c10, c11, c12, c13, c14, c15⟩ := hs.pk
  dsimp only at c8 c9 c10 c11 c12 c13 c14 c15
  rw [HO.out] at c15 hopX
  go_wp2_with fail
  refine (rright _ o _ hopX).mono ?_
  rintro e w1 ⟨rfl, rfl⟩
  rw [← HB0.out]
  rcases key with ⟨rfl, rfl⟩ | ⟨rfl, k7, rfl⟩ | ⟨rfl, k7, k8, rfl⟩ | ⟨rfl, k7, k8, k9, rfl⟩
  all_goals
    go_wp2
    go_ret2
    exact ⟨_, rfl, Ow.nil _ _, hB⟩
set_option maxRecDepth 100000 in
set_option maxHeartbeats 20000000 in
theorem renc9_ok (p : PK) (o b : List UInt8) (v : Value) (w : World) (hok : p.Ok) (hop : Rd w p.op o) (hoo : okO o = true) (h40 : o.length ≤ 40) (h4 : o.length % 4 = 0) (hr : Rd w v b) (hl : 20 + o.length + b.length ≤ 65535) :
    Calls Tryd.prog 11 #[p.v, v] w (CEnd w (ihL p o (20 + o.length + b.length) (ihS p o (20 + o.length + b.length)) ++ b) 0) := by
  obtain ⟨q1, q2, q3, q4, q5, q6, q7, q8, q9, q10, q11, q12⟩ := arg_facts hok
  obtain ⟨ps, pd, ppr, ptl, pid, pts, wh, mo, pfo, pop⟩ := p
  dsimp only at hop q1 q2 q3 q4 q5 q6 q7 q8 q9 q10 q11 q12
  obtain ⟨Ao, co, eo, hco, hco2⟩ := hop.form
  obtain ⟨A, c, rfl, hc1, hc2⟩ := hr.form
  obtain ⟨n, hn⟩ : ∃ n, n = o.length := ⟨_, rfl⟩
  obtain ⟨m, hm⟩ : ∃ m, m = b.length := ⟨_, rfl⟩
  have hSb := ihS_bd ⟨ps, pd, ppr, ptl, pid, pts, wh, mo, pfo, pop⟩ o (20 + o.length + b.length)
  have hS : ihS ⟨ps, pd, ppr, ptl, pid, pts, wh, mo, pfo, pop⟩ o (20 + o.length + b.length) = 65535 - sumw (ihL ⟨ps, pd, ppr, ptl, pid, pts, wh, mo, pfo, pop⟩ o (20 + o.length + b.length) 0) 0 := rfl
  have hlen := ihL_len ⟨ps, pd, ppr, ptl, pid, pts, wh, mo, pfo, pop⟩ o (20 + o.length + b.length)
  have h40' := h40
  rw [← hn] at eo hco h40' h4 hl hSb hS hlen ⊢
  rw [← hm] at hr hc1 hl hSb hS hlen ⊢
  have HO := Lib.hid eo
  have HN := Lib.hid (And.intro hn hm)
  have gn4 : ((n : Int) % 4 != 0) = false := by simp; omega
  obtain ⟨S, hSS⟩ : ∃ S, S = ihS ⟨ps, pd, ppr, ptl, pid, pts, wh, mo, pfo, pop⟩ o (20 + (n : Int) + (m : Int)) := ⟨_, rfl⟩
  rw [← hSS] at hSb hS ⊢
  obtain ⟨hS0, hS1⟩ := hSb
  have HS := Lib.hid (And.intro hS hlen)
  clear eo hn hm hS hSS hlen
  go_enter Tryd.func11, Tryd.ntmps11
  go_upto_region 1 with (fail)
  refine boxP (p := ⟨ps, pd, ppr, ptl, pid, pts, wh, mo, pfo, pop⟩) (motive := fun X => Code.wp Tryd.prog _ _ _ X) ?_
  intro X hB hX hs
  have hopX := hop.mono hB
  obtain ⟨c8, c9, c10, c11, c12, c13, c14, c15⟩ := hs.pk
  dsimp only at c8 c9 c10 c11 c12 c13 c14 c15
  rw [HO.out] at c15 hopX
  go_wp2_with fail
  refine (rright _ o _ hopX).mono ?_
  rintro e w1 ⟨rfl, rfl⟩
  rw [hoo]
  have HOO := Lib.hid hoo
  clear hoo
  go_wp2_with ((with_reducible refine at_slot 90 ?_); refine wpList_loadB rfl 26 (.tmp 2) rfl hs rfl Tryd.underlying26 rfl PK.info ?_)
  refine (rhead ⟨ps, pd, ppr, ptl, pid, pts, wh, mo, pfo, pop⟩ o _ 0 X hok (by rw [HO.out]; exact hopX) h40 (by omega) (by omega) (by omega) (by omega)).mono ?_
  rintro e w5 ⟨v5, rfl, ho5, hb5⟩
  have hs5 := hs.mono hb5
  have hop5 := hopX.mono hb5
  have hB5 := below_step hB hB.size hb5
  clear c8 c9 c10 c11 c12 c13 c14 c15 hs hopX hb5
  have hsum : Calls Tryd.prog 15 #[v5] w5.drew fun e W' => e = .returned (.int .i64 S) ∧ w5.drew = W' := by
    have h := rsum v5 _ w5.drew ho5.rd.drew (by rw [HS.out.2]; omega)
    rwa [← HS.out.1] at h
  have hbX : (fun w' : World => Blk w' w.heap.size 26 (PK.cells ⟨ps, pd, ppr, ptl, pid, pts, wh, mo, pfo, pop⟩)) w5.drew := hs5
  go_upto_region 10 with (fail)
  rename_i K10 hK10
  refine wp_region_any (by kernel_rfl) (wpAny_of_G (n := 5) (S := fun w' => Blk w' w.heap.size 26 (PK.cells ⟨ps, pd, ppr, ptl, pid, pts, wh, mo, pfo, pop⟩)) _ _ _ _ ?_)
  refine G.load (i := 0) (v := PK.v ⟨ps, pd, ppr, ptl, pid, pts, wh, mo, pfo, pop⟩) rfl (by kernel_rfl) (fun _ _ _ h => h) (yieldsIf_load_mid rfl 26 (.tmp 2) rfl w.heap.size 0 rfl (PK.cells ⟨ps, pd, ppr, ptl, pid, pts, wh, mo, pfo, pop⟩).toList _ (fun w' hw => Blk.rangeP hw) Tryd.underlying26 rfl PK.info) hbX ?_
  simp only [Act.put, List.getElem_toArray, List.getElem_cons_zero, List.setIfInBounds_toArray, List.set_cons_zero, List.set_cons_succ]
  refine G.pure' (i := 1) (v := .int .i64 (20 + (n : Int) + (m : Int))) rfl (by kernel_rfl) (fun _ _ _ h => h) (.inl ⟨rfl, fun w' _ => ?_⟩) (fun _ => hbX) ?_
  · simp [execOp, Act.eval, go_sem]
  simp only [Act.put, List.getElem_toArray, List.getElem_cons_zero, List.getElem_cons_succ, List.setIfInBounds_toArray, List.set_cons_zero, List.set_cons_succ]
  refine G.pure' (i := 2) (v := v5) rfl (by kernel_rfl) (fun _ _ _ h => h) (.inl ⟨rfl, fun w' _ => ?_⟩) (fun _ => hbX) ?_
  · simp [execOp, Act.eval, go_sem]
  simp only [Act.put, List.getElem_toArray, List.getElem_cons_zero, List.getElem_cons_succ, List.setIfInBounds_toArray, List.set_cons_zero, List.set_cons_succ]
  refine G.only' (i := 3) ?r3 rfl ?o3
  case r3 => kernel_rfl
  intro K hK
  refine step_call rfl rfl (enters_of Tryd.func15 (by kernel_rfl) rfl) hsum rfl ?_
  rintro e w' ⟨rfl, rfl⟩
  refine ⟨_, rfl, hK _ _ (fun _ => hbX) ?_⟩
  clear hK K
  simp only [Act.put, List.getElem_toArray, List.getElem_cons_zero, List.getElem_cons_succ, List.setIfInBounds_toArray, List.set_cons_zero, List.set_cons_succ]
  refine G.only' (i := 4) ?r4 rfl ?o4
  case r4 => kernel_rfl
  intro K hK
  refine step_call rfl rfl (enters_of Tryd.func25 (by kernel_rfl) rfl) (rhead ⟨ps, pd, ppr, ptl, pid, pts, wh, mo, pfo, pop⟩ o _ S w5.drew hok (by rw [HO.out]; exact hop5.drew) h40 (by omega) (by omega) hS0 hS1) rfl ?_
  rintro e w6 ⟨v6, rfl, ho6, hb6⟩
  refine ⟨_, rfl, hK _ _ (fun _ => hbX.mono hb6) ?_⟩
  clear hK K
  simp only [Act.put, List.getElem_toArray, List.getElem_cons_zero, List.getElem_cons_succ, List.setIfInBounds_toArray, List.set_cons_zero, List.set_cons_succ]
  refine G.lastPure (i := 5) (v := v6) (by kernel_rfl) (by kernel_rfl) rfl (.inl ⟨rfl, fun w' _ => ?_⟩) (fun e => Bool.noConfusion (show true = false from e)) ?_
  · simp [execOp, Act.eval, go_sem]
  simp only [Act.put, List.getElem_toArray, List.getElem_cons_zero, List.getElem_cons_succ, List.setIfInBounds_toArray, List.set_cons_zero, List.set_cons_succ]
  simp only [Exit.then]
  refine hK10 _ _ ?_
  clear hK10 K10
  have hB6 := hB5.trans (((Below.refl w5.heap.size w5).drew.trans hb6).mono hB5.size)
  have hr6 := hr.mono hB6
  have z5 := hB5.size
  clear hbX hs5 hop5 ho5 hsum hB5
  go_wp2_with ((with_reducible refine at_slot 100 ?_); refine wpList_app rfl (.tmp 98) (.tmp 99) rfl w5.drew.heap.size ho6 hr6 rfl rfl (by rw [HS.out.2, ← HN.out.2]; omega) hb6.size ?_; intro v9 w9 ho9 hb9 hg9; clear hg9)
  go_ret2
  exact ⟨_, rfl, ho9.less z5, hB6.trans (hb9.mono z5)⟩
/-- packhorseref09.Encode. -/
theorem renc9 (p : PK) (o b : List UInt8) (v : Value) (w : World) (hop : Rd w p.op o) (hol : o.length ≤ 140737488355000) (hr : Rd w v b) (hbl : b.length ≤ 140737488355000) :
    Calls Tryd.prog 11 #[p.v, v] w (CEnd w (ipL p o b) (ipE p o b)) := by
  by_cases h0 : ipE p o b = 0
  · obtain ⟨h1, h2, h3, h4, h5⟩ := ipE_ok h0
    unfold ipL
    rw [if_pos h0, h0]
    exact renc9_ok p o b v w h1 hop h2 h3 h4 hr h5
  · unfold ipL
    rw [if_neg h0]
    unfold ipE at h0 ⊢
    by_cases h1 : p.argB = false
    · rw [if_pos h1]
      exact renc9_arg p v w b hr h1
    · rw [if_neg h1] at h0 ⊢
      have hok := PK.ok_of (by simpa using h1)
      by_cases h2 : optB9 o = false
      · rw [if_pos h2]
        exact renc9_more p o b v w 92 hok hop hol hr hbl (.inl ⟨h2, rfl⟩)
      · rw [if_neg h2] at h0 ⊢
        by_cases h3 : 65535 < 20 + o.length + b.length
        · rw [if_pos h3]
          exact renc9_more p o b v w 2 hok hop hol hr hbl (.inr ⟨by simpa using h2, h3, rfl⟩)
        · rw [if_neg h3] at h0
          exact absurd rfl h0
end Go.Proofs.YtbhdojpgjmbogaaDoor
