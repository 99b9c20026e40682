/- TcpBack: the walk over the law: it answers true. -/
import Derived.Test.YtbhdojpgjmbogaaTAwake
import Derived.Test.YtbhdojpgjmbogaaTBackLaw
import Derived.Test.YtbhdojpgjmbogaaTDec2
import Derived.Test.YtbhdojpgjmbogaaTcp7
import Derived.Test.YtbhdojpgjmbogaaTcp3
import Derived.Test.YtbhdojpgjmbogaaREnc
import Derived.Test.YtbhdojpgjmbogaaRSame
import Derived.Test.YtbhdojpgjmbogaaLBack
namespace Go.Proofs.Ytbhdojpgjmbogaa
open Go.RowKit Go.Shelf
/-- Encode, in any case. -/
theorem tenc_any (s d : IP) (g : SG) (E : List (Int × Int)) (b : List UInt8) (w0 : World) (hq : U32 g.sq) (ha : U32 g.ak) (hgt : RdS w0 g.gt E) (hU : SpansU E) (hda : Rd w0 g.da b) :
    (∃ n : Int, (n != 0) = true ∧ ∀ W, Below w0.heap.size w0 W → Calls Try.prog 42 #[s.v, d.v, g.v] W (CEnd W [] n)) ∨
    (g.Ok ∧ E.length ≤ 3 ∧ b.length ≤ 1024 ∧ ∀ W, Below w0.heap.size w0 W → Calls Try.prog 42 #[s.v, d.v, g.v] W (CEnd W (segL g (optB g.ms g.sk E) b (encS6 s d g (optB g.ms g.sk E) b)) 0)) := by
  obtain ⟨A, c, eg, hc1, hc2⟩ := hgt.form
  by_cases hl : 1024 < b.length
  · exact .inl ⟨2, by decide, fun W hW => tenc_long s d g b W (hda.mono hW) hl⟩
  · by_cases hk : (1 ≤ g.fr ∧ g.fr ≤ 65535) ∧ (1 ≤ g.too ∧ g.too ≤ 65535) ∧ (0 ≤ g.fl ∧ g.fl ≤ 31) ∧ (0 ≤ g.wn ∧ g.wn ≤ 65535) ∧ (0 ≤ g.ms ∧ g.ms ≤ 65535) ∧ E.length ≤ 3
    · obtain ⟨k1, k2, k3, k4, k5, k6⟩ := hk
      refine .inr ⟨⟨decide_eq_true k1, decide_eq_true k2, decide_eq_true k3, decide_eq_true k4, decide_eq_true k5, hq, ha⟩, k6, by omega, fun W hW => ?_⟩
      exact tenc s d g (optB g.ms g.sk E) b W ⟨decide_eq_true k1, decide_eq_true k2, decide_eq_true k3, decide_eq_true k4, decide_eq_true k5, hq, ha⟩ A E.length c eg k6 (hda.mono hW) (by omega) ((optB_len g.ms g.sk E k6).1)
        fun W' hW' => topts_all g E W' (hgt.mono (below_step hW hW.size hW')) k6 hU
    · exact .inl ⟨1, by decide, fun W hW => tenc_arg s d g b W A E.length c eg (by omega) (hda.mono hW) (by omega) hk⟩
/-- Bytes whose sum is not right are not taken. -/
theorem tdec_bad (s d : IP) (L : List UInt8) (v : Value) (w : World) (hr : Rd w v L) (hmax : L.length ≤ 140737488355000) (h20 : 20 ≤ L.length) (hs : csum 6 s d L ≠ 0) :
    Calls Try.prog 44 #[s.v, d.v, v] w fun e w' => ∃ n : Int, (n != 0) = true ∧ ZEnd w n e w' := by
  by_cases h : (L[12]'(by omega)).toNat / 16 * 4 < 20 ∨ L.length < (L[12]'(by omega)).toNat / 16 * 4
  · exact (tdec_form s d L v w hr h20 hmax _ _ rfl rfl h).mono fun e w' he => ⟨4, by decide, he⟩
  · exact (tdec_sum s d L v w hr hmax h20 _ _ rfl rfl (by omega) (by omega) hs).mono fun e w' he => ⟨5, by decide, he⟩
theorem seg_box {w : World} {g : SG} {motive : World → Prop} (h : ∀ X, Below w.heap.size w X → w.heap.size + 1 = X.heap.size → Blk X w.heap.size 67 g.cells → motive X) : motive (w.alloc (.cells g.cells 67)) :=
  h _ ((Below.refl w.heap.size w).alloc (Nat.le_refl _) _) (by simp) (Blk.new w 67 g.cells _ rfl)
theorem tdec_own (s d : IP) (g : SG) (E : List (Int × Int)) (b : List UInt8) (hok : g.Ok) (h3 : E.length ≤ 3) (hU : SpansU E) (hb : b.length ≤ 1024) (syn : Bool) (hsyn : g.fl / 2 % 2 = if syn then 1 else 0) (L : List UInt8)
    (hL : L = segL g (optB g.ms g.sk E) b (encS6 s d g (optB g.ms g.sk E) b)) (m' : Int) (k' : Bool) (hm' : (if syn then g.ms else 0) = m') (hk' : (if syn then g.sk else false) = k') (v : Value) (w : World) (hr : Rd w v L) :
    Calls Try.prog 44 #[s.v, d.v, v] w fun e w' => ∃ g' v', e = .returned (.tuple #[SG.v ⟨g.fr, g.too, g.sq, g.ak, g.fl, g.wn, m', k', g', v'⟩, .int .i64 0]) ∧ Ow w' w.heap.size v' b ∧ OwS w' w.heap.size g' E ∧ Below w.heap.size w w' := by
  obtain ⟨o1, o2⟩ := optB_len g.ms g.sk E h3
  obtain ⟨a0, a1, a2, a3, a4, a5, a6, a7, a8⟩ := seg_heads g hok (optB g.ms g.sk E) b (encS6 s d g (optB g.ms g.sk E) b) o1 o2
  have hl := segL_len' g (optB g.ms g.sk E) b (encS6 s d g (optB g.ms g.sk E) b)
  have hz := seg_sum s d g (optB g.ms g.sk E) b
  have hor := opt_read g.ms (by simpa using hok.ms) g.sk E h3 hU syn
  have hfl := hok.fl
  have hfr := hok.fr
  have htoo := hok.too
  simp only [decide_eq_true_eq] at hfl hfr htoo
  rw [← hL] at a0 a1 a2 a3 a4 a5 a6 a7 a8 hl hz
  have h12 : 12 < L.length := by omega
  have e12 : L.getD 12 0 = L[12] := by rw [List.getD_eq_getElem?_getD, List.getElem?_eq_getElem h12]; rfl
  refine (tdec s d L v w hr (by omega) (by omega) (20 + (optB g.ms g.sk E).length) L[12] rfl (by rw [← e12]; exact a6.symm) (by omega) (by omega) hz (by omega) (by rw [a0]; omega) (by rw [a1]; omega) syn ?_ _ (by rw [a7]; exact hor)).mono ?_
  · rw [a5, show g.fl % 32 = g.fl by omega]
    exact hsyn
  · rintro e w' ⟨g', v', rfl, h1, h2, h3⟩
    refine ⟨g', v', ?_, by rw [a8] at h1; exact h1, h2, h3⟩
    unfold decSG
    rw [a0, a1, a2, a3, a4, a5, show g.fl % 32 = g.fl by omega, ← hm', ← hk']
set_option maxRecDepth 100000 in
set_option maxHeartbeats 40000000 in
theorem law_tback (s d : IP) (g : SG) (E : List (Int × Int)) (b : List UInt8) (bit : Int) (w : World) (hq : U32 g.sq) (ha : U32 g.ak) (hgt : RdS w g.gt E) (hU : SpansU E) (hda : Rd w g.da b) :
    Calls Try.prog 11 #[s.v, d.v, g.v, .int .i64 bit] w fun e w' => e = .returned (.bool true) ∧ Below w.heap.size w w' := by
  have HE := Lib.hid (tenc_any s d g E b w hq ha hgt hU hda)
  go_enter Try.func11, Try.ntmps11
  go_upto_region 1 with (fail)
  refine box5 (s := s) (d := d) (g := g) (motive := fun X => Code.wp Try.prog _ _ _ X) ?_
  intro X hBX _ hbs hbd hbg
  go_wp2_with fail
  refine (tawake _).mono ?_
  rintro e w1 ⟨rfl, hb1⟩
  have hbs1 := hbs.mono hb1
  have hbd1 := hbd.mono hb1
  have hbg1 := hbg.mono hb1
  have hB1 := below_step hBX hBX.size hb1
  clear hbs hbd hbg hb1
  go_wp2_with (first | ((with_reducible refine at_slot 24 ?_); refine wpList_loadB rfl 23 (.tmp 4) rfl hbs1 rfl Try.underlying23 rfl IP.info ?_) | ((with_reducible refine at_slot 25 ?_); refine wpList_loadB rfl 23 (.tmp 5) rfl hbd1 rfl Try.underlying23 rfl IP.info ?_) | ((with_reducible refine at_slot 26 ?_); refine wpList_loadB rfl 67 (.tmp 6) rfl hbg1 rfl Try.underlying67 rfl SG.info ?_))
  rcases HE.out with ⟨n, hn, hE⟩ | ⟨hok, h3, hbl, hE⟩
  · refine (hE _ hB1).mono ?_
    rintro e w2 ⟨v2, rfl, ho2, hb2⟩
    obtain ⟨A2, c2, rfl, _, _⟩ := ho2.rd.form
    have hB2 := below_step hB1 hB1.size hb2
    clear hE hbs1 hbd1 hbg1 ho2 hb2
    go_wp2
    go_ret
    exact ⟨rfl, hB2⟩
  · refine (hE _ hB1).mono ?_
    rintro e w2 ⟨v2, rfl, ho2, hb2⟩
    have hlen := segL_len' g (optB g.ms g.sk E) b (encS6 s d g (optB g.ms g.sk E) b)
    have hol := (optB_len g.ms g.sk E h3).1
    obtain ⟨x, hx⟩ : ∃ x, x = segL g (optB g.ms g.sk E) b (encS6 s d g (optB g.ms g.sk E) b) := ⟨_, rfl⟩
    have hzero : csum 6 s d x = 0 := by rw [hx]; exact seg_sum s d g _ b
    rw [← hx] at ho2 hlen
    have HZ := Lib.hid hzero
    have HX := Lib.hid hx
    clear hx hE hzero
    have hbs2 := hbs1.mono hb2
    have hbd2 := hbd1.mono hb2
    have hbg2 := hbg1.mono hb2
    have hB2 := below_step hB1 hB1.size hb2
    have z12 := hb2.size
    clear hbs1 hbd1 hbg1 hb2 HE
    obtain ⟨A2, c2, rfl, hA2, hc2⟩ := ho2.rd.form
    obtain ⟨n, hn⟩ : ∃ n, n = x.length := ⟨_, rfl⟩
    have n20 : 20 ≤ n := by omega
    have n1 : n ≤ 1084 := by omega
    rw [← hn] at ho2 hA2 ⊢
    have Hn := Lib.hid hn
    clear hlen hn hol
    obtain ⟨syn, hsyn⟩ : ∃ syn : Bool, g.fl / 2 % 2 = if syn then 1 else 0 := by
      by_cases h : g.fl / 2 % 2 = 1
      · exact ⟨true, h⟩
      · exact ⟨false, by show g.fl / 2 % 2 = 0; omega⟩
    have hfl0 := hok.fl
    simp only [decide_eq_true_eq] at hfl0
    have e1 : g.fl.tdiv 2 = g.fl / 2 := Int.tdiv_eq_ediv_of_nonneg (by omega)
    have e2 : (g.fl / 2).tmod 2 = if syn then 1 else 0 := by rw [Int.tmod_eq_emod_of_nonneg (by omega), hsyn]
    obtain ⟨m', hm'⟩ : ∃ m', (if syn then g.ms else 0) = m' := ⟨_, rfl⟩
    obtain ⟨k', hk'⟩ : ∃ k', (if syn then g.sk else false) = k' := ⟨_, rfl⟩
    have HD := Lib.hid (fun v w h => tdec_own s d g E b hok h3 hU hbl syn hsyn x HX.out m' k' hm' hk' v w h)
    have HMK := Lib.hid (And.intro hm' hk')
    clear hsyn hm' hk'
    obtain ⟨q, hq2⟩ : ∃ q, q = g.fl / 2 := ⟨_, rfl⟩
    rw [← hq2] at e1 e2
    obtain ⟨r, hr⟩ : ∃ r, r = if syn then (1 : Int) else 0 := ⟨_, rfl⟩
    rw [← hr] at e2
    have r0 : 0 ≤ r := by rw [hr]; split <;> decide
    have r1 : r ≤ 1 := by rw [hr]; split <;> decide
    have HR := Lib.hid hr
    clear hr
    have q0 : 0 ≤ q := by omega
    have q1 : q ≤ 15 := by omega
    clear hq2 hfl0
    go_wp2_with (first | ((with_reducible refine at_slot 38 ?_); refine wpList_loadB rfl 23 (.tmp 4) rfl hbs2 rfl Try.underlying23 rfl IP.info ?_) | ((with_reducible refine at_slot 39 ?_); refine wpList_loadB rfl 23 (.tmp 5) rfl hbd2 rfl Try.underlying23 rfl IP.info ?_))
    refine (HD.out _ w2 ho2.rd).mono ?_
    rintro e w3 ⟨vg, vd, rfl, hod, hog, hb3⟩
    have hbs3 := hbs2.mono hb3
    have hbd3 := hbd2.mono hb3
    have hbg3 := hbg2.mono hb3
    have hB3 := below_step hB2 hB2.size hb3
    have ho3 := ho2.mono hb3
    have z23 := hb3.size
    have hrd3 := hod.rd
    have hrg3 := hog.rd
    obtain ⟨Ad, cd, rfl, _, _⟩ := hrd3.form
    obtain ⟨Ag, cg, rfl, _, _⟩ := hrg3.form
    clear hbs2 hbd2 hbg2 hB2 ho2 hb3 hod hog HD
    go_upto_region 6 with (fail)
    refine seg_box (g := ⟨g.fr, g.too, g.sq, g.ak, g.fl, g.wn, m', k', .slice Ag E.length cg, .slice Ad b.length cd⟩) (motive := fun X => Code.wp Try.prog _ _ _ X) ?_
    intro X4 hBX4 hX4 hbt4
    have hbs4 := hbs3.mono hBX4
    have hbd4 := hbd3.mono hBX4
    have hbg4 := hbg3.mono hBX4
    have hB4 := below_step hB3 hB3.size hBX4
    have ho4 := ho3.mono hBX4
    have hrd4 := hrd3.mono hBX4
    have hrg4 := hrg3.mono hBX4
    clear hbs3 hbd3 hbg3 hB3 ho3 hrd3 hrg3 hBX4
    obtain ⟨Ag0, cg0, eg0, _, _⟩ := hgt.form
    obtain ⟨Ad0, cd0, ed0, _, _⟩ := hda.form
    go_upto_region 7 with ((with_reducible refine at_slot 44 ?_); refine wpList_loadB rfl 67 (.tmp 6) rfl hbg4 rfl Try.underlying67 rfl SG.info ?_)
    rw [← eg0, ← ed0]
    clear eg0 ed0
    refine seg_box (g := g) (motive := fun X => Code.wp Try.prog _ _ _ X) ?_
    intro X5 hBX5 hX5 hbw5
    have hbg5 := hbg4.mono hBX5
    have c4 := hbg5.sg.2.2.2.2.1
    go_upto_if 49 with (fail)
    go_cut [] from 50 to 51 (fun wx => Blk wx X4.heap.size 67 (SG.cells ⟨g.fr, g.too, g.sq, g.ak, g.fl, g.wn, m', k', g.gt, g.da⟩) ∧ Below X4.heap.size X5 wx)
    case first =>
      cases syn with
      | true =>
        obtain ⟨rfl, rfl⟩ := HMK.out
        obtain rfl : r = 1 := HR.out
        go_wp2
        go_meet
        exact ⟨hbw5, Below.refl _ _⟩
      | false =>
        obtain ⟨rfl, rfl⟩ := HMK.out
        have c6 := hbw5.sg.2.2.2.2.2.2.1
        have c7 := hbw5.sg.2.2.2.2.2.2.2.1
        have f6 := hbw5.free 6
        have f7 := hbw5.free 7
        obtain rfl : r = 0 := HR.out
        go_wp2
        go_meet
        exact ⟨(hbw5.set 6 (.int .i64 0)).set 7 (.bool false), ((Below.refl X4.heap.size X5).setCell (p := ⟨X4.heap.size, 6, none⟩) (Nat.le_refl _) _).setCell (p := ⟨X4.heap.size, 7, none⟩) (Nat.le_refl _) _⟩
    case rest =>
      obtain ⟨hbw, hBc0⟩ := hcut
      have hBc := hBX5.trans hBc0
      have hbsC := hbs4.mono hBc
      have hbdC := hbd4.mono hBc
      have hbtC := hbt4.mono hBc
      have hBC := below_step hB4 hB4.size hBc
      have hoC := ho4.mono hBc
      have hrdC := hrd4.mono hBc
      have hrgC := hrg4.mono hBc
      have hgtC := hgt.mono hBC
      have hdaC := hda.mono hBC
      clear hbs4 hbd4 hbt4 hB4 ho4 hrd4 hrg4 hBX5 hbg4 hbg5 hbw5 c4 hBc hBc0 e1 e2 HMK
      obtain ⟨w5, rfl⟩ : ∃ x, x = wc := ⟨_, rfl⟩
      go_upto_region 10 with (fail)
      go_cut [15] from 52 to 55 (fun r wx => r = .bool true ∧ Below w5.heap.size w5 wx)
      case first =>
        go_wp2_with (first | ((with_reducible refine at_slot 52 ?_); refine wpList_loadB rfl 67 (.tmp 12) rfl hbtC rfl Try.underlying67 rfl SG.info ?_) | ((with_reducible refine at_slot 53 ?_); refine wpList_loadB rfl 67 (.tmp 14) rfl hbw rfl Try.underlying67 rfl SG.info ?_))
        refine (rsameS ⟨g.fr, g.too, g.sq, g.ak, g.fl, g.wn, m', k', .slice Ag E.length cg, .slice Ad b.length cd⟩ ⟨g.fr, g.too, g.sq, g.ak, g.fl, g.wn, m', k', g.gt, g.da⟩ b E _ rfl rfl rfl rfl rfl rfl rfl rfl hrgC hgtC hrdC hdaC).mono ?_
        rintro e w6 ⟨rfl, hb6⟩
        go_wp2_with fail
        go_meet
        exact ⟨rfl, hb6⟩
      case rest =>
      obtain ⟨rfl, hb6⟩ := hcut
      obtain ⟨w6, rfl⟩ : ∃ x, x = wc := ⟨_, rfl⟩
      have hbs6 := hbsC.mono hb6
      have hbd6 := hbdC.mono hb6
      have hB6 := below_step hBC hBC.size hb6
      have ho6 := hoC.mono hb6
      clear hbsC hbdC hbtC hBC hoC hrdC hrgC hgtC hdaC hbw hb6
      go_upto_region 13 with (fail)
      by_cases hneg : bit < 0
      · have q1 : decide (bit < 0) = true := by simpa using hneg
        go_wp2
        go_ret
        exact ⟨rfl, hB6⟩
      · obtain ⟨B, rfl⟩ := Int.eq_ofNat_of_zero_le (show 0 ≤ bit by omega)
        have q1 : decide ((B : Int) < 0) = false := by simp
        clear hneg
        by_cases hge : 8 * n ≤ B
        · have q2 : decide (8 * (n : Int) ≤ (B : Int)) = true := by simp; omega
          go_wp2
          go_ret
          exact ⟨rfl, hB6⟩
        · have q2 : decide (8 * (n : Int) ≤ (B : Int)) = false := by simp; omega
          have e1 : (B : Int).tmod 32 = ((B % 32 : Nat) : Int) := by rw [Int.tmod_eq_emod_of_nonneg (by omega)]; simp
          have e2 : ((B % 32 : Nat) : Int).tdiv 8 = ((B % 32 / 8 : Nat) : Int) := by rw [Int.tdiv_eq_ediv_of_nonneg (by omega)]; simp
          have e3 : (B : Int).tmod 8 = ((B % 8 : Nat) : Int) := by rw [Int.tmod_eq_emod_of_nonneg (by omega)]; simp
          have e4 : (B : Int).tdiv 8 = ((B / 8 : Nat) : Int) := by rw [Int.tdiv_eq_ediv_of_nonneg (by omega)]; simp
          obtain ⟨I, hI⟩ : ∃ I, I = B % 32 / 8 := ⟨_, rfl⟩
          obtain ⟨J, hJ⟩ : ∃ J, J = B / 8 := ⟨_, rfl⟩
          obtain ⟨K, hK⟩ : ∃ K, K = B % 8 := ⟨_, rfl⟩
          obtain ⟨M, hM⟩ : ∃ M, M = B % 32 := ⟨_, rfl⟩
          have hI4 : I < 4 := by omega
          have hK8 : K < 8 := by omega
          have hJn : J < n := by omega
          rw [← hI, ← hM] at e2
          rw [← hM] at e1
          rw [← hJ] at e4
          rw [← hK] at e3
          clear hM hI hJ hK hge
          go_upto_region 16 with ((with_reducible refine at_slot 71 ?_); refine wpList_app rfl (.const (.slice none 0 0)) (.tmp 70) rfl w6.heap.size (Ow.nil _ _) ho6.rd rfl rfl (by rw [← Hn.out]; simp; omega) (Nat.le_refl _) ?_; intro v10 w10 ho10 hb10 hg10; rw [List.nil_append] at ho10; clear hg10)
          have hxn : x.length = n := Hn.out.symm
          obtain ⟨G, cap, rfl, hG1, hG2, hG3, hG4⟩ := ow_form ho10 (by omega)
          rw [hxn] at ho10 hG3 ⊢
          have hB10 := below_step hB6 hB6.size hb10
          have hbs10 := hbs6.mono hb10
          have hbd10 := hbd6.mono hb10
          have ho10x := ho6.mono hb10
          have z6 := hB6.size
          have zb := hbs6.lt
          have zd := hbd6.lt
          have zo := ho6
          have hb10' := hb10
          clear hb10 hbs6 hbd6 hB6 ho6
          have hJx : J < x.length := by rw [← Hn.out]; exact hJn
          obtain ⟨hc, hfr⟩ := ow_cells ho10 J hJx
          obtain ⟨y2, hy⟩ : ∃ y2, y2 = x[J]'hJx := ⟨_, rfl⟩
          rw [← hy] at hc
          have hyy := UInt8.toNat_lt y2
          have HY2 := Lib.hid hy
          have HXN := Lib.hid hxn
          clear hy hxn
          have hJn' : (J : Int) < n := by omega
          have hK8' : (K : Int) < 8 := by omega
          have hI4' : (I : Int) < 4 := by omega
          go_upto_region 17 with (fail)
          rw [xor8 y2 K hK8]
          have ho11 := ow_set (k := J) ho10 (X8 y2 K)
          have hneG1 : w.heap.size ≠ G := by omega
          have hneG2 : w.heap.size + 1 ≠ G := by omega
          have hbs11 := hbs10.far (p := ⟨G, J, none⟩) hneG1 (.int .u8 ((X8 y2 K).toNat : Int))
          have hbd11 := hbd10.far (p := ⟨G, J, none⟩) hneG2 (.int .u8 ((X8 y2 K).toNat : Int))
          have hB11 := hB10.setCell (p := ⟨G, J, none⟩) (by show w.heap.size ≤ G; omega) (.int .u8 ((X8 y2 K).toNat : Int))
          have hox11 : Ow (w10.setCell ⟨G, J, none⟩ (.int .u8 ((X8 y2 K).toNat : Int))) w1.heap.size (.slice A2 n c2) x := zo.mono (hb10'.setCell (p := ⟨G, J, none⟩) hG1 _)
          clear hbs10 hbd10 hB10 ho10 hc hfr hb10' zo
          generalize World.setCell w10 _ _ = Z at *
          obtain ⟨L, hL⟩ : ∃ L, L = x.set J (X8 y2 K) := ⟨_, rfl⟩
          rw [← hL] at ho11
          have hLn : L.length = n := by rw [hL, List.length_set]; exact HXN.out
          have hT : csum 6 s d L ≠ 0 := by rw [hL]; exact sum_turn s d x HZ.out J (X8 y2 K) K hJx hK8 (by rw [X8_nat y2 K hK8, HY2.out])
          clear hL
          have HT := Lib.hid hT
          have HLN := Lib.hid hLn
          clear hT hLn
          go_wp2_with (first | ((with_reducible refine at_slot 87 ?_); refine wpList_loadB rfl 23 (.tmp 4) rfl hbs11 rfl Try.underlying23 rfl IP.info ?_) | ((with_reducible refine at_slot 88 ?_); refine wpList_loadB rfl 23 (.tmp 5) rfl hbd11 rfl Try.underlying23 rfl IP.info ?_))
          refine (tdec_bad s d L _ _ ho11.rd (by rw [HLN.out]; omega) (by rw [HLN.out]; omega) HT.out).mono ?_
          rintro e w12 ⟨code, hcode, rfl, hb12⟩
          rw [show SG.zero = (⟨0, 0, 0, 0, 0, 0, 0, false, noS, noS⟩ : SG) from rfl]
          have hbs12 := hbs11.mono hb12
          have hbd12 := hbd11.mono hb12
          have hB12 := below_step hB11 hB11.size hb12
          have ho12 := hox11.mono hb12
          clear hbs11 hbd11 hB11 ho11 hb12 hox11
          go_upto_region 18 with (fail)
          refine seg_box (g := (⟨0, 0, 0, 0, 0, 0, 0, false, noS, noS⟩ : SG)) (motive := fun X => Code.wp Try.prog _ _ _ X) ?_
          intro X13 hBX13 hX13 _
          have hbs13 := hbs12.mono hBX13
          have hbd13 := hbd12.mono hBX13
          have hB13 := below_step hB12 hB12.size hBX13
          have ho13 := ho12.mono hBX13
          clear hbs12 hbd12 hB12 ho12 hBX13
          have hbd13' : Blk X13 (w.heap.size + 1) 23 #[.int .u8 d.a.toNat, .int .u8 d.b.toNat, .int .u8 d.c.toNat, .int .u8 d.d.toNat] := hbd13
          go_upto_region 19 with ((with_reducible refine at_slot 93 ?_); refine wpList_loadB rfl 23 (.tmp 5) rfl hbd13' rfl Try.underlying23 rfl IP.info ?_)
          refine boxI (s := d) (motive := fun X => Code.wp Try.prog _ _ _ X) ?_
          intro Y hBY hY hbo
          have hbs14 := hbs13.mono hBY
          have hB14 := below_step hB13 hB13.size hBY
          have zs13 := hbs13.lt
          clear hbs13 hbd13 hbd13' hB13
          have hc := cell_ip hbo I hI4
          have hfr := hbo.free I
          obtain ⟨y, hy⟩ : ∃ y, y = d.l[I]'(by simpa [IP.l] using hI4) := ⟨_, rfl⟩
          rw [← hy] at hc
          have hy2 := UInt8.toNat_lt y
          have HY := Lib.hid hy
          clear hy
          go_upto_region 20 with (fail)
          rw [xor8 y K hK8]
          have hbo7 := hbo.set I (.int .u8 ((X8 y K).toNat : Int))
          rw [put_cells d I _ hI4] at hbo7
          have hne1 : w.heap.size ≠ X13.heap.size := by omega
          have hbs15 := hbs14.far (p := ⟨X13.heap.size, I, none⟩) hne1 (.int .u8 ((X8 y K).toNat : Int))
          have hB15 := hB14.setCell (p := ⟨X13.heap.size, I, none⟩) (by show w.heap.size ≤ X13.heap.size; omega) (.int .u8 ((X8 y K).toNat : Int))
          have ho15 : Ow (Y.setCell ⟨X13.heap.size, I, none⟩ (.int .u8 ((X8 y K).toNat : Int))) w1.heap.size (.slice A2 n c2) x := ho13.mono (hBY.setCell (p := ⟨X13.heap.size, I, none⟩) (Nat.le_refl _) _)
          clear hbo hbs14 hB14 ho13 hc hfr hBY
          generalize World.setCell Y _ _ = Z2 at *
          have hT2 := Lib.hid (sum_other s d x HZ.out I (X8 y K) K hI4 hK8 (by rw [X8_nat y K hK8, HY.out]))
          have hx12 : 12 < x.length := by rw [HXN.out]; omega
          have h6 := Lib.hid (seg_heads g hok (optB g.ms g.sk E) b (encS6 s d g (optB g.ms g.sk E) b) (optB_len g.ms g.sk E h3).1 (optB_len g.ms g.sk E h3).2)
          have h7 := Lib.hid (segL_len' g (optB g.ms g.sk E) b (encS6 s d g (optB g.ms g.sk E) b))
          go_wp2_with (first | ((with_reducible refine at_slot 109 ?_); refine wpList_loadB rfl 23 (.tmp 4) rfl hbs15 rfl Try.underlying23 rfl IP.info ?_) | ((with_reducible refine at_slot 110 ?_); refine wpList_loadB rfl 23 (.tmp 19) rfl hbo7 rfl Try.underlying23 rfl IP.info ?_))
          have e12 : x.getD 12 0 = x[12] := by rw [List.getD_eq_getElem?_getD, List.getElem?_eq_getElem hx12]; rfl
          have a6 := h6.out.2.2.2.2.2.2.1
          rw [← HX.out, e12] at a6
          have hl := h7.out
          rw [← HX.out] at hl
          have HA := Lib.hid a6
          have HL := Lib.hid hl
          clear e12 a6 hl h6 h7
          refine (tdec_sum s (d.put I (X8 y K)) x _ _ ho15.rd (by rw [HXN.out]; omega) (by rw [HXN.out]; omega) (20 + (optB g.ms g.sk E).length) x[12] rfl HA.out.symm (by omega) (by rw [HL.out]; omega) hT2.out).mono ?_
          rintro e w16 ⟨rfl, hb16⟩
          rw [show SG.zero = (⟨0, 0, 0, 0, 0, 0, 0, false, noS, noS⟩ : SG) from rfl]
          have hB16 := below_step hB15 hB15.size hb16
          clear hbs15 hbo7 hB15 ho15 hb16 hT2
          go_upto_region 21 with (fail)
          refine seg_box (g := (⟨0, 0, 0, 0, 0, 0, 0, false, noS, noS⟩ : SG)) (motive := fun X => Code.wp Try.prog _ _ _ X) ?_
          intro X17 hBX17 hX17 _
          have hB17 := below_step hB16 hB16.size hBX17
          clear hBX17 hB16
          go_wp2
          go_ret
          exact ⟨rfl, hB17⟩
end Go.Proofs.Ytbhdojpgjmbogaa
