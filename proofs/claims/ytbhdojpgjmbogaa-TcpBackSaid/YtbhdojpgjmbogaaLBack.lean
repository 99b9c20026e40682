/- UdpBack: the walk over the law: it answers true. -/
import Derived.Test.YtbhdojpgjmbogaaLForms
import Derived.Test.YtbhdojpgjmbogaaUBack
import Derived.Test.YtbhdojpgjmbogaaTcp5
namespace Go.Proofs.Ytbhdojpgjmbogaa
open Go.RowKit Go.Maps Go.Shelf
theorem encE_ne {f t : Int} {b : List UInt8} (h : encE f t b = 0) : portB f = true ∧ portB t = true ∧ b.length ≤ 1016 := by
  unfold encE at h
  split at h
  · cases h
  · split at h
    · cases h
    · rename_i h1 h2
      simp at h1
      exact ⟨h1.1, h1.2, by omega⟩
theorem udec_as (s d : IP) (v : Value) (l : List UInt8) (w : World) {r : Int × Int × List UInt8 × Int} (hr : Rd w v l) (hl : l.length ≤ 140737488355000) (hd : decR 17 s d l = r) : Calls Try.prog 19 #[s.v, d.v, v] w (DEnd w r) := by
  rw [← hd]
  exact udec s d v l w hr hl
theorem boxI {w : World} {s : IP} {motive : World → Prop}
    (h : ∀ X, Below w.heap.size w X → w.heap.size + 1 = X.heap.size → Blk X w.heap.size 23 s.cells → motive X) :
    motive (w.alloc (.cells s.cells 23)) :=
  h _ ((Below.refl w.heap.size w).alloc (Nat.le_refl _) _) (by simp) (Blk.new w 23 s.cells _ rfl)
theorem cell_ip {w : World} {g : Nat} {s : IP} (h : Blk w g 23 s.cells) (i : Nat) (hi : i < 4) : w.cell? ⟨g, i, none⟩ = some (.int .u8 ((s.l[i]'(by simpa [IP.l] using hi)).toNat : Int)) := by
  rw [h.cell i]
  match i, hi with
  | 0, _ | 1, _ | 2, _ | 3, _ => rfl
/-- A byte of which one bit is turned. -/
def X8 (y : UInt8) (K : Nat) : UInt8 := UInt8.ofNat (y.toNat ^^^ 2 ^ K)
theorem X8_nat (y : UInt8) (K : Nat) (h : K < 8) : (X8 y K).toNat = y.toNat ^^^ 2 ^ K := by
  unfold X8
  rw [UInt8.toNat_ofNat', Nat.mod_eq_of_lt]
  have h1 : (2 : Nat) ^ K < 2 ^ 8 := Nat.pow_lt_pow_right (by omega) h
  exact Nat.xor_lt_two_pow (UInt8.toNat_lt y) h1
theorem xor8 (y : UInt8) (K : Nat) (h : K < 8) : bits .xor .u8 (y.toNat : Int) (2 ^ K % 256) = ((X8 y K).toNat : Int) := by
  rw [X8_nat y K h]
  have h1 : (2 : Nat) ^ K < 2 ^ 8 := Nat.pow_lt_pow_right (by omega) h
  have h2 := UInt8.toNat_lt y
  have e : ((2 : Int) ^ K % 256) = ((2 ^ K : Nat) : Int) := by
    match K, h with
    | 0, _ | 1, _ | 2, _ | 3, _ | 4, _ | 5, _ | 6, _ | 7, _ => decide
  rw [e]
  have hx : y.toNat ^^^ 2 ^ K < 2 ^ 8 := Nat.xor_lt_two_pow h2 h1
  show IntKind.u8.wrap ((BitVec.ofInt 8 (y.toNat : Int) ^^^ BitVec.ofInt 8 ((2 ^ K : Nat) : Int)).toNat : Int) = _
  rw [BitVec.toNat_xor, BitVec.ofInt_natCast, BitVec.ofInt_natCast, BitVec.toNat_ofNat, BitVec.toNat_ofNat, Nat.mod_eq_of_lt h2, Nat.mod_eq_of_lt h1, IntKind.wrap_u8]
  omega
theorem put_cells (s : IP) (i : Nat) (x : UInt8) (h : i < 4) : s.cells.setIfInBounds i (.int .u8 (x.toNat : Int)) = (s.put i x).cells := by
  match i, h with
  | 0, _ | 1, _ | 2, _ | 3, _ => rfl
/-- The cells of two boxed addresses, in whatever world keeps them. -/
theorem ips {w2 w' : World} {g h : Nat} {s d : IP} (hs : Blk w2 g 23 s.cells) (hd : Blk w2 h 23 d.cells) {B : Nat} (hg : g < B) (hh : h < B) (hb : Below B w2 w') :
    w'.cell? ⟨g, 0, none⟩ = some (.int .u8 s.a.toNat) ∧ w'.cell? ⟨g, 1, none⟩ = some (.int .u8 s.b.toNat) ∧ w'.cell? ⟨g, 2, none⟩ = some (.int .u8 s.c.toNat) ∧ w'.cell? ⟨g, 3, none⟩ = some (.int .u8 s.d.toNat) ∧
    w'.cell? ⟨h, 0, none⟩ = some (.int .u8 d.a.toNat) ∧ w'.cell? ⟨h, 1, none⟩ = some (.int .u8 d.b.toNat) ∧ w'.cell? ⟨h, 2, none⟩ = some (.int .u8 d.c.toNat) ∧ w'.cell? ⟨h, 3, none⟩ = some (.int .u8 d.d.toNat) := by
  obtain ⟨a0, a1, a2, a3⟩ := (hs.keep hb hg).ip4
  obtain ⟨b0, b1, b2, b3⟩ := (hd.keep hb hh).ip4
  exact ⟨a0, a1, a2, a3, b0, b1, b2, b3⟩
set_option maxRecDepth 100000 in
set_option maxHeartbeats 40000000 in
theorem law_back (s d : IP) (f t : Int) (vb vt : Value) (b tail : List UInt8) (bit : Int) (w : World) (hb : Rd w vb b) (ht : Rd w vt tail) (hbl : b.length ≤ 140737488351232) (htl : tail.length ≤ 140737488351232) :
    Calls Try.prog 4 #[s.v, d.v, .int .i64 f, .int .i64 t, vb, vt, .int .i64 bit] w fun e w' => e = .returned (.bool true) ∧ Below w.heap.size w w' := by
  go_enter Try.func4, Try.ntmps4
  go_upto_region 1 with (fail)
  refine box2 (motive := fun X => Code.wp Try.prog _ _ _ X) ?_
  intro X hBX _ hbs hbd
  go_wp2_with fail
  refine (awake _).mono ?_
  rintro e w1 ⟨rfl, hb1⟩
  have hbs1 := hbs.mono hb1
  have hbd1 := hbd.mono hb1
  have hB1 := below_step hBX hBX.size hb1
  have hbb1 := hb.mono hB1
  have z01 := hB1.size
  have zX1 := hb1.size
  clear hbs hbd hb1
  go_wp2_with (first | ((with_reducible refine at_slot 36 ?_); refine wpList_loadB rfl 23 (.tmp 7) rfl hbs1 rfl Try.underlying23 rfl IP.info ?_) | ((with_reducible refine at_slot 37 ?_); refine wpList_loadB rfl 23 (.tmp 8) rfl hbd1 rfl Try.underlying23 rfl IP.info ?_))
  refine (uenc s d f t _ b _ hbb1).mono ?_
  rintro e w2 ⟨v2, rfl, ho2, hb2⟩
  have hbs2 := hbs1.mono hb2
  have hbd2 := hbd1.mono hb2
  have hB2 := below_step hB1 hB1.size hb2
  have hbb2 := hb.mono hB2
  have htt2 := ht.mono hB2
  have z12 := hb2.size
  clear hbs1 hbd1 hbb1 hb2 hB1
  by_cases hE : encE f t b = 0
  · obtain ⟨pf, pt, pl⟩ := encE_ne hE
    have hL : encL s d f t b = laidL f t b (encS s d f t b) := by unfold encL; rw [if_pos hE]
    rw [hE]
    rw [hL] at ho2
    have hlen := laid_len f t (encS s d f t b) b
    obtain ⟨x, hx⟩ : ∃ x, x = laidL f t b (encS s d f t b) := ⟨_, rfl⟩
    rw [← hx] at ho2 hlen
    have HX := Lib.hid hx
    clear hx hL hE
    obtain ⟨A2, c2, rfl, hA2, hc2⟩ := ho2.rd.form
    obtain ⟨n, hn⟩ : ∃ n, n = x.length := ⟨_, rfl⟩
    rw [← hn] at ho2 hlen hA2 ⊢
    have Hn := Lib.hid hn
    have HL := Lib.hid hlen
    have n8 : 8 ≤ n := by omega
    have n1 : n ≤ 1024 := by omega
    clear hn hlen
    go_upto_region 5 with (fail)
    have hD : decR 17 s d (x ++ tail) = (f, t, b, 0) := by rw [HX.out]; exact dec_back s d f t b pf pt pl tail
    have HD := Lib.hid hD
    clear hD
    have g1 : w.heap.size < w2.heap.size := hbs2.lt
    have g2 : w.heap.size + 1 < w2.heap.size := hbd2.lt
    go_cut [18, 19, 20, 21] from 51 to 62 (fun p q c e wx => p = .int .i64 f ∧ q = .int .i64 t ∧ e = .int .i64 0 ∧ Ow wx w2.heap.size c b ∧ Below w2.heap.size w2 wx)
    case first =>
      have h0 := (Below.refl w2.heap.size w2).drew
      obtain ⟨a0, a1, a2, a3, b0, b1, b2, b3⟩ := ips hbs2 hbd2 g1 g2 (Below.refl w2.heap.size w2)
      go_region_law (first
        | (refine step_app rfl (.const (.slice none 0 0)) (.tmp 54) rfl w2.heap.size (Ow.nil _ _) ho2.rd.drew rfl rfl (by rw [← Hn.out]; simp; omega) (Nat.le_refl _) ?_; intro v3 w3 ho3 hb3 hg3; clear hg3; obtain ⟨a0, a1, a2, a3, b0, b1, b2, b3⟩ := ips hbs2 hbd2 g1 g2 (h0.trans hb3))
        | (refine step_app rfl (.tmp 55) (.tmp 56) rfl w2.heap.size ho3 (htt2.drew.mono hb3) rfl rfl (by rw [List.nil_append, ← Hn.out]; omega) hb3.size ?_; intro v4 w4 ho4 hb4 hg4; clear hg4; obtain ⟨a0, a1, a2, a3, b0, b1, b2, b3⟩ := ips hbs2 hbd2 g1 g2 ((h0.trans hb3).trans hb4))
        | (refine step_call rfl rfl (enters_of Try.func19 (by kernel_rfl) rfl) (udec_as s d _ _ _ ho4.rd (by rw [List.nil_append, List.length_append, ← Hn.out]; omega) HD.out) rfl ?_; rintro e w5 ⟨v5, rfl, ho5, hb5⟩; refine ⟨_, rfl, ?_⟩))
      all_goals (go_wp2_with fail; go_meet)
      all_goals
        have hBz := (h0.trans hb3).trans hb4
        exact ⟨rfl, rfl, rfl, ho5.less hBz.size, hBz.trans (hb5.mono hBz.size)⟩
    case rest =>
      obtain ⟨rfl, rfl, rfl, hoc, hbc⟩ := hcut
      obtain ⟨w5, rfl⟩ : ∃ x, x = wc := ⟨_, rfl⟩
      obtain ⟨v5, rfl⟩ : ∃ x, x = u20 := ⟨_, rfl⟩
      have hbs5 := hbs2.mono hbc
      have hbd5 := hbd2.mono hbc
      have hB5 := below_step hB2 hB2.size hbc
      have hb5 := hb.mono hB5
      have ho5 := ho2.mono hbc
      have z25 := hbc.size
      have ho2' := ho2
      have h25 := hbc
      clear hbs2 hbd2 hB2 hbb2 htt2 ho2 HD hbc
      obtain ⟨A5, c5, rfl, _, _⟩ := hoc.rd.form
      obtain ⟨Ab, cb, rfl, _, _⟩ := hb5.form
      have k5 := run_str hoc.rd
      have kb := run_str hb5
      go_upto_region 8 with (fail)
      clear k5 kb hoc
      by_cases hneg : bit < 0
      · have q1 : decide (bit < 0) = true := by simpa using hneg
        go_wp2
        go_ret
        exact ⟨rfl, hB5⟩
      · obtain ⟨B, rfl⟩ := Int.eq_ofNat_of_zero_le (show 0 ≤ bit by omega)
        have q1 : decide ((B : Int) < 0) = false := by simp
        clear hneg
        by_cases hge : 8 * n ≤ B
        · have q2 : decide (8 * (n : Int) ≤ (B : Int)) = true := by simp; omega
          go_wp2
          go_ret
          exact ⟨rfl, hB5⟩
        · have q2 : decide (8 * (n : Int) ≤ (B : Int)) = false := by simp; omega
          have e1 : (B : Int).tmod 32 = ((B % 32 : Nat) : Int) := by rw [Int.tmod_eq_emod_of_nonneg (by omega)]; simp
          have e2 : ((B % 32 : Nat) : Int).tdiv 8 = ((B % 32 / 8 : Nat) : Int) := by rw [Int.tdiv_eq_ediv_of_nonneg (by omega)]; simp
          have e3 : (B : Int).tmod 8 = ((B % 8 : Nat) : Int) := by rw [Int.tmod_eq_emod_of_nonneg (by omega)]; simp
          have e4 : (B : Int).tdiv 8 = ((B / 8 : Nat) : Int) := by rw [Int.tdiv_eq_ediv_of_nonneg (by omega)]; simp
          obtain ⟨I, hI⟩ : ∃ I, I = B % 32 / 8 := ⟨_, rfl⟩
          obtain ⟨J, hJ⟩ : ∃ J, J = B / 8 := ⟨_, rfl⟩
          obtain ⟨K, hK⟩ : ∃ K, K = B % 8 := ⟨_, rfl⟩
          obtain ⟨M, hM⟩ : ∃ M, M = B % 32 := ⟨_, rfl⟩
          have hI4 : I < 4 := by omega
          have hK8 : K < 8 := by omega
          have hJn : J < n := by omega
          rw [← hI, ← hM] at e2
          rw [← hM] at e1
          rw [← hJ] at e4
          rw [← hK] at e3
          clear hM hI hJ hK hge
          have hbs5' : Blk w5 w.heap.size 23 #[.int .u8 s.a.toNat, .int .u8 s.b.toNat, .int .u8 s.c.toNat, .int .u8 s.d.toNat] := hbs5
          go_upto_region 11 with ((with_reducible refine at_slot 91 ?_); refine wpList_loadB rfl 23 (.tmp 7) rfl hbs5' rfl Try.underlying23 rfl IP.info ?_)
          refine boxI (s := s) (motive := fun X => Code.wp Try.prog _ _ _ X) ?_
          intro Y hBY hY hbo
          have hbs6 := hbs5.mono hBY
          have hbd6 := hbd5.mono hBY
          have hB6 := below_step hB5 hB5.size hBY
          have ho6 := ho5.mono hBY
          clear hbs5 hbs5' hbd5 hB5 hb5 ho5
          have hc := cell_ip hbo I hI4
          have hfr := hbo.free I
          obtain ⟨y, hy⟩ : ∃ y, y = s.l[I]'(by simpa [IP.l] using hI4) := ⟨_, rfl⟩
          rw [← hy] at hc
          have hy2 := UInt8.toNat_lt y
          have HY := Lib.hid hy
          clear hy
          have hI4' : (I : Int) < 4 := by omega
          have hK8' : (K : Int) < 8 := by omega
          go_upto_region 12 with (fail)
          rw [xor8 y K hK8]
          have hbo7 := hbo.set I (.int .u8 ((X8 y K).toNat : Int))
          rw [put_cells s I _ hI4] at hbo7
          have hne1 : w.heap.size ≠ w5.heap.size := by omega
          have hne2 : w.heap.size + 1 ≠ w5.heap.size := by omega
          have hbs7 := hbs6.far (p := ⟨w5.heap.size, I, none⟩) hne1 (.int .u8 ((X8 y K).toNat : Int))
          have hbd7 := hbd6.far (p := ⟨w5.heap.size, I, none⟩) hne2 (.int .u8 ((X8 y K).toNat : Int))
          have hB7 := hB6.setCell (p := ⟨w5.heap.size, I, none⟩) (by show w.heap.size ≤ w5.heap.size; omega) (.int .u8 ((X8 y K).toNat : Int))
          have ho7 : Ow (Y.setCell ⟨w5.heap.size, I, none⟩ (.int .u8 ((X8 y K).toNat : Int))) w1.heap.size (.slice A2 n c2) x := ho2'.mono (((Below.refl w2.heap.size w2).trans h25).trans ((hBY.mono h25.size).setCell (p := ⟨w5.heap.size, I, none⟩) h25.size _))
          clear hbo hbs6 hbd6 hB6 ho6 hc hfr hBY
          generalize World.setCell Y _ _ = Z at *
          have hD2 := dec_other s d f t b pf pt pl I (X8 y K) K hI4 hK8 (by rw [X8_nat y K hK8, HY.out])
          rw [← HX.out] at hD2
          have HD2 := Lib.hid hD2
          clear hD2
          go_wp2_with (first | ((with_reducible refine at_slot 107 ?_); refine wpList_loadB rfl 23 (.tmp 22) rfl hbo7 rfl Try.underlying23 rfl IP.info ?_) | ((with_reducible refine at_slot 108 ?_); refine wpList_loadB rfl 23 (.tmp 8) rfl hbd7 rfl Try.underlying23 rfl IP.info ?_))
          refine (udec_as (s.put I (X8 y K)) d _ x _ ho7.rd (by rw [← Hn.out]; omega) HD2.out).mono ?_
          rintro e w8 ⟨v8, rfl, ho8, hb8⟩
          have hbs8 := hbs7.mono hb8
          have hbd8 := hbd7.mono hb8
          have hB8 := below_step hB7 hB7.size hb8
          have ho9 := ho7.mono hb8
          clear hbo7 hbs7 hbd7 hB7 ho7 hb8 HD2 ho8
          go_upto_region 14 with ((with_reducible refine at_slot 116 ?_); refine wpList_app rfl (.const (.slice none 0 0)) (.tmp 115) rfl w8.heap.size (Ow.nil _ _) ho9.rd rfl rfl (by rw [← Hn.out]; simp; omega) (Nat.le_refl _) ?_; intro v10 w10 ho10 hb10 hg10; rw [List.nil_append] at ho10; clear hg10)
          have hxn : x.length = n := Hn.out.symm
          obtain ⟨G, cap, rfl, hG1, hG2, hG3, hG4⟩ := ow_form ho10 (by omega)
          rw [hxn] at ho10 hG3 ⊢
          have hB10 := below_step hB8 hB8.size hb10
          have hbs10 := hbs8.mono hb10
          have hbd10 := hbd8.mono hb10
          have z8 := hB8.size
          have zb := hbs8.lt
          have zd := hbd8.lt
          clear ho9 hb10 hbs8 hbd8 hB8
          have hJx : J < x.length := by rw [← Hn.out]; exact hJn
          obtain ⟨hc, hfr⟩ := ow_cells ho10 J hJx
          obtain ⟨y2, hy⟩ : ∃ y2, y2 = x[J]'hJx := ⟨_, rfl⟩
          rw [← hy] at hc
          have hyy := UInt8.toNat_lt y2
          have HY2 := Lib.hid hy
          have HXN := Lib.hid hxn
          clear hy hxn
          have hJn' : (J : Int) < n := by omega
          go_upto_region 15 with (fail)
          rw [xor8 y2 K hK8]
          have ho11 := ow_set (k := J) ho10 (X8 y2 K)
          have hneG1 : w.heap.size ≠ G := by omega
          have hneG2 : w.heap.size + 1 ≠ G := by omega
          have hbs11 := hbs10.far (p := ⟨G, J, none⟩) hneG1 (.int .u8 ((X8 y2 K).toNat : Int))
          have hbd11 := hbd10.far (p := ⟨G, J, none⟩) hneG2 (.int .u8 ((X8 y2 K).toNat : Int))
          have hB11 := hB10.setCell (p := ⟨G, J, none⟩) (by show w.heap.size ≤ G; omega) (.int .u8 ((X8 y2 K).toNat : Int))
          clear hbs10 hbd10 hB10 ho10 hc hfr
          generalize World.setCell w10 _ _ = Z at *
          obtain ⟨L, hL⟩ : ∃ L, L = x.set J (X8 y2 K) := ⟨_, rfl⟩
          rw [← hL] at ho11
          have hLn : L.length = n := by rw [hL, List.length_set]; exact HXN.out
          have hT := dec_turn s d f t b pf pt pl J (X8 y2 K) K (by rw [← HX.out, HXN.out]; exact hJn) hK8 (by rw [X8_nat y2 K hK8, HY2.out]; simp only [HX.out]) L (by rw [← HX.out]; exact hL) (by omega)
          clear hL
          go_wp2_with (first | ((with_reducible refine at_slot 132 ?_); refine wpList_loadB rfl 23 (.tmp 7) rfl hbs11 rfl Try.underlying23 rfl IP.info ?_) | ((with_reducible refine at_slot 133 ?_); refine wpList_loadB rfl 23 (.tmp 8) rfl hbd11 rfl Try.underlying23 rfl IP.info ?_))
          refine (udec s d _ L _ ho11.rd (by omega)).mono ?_
          rintro e w12 ⟨v12, rfl, ho12, hb12⟩
          have hB12 := below_step hB11 hB11.size hb12
          have ho13 := ho11.mono hb12
          clear hbs11 hbd11 hB11 ho11 hb12 ho12
          generalize decR 17 s d L = R at *
          obtain ⟨R1, R2, R3, R4⟩ := R
          dsimp only at hT ⊢
          have l6 : 6 < L.length := by omega
          have l7 : 7 < L.length := by omega
          obtain ⟨k6, -⟩ := ow_cells ho13 6 l6
          obtain ⟨k7, -⟩ := ow_cells ho13 7 l7
          obtain ⟨p6, hp6⟩ : ∃ p6, p6 = L[6]'l6 := ⟨_, rfl⟩
          obtain ⟨p7, hp7⟩ : ∃ p7, p7 = L[7]'l7 := ⟨_, rfl⟩
          rw [← hp6] at k6 hT
          rw [← hp7] at k7 hT
          have i6 : (6 : Int) < n := by omega
          have i7 : (7 : Int) < n := by omega
          clear hp6 hp7 ho13
          clear hLn l6 l7 hneG1 hneG2 z8 zb zd hG1 hG2 hG3 hG4 HY2 hyy HY hy2 hne1 hne2 e1 e2 e3 q1 q2 hJx HXN hY h25 ho2' z25 hbl htl hb ht
          have r4 : R4 = 0 ∨ (R4 != 0) = true := by by_cases h : R4 = 0; exact .inl h; exact .inr (by simpa using h)
          have a6 : p6 = 0 ∨ ((p6.toNat : Int) == 0) = false := by
            by_cases h : p6 = 0
            · exact .inl h
            · exact .inr (by simp only [beq_eq_false_iff_ne, ne_eq]; intro h'; exact h (UInt8.toNat_inj.1 (by simp; omega)))
          have a7 : p7 = 0 ∨ ((p7.toNat : Int) == 0) = false := by
            by_cases h : p7 = 0
            · exact .inl h
            · exact .inr (by simp only [beq_eq_false_iff_ne, ne_eq]; intro h'; exact h (UInt8.toNat_inj.1 (by simp; omega)))
          have HT := Lib.hid hT
          clear hT
          by_cases j6 : J = 6
          · subst j6
            rcases a6 with rfl | a6
            · rcases a7 with rfl | a7
              · rcases r4 with rfl | r4
                all_goals (go_wp2; go_ret; exact ⟨rfl, hB12⟩)
              · rcases r4 with rfl | r4
                · exfalso
                  have := HT.out
                  simp at this
                  subst this
                  simp at a7
                · go_wp2
                  go_ret
                  exact ⟨rfl, hB12⟩
            · rcases r4 with rfl | r4
              · exfalso
                have := HT.out
                simp at this
                rw [this.1] at a6
                simp at a6
              · go_wp2
                go_ret
                exact ⟨rfl, hB12⟩
          by_cases j7 : J = 7
          · subst j7
            clear j6
            rcases a6 with rfl | a6
            · rcases a7 with rfl | a7
              · rcases r4 with rfl | r4
                all_goals (go_wp2; go_ret; exact ⟨rfl, hB12⟩)
              · rcases r4 with rfl | r4
                · exfalso
                  have := HT.out
                  simp at this
                  subst this
                  simp at a7
                · go_wp2
                  go_ret
                  exact ⟨rfl, hB12⟩
            · rcases r4 with rfl | r4
              · exfalso
                have := HT.out
                simp at this
                rw [this.1] at a6
                simp at a6
              · go_wp2
                go_ret
                exact ⟨rfl, hB12⟩
          have f6 : ((J : Int) == 6) = false := by simp; omega
          have f7 : ((J : Int) == 7) = false := by simp; omega
          clear a6 a7
          rcases r4 with rfl | r4
          · have h45 : J = 4 ∨ J = 5 := by
              have := HT.out
              simp [j6, j7] at this
              exact this
            clear j6 j7 f6 f7
            rcases h45 with rfl | rfl
            all_goals (go_wp2; go_ret; exact ⟨rfl, hB12⟩)
          · clear j6 j7
            go_wp2
            go_ret
            exact ⟨rfl, hB12⟩
  · have hE' : (encE f t b != 0) = true := by simpa using hE
    clear hE
    go_wp2
    go_ret
    exact ⟨rfl, hB2⟩
end Go.Proofs.Ytbhdojpgjmbogaa
