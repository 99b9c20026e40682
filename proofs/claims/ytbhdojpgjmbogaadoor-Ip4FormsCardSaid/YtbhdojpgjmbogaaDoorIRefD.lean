/- packhorseref09.Decode: a packet is read. -/
import Derived.Test.YtbhdojpgjmbogaaDoorIDec
import Derived.Test.YtbhdojpgjmbogaaDoorIRefR
namespace Go.Proofs.YtbhdojpgjmbogaaDoor
open Go.RowKit Go.Shelf
/-- How the reference's Decode ends. -/
def IREnd (w : World) (L : List UInt8) (e : Ending) (w' : World) : Prop :=
  (ipC L ≠ 0 ∧ e = .returned (.tuple #[PK.zero.v, noS, .int .i64 (ipC L)]) ∧ Below w.heap.size w w') ∨
  (ipC L = 0 ∧ ∃ vo vc, e = .returned (.tuple #[(dPK L vo).v, vc, .int .i64 0]) ∧ Ow w' w.heap.size vo (iopL L) ∧ Rd w' vc (iplL L) ∧ Below w.heap.size w w')
def mixI (k : Nat) (s : IP) : IP := match k with
  | 0 => IP.zero
  | 1 => ⟨s.a, 0, 0, 0⟩
  | 2 => ⟨s.a, s.b, 0, 0⟩
  | 3 => ⟨s.a, s.b, s.c, 0⟩
  | _ => s
theorem mix_set (s d : IP) (pr tl id ts : Int) (wh mo : Bool) (fo : Int) (op : Value) (k : Nat) (hk : k < 4) :
    ((PK.cells ⟨mixI k s, mixI k d, pr, tl, id, ts, wh, mo, fo, op⟩).setIfInBounds k (.int .u8 ((s.l.getD k 0).toNat : Int))).setIfInBounds (4 + k) (.int .u8 ((d.l.getD k 0).toNat : Int)) = PK.cells ⟨mixI (k + 1) s, mixI (k + 1) d, pr, tl, id, ts, wh, mo, fo, op⟩ := by
  match k, hk with
  | 0, _ => rfl
  | 1, _ => rfl
  | 2, _ => rfl
  | 3, _ => rfl
theorem mix_cells (s d : IP) (pr tl id ts : Int) (wh mo : Bool) (fo : Int) (op : Value) (k : Nat) (hk : k < 4) {w : World} {g : Nat} (h : Blk w g 26 (PK.cells ⟨mixI k s, mixI k d, pr, tl, id, ts, wh, mo, fo, op⟩)) :
    (∃ u, w.cell? ⟨g, k, none⟩ = some u) ∧ (∃ u, w.cell? ⟨g, 4 + k, none⟩ = some u) := by
  rw [h.cell k, h.cell (4 + k)]
  match k, hk with
  | 0, _ => exact ⟨⟨_, rfl⟩, ⟨_, rfl⟩⟩
  | 1, _ => exact ⟨⟨_, rfl⟩, ⟨_, rfl⟩⟩
  | 2, _ => exact ⟨⟨_, rfl⟩, ⟨_, rfl⟩⟩
  | 3, _ => exact ⟨⟨_, rfl⟩, ⟨_, rfl⟩⟩
set_option maxRecDepth 100000 in
set_option maxHeartbeats 40000000 in
theorem rdec9 (L : List UInt8) (v : Value) (w : World) (hr : Rd w v L) (hmax : L.length ≤ 140737488355000) : Calls Tryd.prog 13 #[v] w (IREnd w L) := by
  obtain ⟨A, c, rfl, hc1, hc2⟩ := hr.form
  obtain ⟨n, hn⟩ : ∃ n, n = L.length := ⟨_, rfl⟩
  rw [← hn] at hr hc1 hmax ⊢
  have HN := Lib.hid hn
  clear hn
  go_enter Tryd.func13, Tryd.ntmps13
  go_upto_region 2 with (fail)
  refine boxZ (motive := fun X => Code.wp Tryd.prog _ _ _ X) ?_
  intro X hB hX hzR hzN
  have hrX := hr.mono hB
  by_cases h20 : n < 20
  · have g1 : decide ((n : Int) < 20) = true := by simp; omega
    have HC := Lib.hid (show ipC L = 3 by unfold ipC; rw [← HN.out, if_pos h20])
    clear hrX
    go_wp2_with (first | ((with_reducible refine at_slot 16 ?_); refine wpList_loadB rfl 26 (.tmp 5) rfl hzN rfl Tryd.underlying26 rfl PK.info ?_) | (refine wpList_storeB rfl 26 (.tmp 2) (.tmp 16) rfl rfl hzR PK.zeroC rfl rfl PK.info rfl PK.zero_one ?_))
    (try simp only [Exit.inBlock, Exit.then])
    have hz2 := (heap_setRow (cells := PK.zeroC) hzR).1
    refine bodyPost_ret (by exact ret_pk rfl _ _ rfl hz2 rfl) (by rfl) ?_
    exact .inl ⟨by rw [HC.out]; decide, by rw [HC.out]; rfl, below_setRow hB hzR (by omega)⟩
  have g1 : decide ((n : Int) < 20) = false := by simp; omega
  have h20' : 20 ≤ n := by omega
  obtain ⟨bb, oo, rfl, hbl, hcs⟩ := hrX.at_ 0 (by rw [← HN.out]; omega)
  have e0 := hcs 0 (by rw [← HN.out]; omega)
  rw [← getD_at L 0, Nat.add_zero] at e0
  have hcs' : ∀ (j : Nat), j < n → X.cell? ⟨bb, oo + j, none⟩ = some (.int .u8 ((L.getD j 0).toNat : Int)) := fun j hj => by rw [getD_at L j (by rw [← HN.out]; exact hj)]; exact hcs j (by rw [← HN.out]; exact hj)
  have HCS := Lib.hid hcs'
  clear hcs hcs'
  have hblw : bb < w.heap.size := by
    obtain ⟨b', o', e, hlt, _⟩ := hr.at_ 0 (by rw [← HN.out]; omega)
    injection e with e
    injection e with e1 e2
    omega
  have C1 : ipC L = if (L.getD 0 0).toNat / 16 ≠ 4 then 90 else if ihd L < 20 ∨ n < ihd L ∨ b16 L 2 < ihd L ∨ (n : Int) < b16 L 2 then 91
      else if sumw (L.take (ihd L)) 0 ≠ 65535 then 5 else if okO (iopL L) = false then 92 else if (L.getD 8 0).toNat = 0 then 93 else if 32768 ≤ b16 L 6 then 1 else 0 := by
    unfold ipC iopL
    rw [← HN.out, if_neg h20]
  obtain ⟨x, hx⟩ : ∃ x, x = L.getD 0 0 := ⟨_, rfl⟩
  obtain ⟨hd, hhd⟩ : ∃ hd, hd = ihd L := ⟨_, rfl⟩
  have hhx : hd = x.toNat % 16 * 4 := by rw [hhd, hx]; rfl
  obtain ⟨sz, hsz⟩ : ∃ sz : Nat, b16 L 2 = (sz : Int) := ⟨(b16 L 2).toNat, by have := b16_bd L 2; omega⟩
  have hszb := b16_bd L 2
  rw [hsz] at hszb C1
  rw [← hx, ← hhd] at C1
  rw [← hx] at e0
  have hxl := UInt8.toNat_lt x
  have HHX := Lib.hid hhx
  have HHD := Lib.hid hhd
  have HSZ := Lib.hid hsz
  have HC1 := Lib.hid C1
  have i0 : (0 : Int) < (n : Int) := by omega
  clear C1 hhd hsz h20 hhx hx
  by_cases hv : x.toNat / 16 ≠ 4
  · have g2 : ((x.toNat : Int) / 16 != 4) = true := by simp; omega
    have HC := Lib.hid (show ipC L = 90 by rw [HC1.out, if_pos hv])
    clear hv
    go_wp2_with (first | ((with_reducible refine at_slot 22 ?_); refine wpList_loadB rfl 26 (.tmp 5) rfl hzN rfl Tryd.underlying26 rfl PK.info ?_) | (refine wpList_storeB rfl 26 (.tmp 2) (.tmp 22) rfl rfl hzR PK.zeroC rfl rfl PK.info rfl PK.zero_one ?_))
    (try simp only [Exit.inBlock, Exit.then])
    have hz2 := (heap_setRow (cells := PK.zeroC) hzR).1
    refine bodyPost_ret (by exact ret_pk rfl _ _ rfl hz2 rfl) (by rfl) ?_
    exact .inl ⟨by rw [HC.out]; decide, by rw [HC.out]; rfl, below_setRow hB hzR (by omega)⟩
  have g2 : ((x.toNat : Int) / 16 != 4) = false := by simp; omega
  have hC2 := HC1.out
  rw [if_neg hv] at hC2
  have HC2 := Lib.hid hC2
  clear hC2 hv HC1
  go_wp2_with fail
  refine (rat' _ L 2 2 rfl _ hrX (by rw [← HN.out]; omega) (by rw [← HN.out]; omega)).mono ?_
  rintro e w' ⟨rfl, rfl⟩
  rw [HSZ.out]
  have hh : (x.toNat : Int) % 16 * 4 = (hd : Int) := by rw [HHX.out]; omega
  rw [hh]
  clear hh
  by_cases hl : hd < 20 ∨ n < hd ∨ (sz : Int) < hd ∨ (n : Int) < sz
  · have HC := Lib.hid (show ipC L = 91 by rw [HC2.out, if_pos hl])
    have key : (decide (hd < 20) = true ∧ decide ((hd : Int) < 20) = true) ∨ (decide (hd < 20) = false ∧ decide ((hd : Int) < 20) = false ∧ decide (n < hd) = true) ∨
        (decide (hd < 20) = false ∧ decide ((hd : Int) < 20) = false ∧ decide (n < hd) = false ∧ decide (sz < hd) = true) ∨ (decide (hd < 20) = false ∧ decide ((hd : Int) < 20) = false ∧ decide (n < hd) = false ∧ decide (sz < hd) = false ∧ decide (n < sz) = true) := by
      simp only [decide_eq_true_eq, decide_eq_false_iff_not]
      omega
    clear hl
    rcases key with ⟨k1, k2⟩ | ⟨k1, k2, k3⟩ | ⟨k1, k2, k3, k4⟩ | ⟨k1, k2, k3, k4, k5⟩
    all_goals
      go_wp2_with (first | ((with_reducible refine at_slot 50 ?_); refine wpList_loadB rfl 26 (.tmp 5) rfl hzN rfl Tryd.underlying26 rfl PK.info ?_) | (refine wpList_storeB rfl 26 (.tmp 2) (.tmp 50) rfl rfl hzR PK.zeroC rfl rfl PK.info rfl PK.zero_one ?_))
      (try simp only [Exit.inBlock, Exit.then])
      have hz2 := (heap_setRow (cells := PK.zeroC) hzR).1
      refine bodyPost_ret (by exact ret_pk rfl _ _ rfl hz2 rfl) (by rfl) ?_
      exact .inl ⟨by rw [HC.out]; decide, by rw [HC.out]; rfl, below_setRow hB hzR (by omega)⟩
  have hC3 := HC2.out
  rw [if_neg hl] at hC3
  have HC3 := Lib.hid hC3
  have h1 : 20 ≤ hd := by omega
  have h2 : hd ≤ n := by omega
  have h3 : hd ≤ sz := by omega
  have h4 : sz ≤ n := by omega
  have k1 : decide (hd < 20) = false := by simp; omega
  have k2 : decide ((hd : Int) < 20) = false := by simp; omega
  have k3 : decide (n < hd) = false := by simp; omega
  have k4 : decide (sz < hd) = false := by simp; omega
  have k5 : decide (n < sz) = false := by simp; omega
  clear hl hC3 HC2
  go_wp2_with ((with_reducible refine at_slot 53 ?_); refine wpList_slice2 rfl (.tmp 51) none (some (.tmp 52)) rfl hrX rfl 0 (hd : Int) .no (.yes rfl rfl) (by omega) (by omega) (by rw [← HN.out]; omega) ?_; intro m1 A1 c1 hm1 m1c m1d hr1)
  have em1 : m1 = L.take hd := by rw [hm1.out]; simp
  refine (rsum _ m1 _ hr1 (by rw [em1]; simp; omega)).mono ?_
  rintro e w1 ⟨rfl, rfl⟩
  rw [em1]
  obtain ⟨hS0, hS1⟩ := sumw_bd (L.take hd) 0 (by omega) (by omega)
  obtain ⟨S, hS⟩ : ∃ S, S = sumw (L.take hd) 0 := ⟨_, rfl⟩
  rw [← hS] at hS0 hS1 ⊢
  have hC3 := HC3.out
  rw [← hS] at hC3
  have HC3' := Lib.hid hC3
  clear em1 hm1 hr1 m1c m1d hS hC3 HC3 e0
  by_cases hsum : S ≠ 65535
  · have g3 : ((65535 : Int) - S != 0) = true := by simp; omega
    have HC := Lib.hid (show ipC L = 5 by rw [HC3'.out, if_pos hsum])
    clear hsum
    go_wp2_with (first | ((with_reducible refine at_slot 56 ?_); refine wpList_loadB rfl 26 (.tmp 5) rfl hzN rfl Tryd.underlying26 rfl PK.info ?_) | (refine wpList_storeB rfl 26 (.tmp 2) (.tmp 56) rfl rfl hzR PK.zeroC rfl rfl PK.info rfl PK.zero_one ?_))
    (try simp only [Exit.inBlock, Exit.then])
    have hz2 := (heap_setRow (cells := PK.zeroC) hzR).1
    refine bodyPost_ret (by exact ret_pk rfl _ _ rfl hz2 rfl) (by rfl) ?_
    exact .inl ⟨by rw [HC.out]; decide, by rw [HC.out]; rfl, below_setRow hB hzR (by omega)⟩
  obtain rfl : S = 65535 := by omega
  clear hsum
  have hC4 := HC3'.out
  rw [if_neg (by simp)] at hC4
  have HC4 := Lib.hid hC4
  clear hC4 HC3' hS0 hS1
  go_wp2_with ((with_reducible refine at_slot 59 ?_); refine wpList_slice2 rfl (.tmp 57) (some (.const (.int .i64 20))) (some (.tmp 58)) rfl hrX rfl 20 (hd : Int) (.yes rfl rfl) (.yes rfl rfl) (by omega) (by omega) (by rw [← HN.out]; omega) ?_; intro m2 A2 c2 hm2 m2c m2d hr2)
  have em2 : m2 = iopL L := by rw [hm2.out, iopL, ← HHD.out]; simp
  refine (rright _ m2 _ hr2).mono ?_
  rintro e w2 ⟨rfl, rfl⟩
  rw [em2]
  obtain ⟨B, hBo⟩ : ∃ B, B = okO (iopL L) := ⟨_, rfl⟩
  rw [← hBo]
  have hC4 := HC4.out
  rw [← hBo] at hC4
  have HC4' := Lib.hid hC4
  clear em2 hm2 hr2 m2c m2d hBo hC4 HC4
  cases B
  · have HC := Lib.hid (show ipC L = 92 by rw [HC4'.out]; rfl)
    go_wp2_with (first | ((with_reducible refine at_slot 63 ?_); refine wpList_loadB rfl 26 (.tmp 5) rfl hzN rfl Tryd.underlying26 rfl PK.info ?_) | (refine wpList_storeB rfl 26 (.tmp 2) (.tmp 63) rfl rfl hzR PK.zeroC rfl rfl PK.info rfl PK.zero_one ?_))
    (try simp only [Exit.inBlock, Exit.then])
    have hz2 := (heap_setRow (cells := PK.zeroC) hzR).1
    refine bodyPost_ret (by exact ret_pk rfl _ _ rfl hz2 rfl) (by rfl) ?_
    exact .inl ⟨by rw [HC.out]; decide, by rw [HC.out]; rfl, below_setRow hB hzR (by omega)⟩
  have hC5 := HC4'.out
  rw [if_neg (by simp)] at hC5
  have HC5 := Lib.hid hC5
  clear hC5 HC4'
  obtain ⟨y8, hy8⟩ : ∃ y, y = L.getD 8 0 := ⟨_, rfl⟩
  have d8 := HCS.out 8 (by omega)
  rw [← hy8] at d8 HC5
  have hy8l := UInt8.toNat_lt y8
  have i8 : (8 : Int) < (n : Int) := by omega
  have HY8 := Lib.hid hy8
  clear hy8
  by_cases hy0 : y8.toNat = 0
  · have g4 : ((y8.toNat : Int) == 0) = true := by simp; omega
    have HC := Lib.hid (show ipC L = 93 by rw [HC5.out, if_pos hy0])
    clear hy0
    go_wp2_with (first | ((with_reducible refine at_slot 68 ?_); refine wpList_loadB rfl 26 (.tmp 5) rfl hzN rfl Tryd.underlying26 rfl PK.info ?_) | (refine wpList_storeB rfl 26 (.tmp 2) (.tmp 68) rfl rfl hzR PK.zeroC rfl rfl PK.info rfl PK.zero_one ?_))
    (try simp only [Exit.inBlock, Exit.then])
    have hz2 := (heap_setRow (cells := PK.zeroC) hzR).1
    refine bodyPost_ret (by exact ret_pk rfl _ _ rfl hz2 rfl) (by rfl) ?_
    exact .inl ⟨by rw [HC.out]; decide, by rw [HC.out]; rfl, below_setRow hB hzR (by omega)⟩
  have g4 : ((y8.toNat : Int) == 0) = false := by simp; omega
  have hC6 := HC5.out
  rw [if_neg hy0] at hC6
  have HC6 := Lib.hid hC6
  clear hC6 HC5 hy0
  go_wp2_with fail
  refine (rat' _ L 6 6 rfl _ hrX (by rw [← HN.out]; omega) (by rw [← HN.out]; omega)).mono ?_
  rintro e w' ⟨rfl, rfl⟩
  obtain ⟨hf0, hf1⟩ := b16_bd L 6
  obtain ⟨fl, hfl⟩ : ∃ fl, fl = b16 L 6 := ⟨_, rfl⟩
  rw [← hfl] at hf0 hf1 HC6 ⊢
  have HFL := Lib.hid hfl
  clear hfl
  by_cases hff : 32768 ≤ fl
  · have g5 : decide (32768 ≤ fl) = true := by simpa using hff
    have HC := Lib.hid (show ipC L = 1 by rw [HC6.out, if_pos hff])
    clear hff
    go_wp2_with (first | ((with_reducible refine at_slot 73 ?_); refine wpList_loadB rfl 26 (.tmp 5) rfl hzN rfl Tryd.underlying26 rfl PK.info ?_) | (refine wpList_storeB rfl 26 (.tmp 2) (.tmp 73) rfl rfl hzR PK.zeroC rfl rfl PK.info rfl PK.zero_one ?_))
    (try simp only [Exit.inBlock, Exit.then])
    have hz2 := (heap_setRow (cells := PK.zeroC) hzR).1
    refine bodyPost_ret (by exact ret_pk rfl _ _ rfl hz2 rfl) (by rfl) ?_
    exact .inl ⟨by rw [HC.out]; decide, by rw [HC.out]; rfl, below_setRow hB hzR (by omega)⟩
  have g5 : decide (32768 ≤ fl) = false := by simpa using hff
  have HC := Lib.hid (show ipC L = 0 by rw [HC6.out, if_neg hff])
  have hf2 : fl ≤ 32767 := by omega
  clear hff HC6
  obtain ⟨id4, hid4⟩ : ∃ x, x = b16 L 4 := ⟨_, rfl⟩
  obtain ⟨y9, hy9⟩ : ∃ y, y = L.getD 9 0 := ⟨_, rfl⟩
  obtain ⟨y1, hy1⟩ : ∃ y, y = L.getD 1 0 := ⟨_, rfl⟩
  have d9 := HCS.out 9 (by omega)
  have d1 := HCS.out 1 (by omega)
  rw [← hy9] at d9
  rw [← hy1] at d1
  obtain ⟨b14, hb14⟩ : ∃ b, b = decide (fl / 16384 % 2 = 1) := ⟨_, rfl⟩
  obtain ⟨b13, hb13⟩ : ∃ b, b = decide (fl / 8192 % 2 = 1) := ⟨_, rfl⟩
  have a14 : (fl / 16384 % 2 == 1) = b14 := by rw [hb14]; rfl
  have a13 : (fl / 8192 % 2 == 1) = b13 := by rw [hb13]; rfl
  have t14 : fl.tdiv 16384 = fl / 16384 := Int.tdiv_eq_ediv_of_nonneg hf0
  have t13 : fl.tdiv 8192 = fl / 8192 := Int.tdiv_eq_ediv_of_nonneg hf0
  have q14 : IntKind.i64.wrap (fl / 16384) = fl / 16384 := by rw [IntKind.wrap_i64]; omega
  have q13 : IntKind.i64.wrap (fl / 8192) = fl / 8192 := by rw [IntKind.wrap_i64]; omega
  have u14 : (fl / 16384).tmod 2 = fl / 16384 % 2 := Int.tmod_eq_emod_of_nonneg (by omega)
  have u13 : (fl / 8192).tmod 2 = fl / 8192 % 2 := Int.tmod_eq_emod_of_nonneg (by omega)
  have hm13 : fl.tmod 8192 = fl % 8192 := Int.tmod_eq_emod_of_nonneg hf0
  have hw13 : IntKind.i64.wrap (fl % 8192 * 8) = fl % 8192 * 8 := by rw [IntKind.wrap_i64]; omega
  obtain ⟨s12, hs12⟩ : ∃ s : IP, s = ⟨L.getD 12 0, L.getD 13 0, L.getD 14 0, L.getD 15 0⟩ := ⟨_, rfl⟩
  obtain ⟨s16, hs16⟩ : ∃ s : IP, s = ⟨L.getD 16 0, L.getD 17 0, L.getD 18 0, L.getD 19 0⟩ := ⟨_, rfl⟩
  have hdPK : ∀ vo, dPK L vo = ⟨s12, s16, y9.toNat, y8.toNat, id4, y1.toNat, b14, b13, fl % 8192 * 8, vo⟩ := fun vo => by
    unfold dPK
    rw [hs12, hs16, hy9, HY8.out, hid4, hy1, hb14, hb13, HFL.out]
  have HDPK := Lib.hid hdPK
  have hr20 : Rd X (.slice (if c = 20 then some ⟨bb, oo, none⟩ else some ⟨bb, oo + 20, none⟩) (hd - 20) (c - 20)) (iopL L) := by
    have h := (rd_take hrX hd (by rw [← HN.out]; exact h2)).dropAt 20 (by rw [List.length_take, ← HN.out]; omega)
    simp only [Option.map_some, Nat.mul_one, add_lit] at h
    rw [iopL, ← HHD.out]
    exact h
  have hrhs : Rd X (.slice (if c = hd then some ⟨bb, oo, none⟩ else some ⟨bb, oo + hd, none⟩) (sz - hd) (c - hd)) (iplL L) := by
    have h := (rd_take hrX sz (by rw [← HN.out]; exact h4)).dropAt hd (by rw [List.length_take, ← HN.out]; omega)
    simp only [Option.map_some, Nat.mul_one, add_lit] at h
    rw [iplL, HSZ.out, ← HHD.out, Int.toNat_natCast]
    exact h
  obtain ⟨A20, hA20⟩ : ∃ A20, A20 = (if c = 20 then some (⟨bb, oo, none⟩ : Addr) else some ⟨bb, oo + 20, none⟩) := ⟨_, rfl⟩
  rw [← hA20] at hr20
  have hol : (iopL L).length ≤ 140737488355000 := by have := HN.out; rw [iopL, List.length_drop, List.length_take]; omega
  have i9 : (9 : Int) < (n : Int) := by omega
  have i1 : (1 : Int) < (n : Int) := by omega
  have hd20 : (20 : Int) ≤ (hd : Int) := by omega
  have hdc : (hd : Int) ≤ (c : Int) := by omega
  have HOL := Lib.hid hol
  have HS12 := Lib.hid (And.intro hs12 hs16)
  clear hs12 hs16 hy9 hy1 hb14 hb13 hdPK hol
  have hat : ∀ W, Rd W (.slice (some ⟨bb, oo, none⟩) n c) L → Calls Tryd.prog 28 #[.slice (some ⟨bb, oo, none⟩) n c, .int .i64 4, .int .i64 2] W fun e W' => e = .returned (.int .i64 id4) ∧ W = W' := fun W h => by rw [hid4]; exact rat' _ L 4 4 rfl W h (by rw [← HN.out]; omega) (by rw [← HN.out]; omega)
  have HAT := Lib.hid hat
  clear hat hid4
  go_upto_region 20 with (fail)
  go_cut [10] from 74 to 103 (fun v wx => IMid X ⟨IP.zero, IP.zero, y9.toNat, y8.toNat, id4, y1.toNat, b14, b13, fl % 8192 * 8, noS⟩ (iopL L) v wx)
  case first =>
    rename_i K20 hK20
    have hS0 : (fun w' : World => w'.cell? ⟨bb, oo + 9, none⟩ = some (.int .u8 (y9.toNat : Int)) ∧ w'.cell? ⟨bb, oo + 8, none⟩ = some (.int .u8 (y8.toNat : Int)) ∧ w'.cell? ⟨bb, oo + 1, none⟩ = some (.int .u8 (y1.toNat : Int))) X.drew := ⟨d9, d8, d1⟩
    have hSm : ∀ w' : World, Below X.heap.size X w' → (fun w' : World => w'.cell? ⟨bb, oo + 9, none⟩ = some (.int .u8 (y9.toNat : Int)) ∧ w'.cell? ⟨bb, oo + 8, none⟩ = some (.int .u8 (y8.toNat : Int)) ∧ w'.cell? ⟨bb, oo + 1, none⟩ = some (.int .u8 (y1.toNat : Int))) w' := fun w' hw =>
      ⟨(hw.cell (p := ⟨bb, oo + 9, none⟩) hbl).trans d9, (hw.cell (p := ⟨bb, oo + 8, none⟩) hbl).trans d8, (hw.cell (p := ⟨bb, oo + 1, none⟩) hbl).trans d1⟩
    have hBd : Below X.heap.size X X.drew := (Below.refl _ _).drew
    refine wp_region_any (by kernel_rfl) (wpAny_of_G (n := 31) (S := fun w' : World => w'.cell? ⟨bb, oo + 9, none⟩ = some (.int .u8 (y9.toNat : Int)) ∧ w'.cell? ⟨bb, oo + 8, none⟩ = some (.int .u8 (y8.toNat : Int)) ∧ w'.cell? ⟨bb, oo + 1, none⟩ = some (.int .u8 (y1.toNat : Int))) _ _ _ _ ?_)
    refine G.pure' (i := 0) (v := .slice (some ⟨bb, oo, none⟩) n c) rfl (by kernel_rfl) (fun _ _ _ h => h) (.inl ⟨rfl, fun w' _ => ?_⟩) (fun _ => hS0) ?_
    · simp [execOp, Act.eval, go_sem]
    simp only [Act.put, List.getElem_toArray, List.getElem_cons_zero, List.setIfInBounds_toArray, List.set_cons_zero, List.set_cons_succ]
    refine G.pure' (i := 1) (v := .pointer (some ⟨bb, oo + 9, none⟩)) rfl (by kernel_rfl) (fun _ _ _ h => h) (.inl ⟨rfl, fun w' _ => ?_⟩) (fun _ => hS0) ?_
    · simp [execOp, Act.eval, go_sem, i9]
    simp only [Act.put, List.getElem_toArray, List.getElem_cons_zero, List.getElem_cons_succ, List.setIfInBounds_toArray, List.set_cons_zero, List.set_cons_succ]
    refine G.load (i := 2) (v := .int .u8 (y9.toNat : Int)) rfl (by kernel_rfl) (fun _ _ _ h => h) (.inl ⟨rfl, fun w' hS => ?_⟩) (hS0) ?_
    · simp [execOp, Act.eval, hS, go_sem]
    simp only [Act.put, List.getElem_toArray, List.getElem_cons_zero, List.getElem_cons_succ, List.setIfInBounds_toArray, List.set_cons_zero, List.set_cons_succ]
    refine G.pure' (i := 3) (v := .int .i64 (y9.toNat : Int)) rfl (by kernel_rfl) (fun _ _ _ h => h) (.inl ⟨rfl, fun w' _ => ?_⟩) (fun _ => hS0) ?_
    · simp [execOp, Act.eval, go_sem, w64_u8]
    simp only [Act.put, List.getElem_toArray, List.getElem_cons_zero, List.getElem_cons_succ, List.setIfInBounds_toArray, List.set_cons_zero, List.set_cons_succ]
    refine G.pure' (i := 4) (v := .slice (some ⟨bb, oo, none⟩) n c) rfl (by kernel_rfl) (fun _ _ _ h => h) (.inl ⟨rfl, fun w' _ => ?_⟩) (fun _ => hS0) ?_
    · simp [execOp, Act.eval, go_sem]
    simp only [Act.put, List.getElem_toArray, List.getElem_cons_zero, List.getElem_cons_succ, List.setIfInBounds_toArray, List.set_cons_zero, List.set_cons_succ]
    refine G.pure' (i := 5) (v := .pointer (some ⟨bb, oo + 8, none⟩)) rfl (by kernel_rfl) (fun _ _ _ h => h) (.inl ⟨rfl, fun w' _ => ?_⟩) (fun _ => hS0) ?_
    · simp [execOp, Act.eval, go_sem, i8]
    simp only [Act.put, List.getElem_toArray, List.getElem_cons_zero, List.getElem_cons_succ, List.setIfInBounds_toArray, List.set_cons_zero, List.set_cons_succ]
    refine G.load (i := 6) (v := .int .u8 (y8.toNat : Int)) rfl (by kernel_rfl) (fun _ _ _ h => h) (.inl ⟨rfl, fun w' hS => ?_⟩) (hS0) ?_
    · simp [execOp, Act.eval, hS, go_sem]
    simp only [Act.put, List.getElem_toArray, List.getElem_cons_zero, List.getElem_cons_succ, List.setIfInBounds_toArray, List.set_cons_zero, List.set_cons_succ]
    refine G.pure' (i := 7) (v := .int .i64 (y8.toNat : Int)) rfl (by kernel_rfl) (fun _ _ _ h => h) (.inl ⟨rfl, fun w' _ => ?_⟩) (fun _ => hS0) ?_
    · simp [execOp, Act.eval, go_sem, w64_u8]
    simp only [Act.put, List.getElem_toArray, List.getElem_cons_zero, List.getElem_cons_succ, List.setIfInBounds_toArray, List.set_cons_zero, List.set_cons_succ]
    refine G.pure' (i := 8) (v := .slice (some ⟨bb, oo, none⟩) n c) rfl (by kernel_rfl) (fun _ _ _ h => h) (.inl ⟨rfl, fun w' _ => ?_⟩) (fun _ => hS0) ?_
    · simp [execOp, Act.eval, go_sem]
    simp only [Act.put, List.getElem_toArray, List.getElem_cons_zero, List.getElem_cons_succ, List.setIfInBounds_toArray, List.set_cons_zero, List.set_cons_succ]
    refine G.pure' (i := 10) (v := .slice (some ⟨bb, oo, none⟩) n c) rfl (by kernel_rfl) (fun _ _ _ h => h) (.inl ⟨rfl, fun w' _ => ?_⟩) (fun _ => hS0) ?_
    · simp [execOp, Act.eval, go_sem]
    simp only [Act.put, List.getElem_toArray, List.getElem_cons_zero, List.getElem_cons_succ, List.setIfInBounds_toArray, List.set_cons_zero, List.set_cons_succ]
    refine G.pure' (i := 11) (v := .pointer (some ⟨bb, oo + 1, none⟩)) rfl (by kernel_rfl) (fun _ _ _ h => h) (.inl ⟨rfl, fun w' _ => ?_⟩) (fun _ => hS0) ?_
    · simp [execOp, Act.eval, go_sem, i1]
    simp only [Act.put, List.getElem_toArray, List.getElem_cons_zero, List.getElem_cons_succ, List.setIfInBounds_toArray, List.set_cons_zero, List.set_cons_succ]
    refine G.load (i := 12) (v := .int .u8 (y1.toNat : Int)) rfl (by kernel_rfl) (fun _ _ _ h => h) (.inl ⟨rfl, fun w' hS => ?_⟩) (hS0) ?_
    · simp [execOp, Act.eval, hS, go_sem]
    simp only [Act.put, List.getElem_toArray, List.getElem_cons_zero, List.getElem_cons_succ, List.setIfInBounds_toArray, List.set_cons_zero, List.set_cons_succ]
    refine G.pure' (i := 13) (v := .int .i64 (y1.toNat : Int)) rfl (by kernel_rfl) (fun _ _ _ h => h) (.inl ⟨rfl, fun w' _ => ?_⟩) (fun _ => hS0) ?_
    · simp [execOp, Act.eval, go_sem, w64_u8]
    simp only [Act.put, List.getElem_toArray, List.getElem_cons_zero, List.getElem_cons_succ, List.setIfInBounds_toArray, List.set_cons_zero, List.set_cons_succ]
    refine G.pure' (i := 14) (v := .int .i64 fl) rfl (by kernel_rfl) (fun _ _ _ h => h) (.inl ⟨rfl, fun w' _ => ?_⟩) (fun _ => hS0) ?_
    · simp [execOp, Act.eval, go_sem]
    simp only [Act.put, List.getElem_toArray, List.getElem_cons_zero, List.getElem_cons_succ, List.setIfInBounds_toArray, List.set_cons_zero, List.set_cons_succ]
    refine G.pure' (i := 15) (v := .int .i64 (fl / 16384)) rfl (by kernel_rfl) (fun _ _ _ h => h) (.inl ⟨rfl, fun w' _ => ?_⟩) (fun _ => hS0) ?_
    · simp [execOp, Act.eval, go_sem, t14, q14]
    simp only [Act.put, List.getElem_toArray, List.getElem_cons_zero, List.getElem_cons_succ, List.setIfInBounds_toArray, List.set_cons_zero, List.set_cons_succ]
    refine G.pure' (i := 16) (v := .int .i64 (fl / 16384 % 2)) rfl (by kernel_rfl) (fun _ _ _ h => h) (.inl ⟨rfl, fun w' _ => ?_⟩) (fun _ => hS0) ?_
    · simp [execOp, Act.eval, go_sem, u14]
    simp only [Act.put, List.getElem_toArray, List.getElem_cons_zero, List.getElem_cons_succ, List.setIfInBounds_toArray, List.set_cons_zero, List.set_cons_succ]
    refine G.pure' (i := 17) (v := .bool b14) rfl (by kernel_rfl) (fun _ _ _ h => h) (.inl ⟨rfl, fun w' _ => ?_⟩) (fun _ => hS0) ?_
    · simp [execOp, Act.eval, go_sem, a14]
    simp only [Act.put, List.getElem_toArray, List.getElem_cons_zero, List.getElem_cons_succ, List.setIfInBounds_toArray, List.set_cons_zero, List.set_cons_succ]
    refine G.pure' (i := 18) (v := .int .i64 fl) rfl (by kernel_rfl) (fun _ _ _ h => h) (.inl ⟨rfl, fun w' _ => ?_⟩) (fun _ => hS0) ?_
    · simp [execOp, Act.eval, go_sem]
    simp only [Act.put, List.getElem_toArray, List.getElem_cons_zero, List.getElem_cons_succ, List.setIfInBounds_toArray, List.set_cons_zero, List.set_cons_succ]
    refine G.pure' (i := 19) (v := .int .i64 (fl / 8192)) rfl (by kernel_rfl) (fun _ _ _ h => h) (.inl ⟨rfl, fun w' _ => ?_⟩) (fun _ => hS0) ?_
    · simp [execOp, Act.eval, go_sem, t13, q13]
    simp only [Act.put, List.getElem_toArray, List.getElem_cons_zero, List.getElem_cons_succ, List.setIfInBounds_toArray, List.set_cons_zero, List.set_cons_succ]
    refine G.pure' (i := 20) (v := .int .i64 (fl / 8192 % 2)) rfl (by kernel_rfl) (fun _ _ _ h => h) (.inl ⟨rfl, fun w' _ => ?_⟩) (fun _ => hS0) ?_
    · simp [execOp, Act.eval, go_sem, u13]
    simp only [Act.put, List.getElem_toArray, List.getElem_cons_zero, List.getElem_cons_succ, List.setIfInBounds_toArray, List.set_cons_zero, List.set_cons_succ]
    refine G.pure' (i := 21) (v := .bool b13) rfl (by kernel_rfl) (fun _ _ _ h => h) (.inl ⟨rfl, fun w' _ => ?_⟩) (fun _ => hS0) ?_
    · simp [execOp, Act.eval, go_sem, a13]
    simp only [Act.put, List.getElem_toArray, List.getElem_cons_zero, List.getElem_cons_succ, List.setIfInBounds_toArray, List.set_cons_zero, List.set_cons_succ]
    refine G.pure' (i := 22) (v := .int .i64 fl) rfl (by kernel_rfl) (fun _ _ _ h => h) (.inl ⟨rfl, fun w' _ => ?_⟩) (fun _ => hS0) ?_
    · simp [execOp, Act.eval, go_sem]
    simp only [Act.put, List.getElem_toArray, List.getElem_cons_zero, List.getElem_cons_succ, List.setIfInBounds_toArray, List.set_cons_zero, List.set_cons_succ]
    refine G.pure' (i := 23) (v := .int .i64 (fl % 8192)) rfl (by kernel_rfl) (fun _ _ _ h => h) (.inl ⟨rfl, fun w' _ => ?_⟩) (fun _ => hS0) ?_
    · simp [execOp, Act.eval, go_sem, hm13]
    simp only [Act.put, List.getElem_toArray, List.getElem_cons_zero, List.getElem_cons_succ, List.setIfInBounds_toArray, List.set_cons_zero, List.set_cons_succ]
    refine G.pure' (i := 24) (v := .int .i64 (fl % 8192 * 8)) rfl (by kernel_rfl) (fun _ _ _ h => h) (.inl ⟨rfl, fun w' _ => ?_⟩) (fun _ => hS0) ?_
    · simp [execOp, Act.eval, go_sem, hw13]
    simp only [Act.put, List.getElem_toArray, List.getElem_cons_zero, List.getElem_cons_succ, List.setIfInBounds_toArray, List.set_cons_zero, List.set_cons_succ]
    refine G.pure' (i := 25) (v := .slice (some ⟨bb, oo, none⟩) n c) rfl (by kernel_rfl) (fun _ _ _ h => h) (.inl ⟨rfl, fun w' _ => ?_⟩) (fun _ => hS0) ?_
    · simp [execOp, Act.eval, go_sem]
    simp only [Act.put, List.getElem_toArray, List.getElem_cons_zero, List.getElem_cons_succ, List.setIfInBounds_toArray, List.set_cons_zero, List.set_cons_succ]
    refine G.pure' (i := 26) (v := .int .i64 (hd : Int)) rfl (by kernel_rfl) (fun _ _ _ h => h) (.inl ⟨rfl, fun w' _ => ?_⟩) (fun _ => hS0) ?_
    · simp [execOp, Act.eval, go_sem]
    simp only [Act.put, List.getElem_toArray, List.getElem_cons_zero, List.getElem_cons_succ, List.setIfInBounds_toArray, List.set_cons_zero, List.set_cons_succ]
    refine G.pure' (i := 27) (v := .slice A20 (hd - 20) (c - 20)) rfl (by kernel_rfl) (fun _ _ _ h => h) (.inl ⟨rfl, fun w' _ => ?_⟩) (fun _ => hS0) ?_
    · simp [execOp, Act.eval, go_sem, hd20, hdc, hA20]
    simp only [Act.put, List.getElem_toArray, List.getElem_cons_zero, List.getElem_cons_succ, List.setIfInBounds_toArray, List.set_cons_zero, List.set_cons_succ]
    refine G.two (i := 9) (j := 30) ?r1 rfl rfl ?a1 ?b1
    case r1 => kernel_rfl
    case a1 =>
      intro K hK
      refine step_call rfl rfl (enters_of Tryd.func28 (by kernel_rfl) rfl) (HAT.out _ hrX.drew) rfl ?_
      rintro e w3 ⟨rfl, rfl⟩
      refine ⟨_, rfl, hK _ _ (fun _ => hS0) ?_⟩
      clear hK K
      simp only [Act.put, List.getElem_toArray, List.getElem_cons_zero, List.getElem_cons_succ, List.setIfInBounds_toArray, List.set_cons_zero, List.set_cons_succ]
      refine G.two (i := 28) (j := 30) ?r2 rfl rfl ?a2 ?b2
      case r2 => kernel_rfl
      case a2 =>
        intro K hK
        refine step_app rfl (.const (.slice none 0 0)) (.tmp 101) rfl X.drew.heap.size (Ow.nil _ _) hr20.drew rfl ?xA1 (by have := HOL.out; simp; omega) (Nat.le_refl _) ?_
        case xA1 => simp [Act.eval]
        intro v3 w3 ho3 hb3 hg3
        rw [List.nil_append] at ho3
        have hB23 : Below X.heap.size X w3 := hBd.trans hb3
        have hS3 := hSm w3 hB23
        refine hK _ _ (fun _ => hS3) ?_
        clear hK K
        simp only [Act.put, List.getElem_toArray, List.getElem_cons_zero, List.getElem_cons_succ, List.setIfInBounds_toArray, List.set_cons_zero, List.set_cons_succ]
        obtain ⟨Av, cv, rfl, _, _⟩ := ho3.rd.form
        have hnew : Blk (w3.alloc (.cells PK.zeroC 26)) w3.heap.size 26 PK.zeroC := Blk.new w3 26 PK.zeroC _ rfl
        have hS5 := hSm _ (hB23.alloc hB23.size (.cells PK.zeroC 26))
        refine G.pure' (i := 29) (v := .agg (PK.cells ⟨IP.zero, IP.zero, y9.toNat, y8.toNat, id4, y1.toNat, b14, b13, fl % 8192 * 8, .slice Av (iopL L).length cv⟩)) rfl (by kernel_rfl) (fun _ _ _ h => h) (.inl ⟨rfl, fun w' _ => ?_⟩) (fun _ => hS3) ?_
        · simp [execOp, Act.eval, go_sem, IP.zero]
        simp only [Act.put, List.getElem_toArray, List.getElem_cons_zero, List.getElem_cons_succ, List.setIfInBounds_toArray, List.set_cons_zero, List.set_cons_succ]
        refine G.only' (i := 30) ?r30p30a rfl ?o30p30a
        case r30p30a => kernel_rfl
        intro K hK
        refine step_allocPk rfl rfl ?_
        refine hK _ _ (fun _ => hS5) ?_
        clear hK K
        simp only [Act.put, List.getElem_toArray, List.getElem_cons_zero, List.getElem_cons_succ]
        refine G.only' (i := 31) ?r31p30a rfl ?o31p30a
        case r31p30a => kernel_rfl
        intro K hK
        refine step_storePk rfl (.tmp 10) (.tmp 103) rfl hnew rfl ⟨IP.zero, IP.zero, y9.toNat, y8.toNat, id4, y1.toNat, b14, b13, fl % 8192 * 8, .slice Av (iopL L).length cv⟩ rfl ?xSa ?ySa ?_
        case xSa => simp [Act.eval]
        case ySa => simp [Act.eval]
        refine hK _ _ (fun e => Bool.noConfusion (show true = false from e)) (G.done (by kernel_rfl) ?_)
        clear hK K
        simp only [Act.put, List.getElem_toArray, List.getElem_cons_zero, List.getElem_cons_succ]
        simp only [Exit.then]
        refine hK20 _ _ ?_
        go_meet
        exact ⟨w3.heap.size, _, rfl, hB23.size, (heap_setRow hnew).1, (ho3.mono (below_alloc w3 _)).off (Touch.rowB _ hnew) (fun g hg e => by have := (owns_block_lt ho3 hg).2; have e' : g = w3.heap.size := e; omega), (fun k hk => by have := (owns_block_lt ho3 hk).2; omega), below_setRow (hB23.alloc hB23.size _) hnew hB23.size⟩
      case b2 =>
        intro K hK
        refine step_allocPk rfl rfl ?_
        have hBa : Below X.heap.size X (X.drew.alloc (.cells PK.zeroC 26)) := hBd.alloc (Nat.le_refl _) _
        have hS4 := hSm _ hBa
        refine hK _ _ (fun _ => hS4) ?_
        clear hK K
        simp only [Act.put, List.getElem_toArray, List.getElem_cons_zero, List.getElem_cons_succ, List.setIfInBounds_toArray, List.set_cons_zero, List.set_cons_succ]
        have hr20a := hr20.mono hBa
        refine G.only' (i := 28) ?r28p28b rfl ?o28p28b
        case r28p28b => kernel_rfl
        intro K hK
        refine step_app rfl (.const (.slice none 0 0)) (.tmp 101) rfl (X.drew.alloc (.cells PK.zeroC 26)).heap.size (Ow.nil _ _) hr20a rfl ?xA2 (by have := HOL.out; simp; omega) (Nat.le_refl _) ?_
        case xA2 => simp [Act.eval]
        intro v3 w3 ho3 hb3 hg3
        rw [List.nil_append] at ho3
        obtain ⟨Av, cv, rfl, _, _⟩ := ho3.rd.form
        have hS6 := hSm w3 (hBa.trans (hb3.mono (by simp)))
        have hnew : Blk w3 X.heap.size 26 PK.zeroC := (Blk.new X.drew 26 PK.zeroC X.heap.size rfl).mono hb3
        refine hK _ _ (fun _ => hS6) ?_
        clear hK K
        simp only [Act.put, List.getElem_toArray, List.getElem_cons_zero, List.getElem_cons_succ]
        refine G.pure' (i := 29) (v := .agg (PK.cells ⟨IP.zero, IP.zero, y9.toNat, y8.toNat, id4, y1.toNat, b14, b13, fl % 8192 * 8, .slice Av (iopL L).length cv⟩)) rfl (by kernel_rfl) (fun _ _ _ h => h) (.inl ⟨rfl, fun w' _ => ?_⟩) (fun _ => hS6) ?_
        · simp [execOp, Act.eval, go_sem, IP.zero]
        simp only [Act.put, List.getElem_toArray, List.getElem_cons_zero, List.getElem_cons_succ, List.setIfInBounds_toArray, List.set_cons_zero, List.set_cons_succ]
        refine G.only' (i := 31) ?r31p28b rfl ?o31p28b
        case r31p28b => kernel_rfl
        intro K hK
        refine step_storePk rfl (.tmp 10) (.tmp 103) rfl hnew rfl ⟨IP.zero, IP.zero, y9.toNat, y8.toNat, id4, y1.toNat, b14, b13, fl % 8192 * 8, .slice Av (iopL L).length cv⟩ rfl ?xSb ?ySb ?_
        case xSb => simp [Act.eval]
        case ySb => simp [Act.eval]
        refine hK _ _ (fun e => Bool.noConfusion (show true = false from e)) (G.done (by kernel_rfl) ?_)
        clear hK K
        simp only [Act.put, List.getElem_toArray, List.getElem_cons_zero, List.getElem_cons_succ]
        simp only [Exit.then]
        refine hK20 _ _ ?_
        go_meet
        exact ⟨X.heap.size, _, rfl, Nat.le_refl _, (heap_setRow hnew).1, (ho3.less (by simp)).off (Touch.rowB _ hnew) (fun g hg e => by have := (owns_block_lt ho3 hg).1; simp at this; have e' : g = X.heap.size := e; omega), (fun k hk => by have := (owns_block_lt ho3 hk).1; simp at this; omega), below_setRow (hBa.trans (hb3.mono (by simp))) hnew (Nat.le_refl _)⟩
    case b1 =>
      intro K hK
      refine step_allocPk rfl rfl ?_
      have hBa : Below X.heap.size X (X.drew.alloc (.cells PK.zeroC 26)) := hBd.alloc (Nat.le_refl _) _
      have hS4 := hSm _ hBa
      refine hK _ _ (fun _ => hS4) ?_
      clear hK K
      simp only [Act.put, List.getElem_toArray, List.getElem_cons_zero, List.getElem_cons_succ, List.setIfInBounds_toArray, List.set_cons_zero, List.set_cons_succ]
      have hr20a := hr20.mono hBa
      refine G.only' (i := 9) ?r9p9c rfl ?o9p9c
      case r9p9c => kernel_rfl
      intro K hK
      refine step_call rfl rfl (enters_of Tryd.func28 (by kernel_rfl) rfl) (HAT.out _ (hrX.mono hBa)) rfl ?_
      rintro e w3 ⟨rfl, rfl⟩
      refine ⟨_, rfl, hK _ _ (fun _ => hS4) ?_⟩
      clear hK K
      simp only [Act.put, List.getElem_toArray, List.getElem_cons_zero, List.getElem_cons_succ, List.setIfInBounds_toArray, List.set_cons_zero, List.set_cons_succ]
      refine G.only' (i := 28) ?r28p9c rfl ?o28p9c
      case r28p9c => kernel_rfl
      intro K hK
      refine step_app rfl (.const (.slice none 0 0)) (.tmp 101) rfl (X.drew.alloc (.cells PK.zeroC 26)).heap.size (Ow.nil _ _) hr20a rfl ?xA3 (by have := HOL.out; simp; omega) (Nat.le_refl _) ?_
      case xA3 => simp [Act.eval]
      intro v3 w3 ho3 hb3 hg3
      rw [List.nil_append] at ho3
      obtain ⟨Av, cv, rfl, _, _⟩ := ho3.rd.form
      have hS6 := hSm w3 (hBa.trans (hb3.mono (by simp)))
      have hnew : Blk w3 X.heap.size 26 PK.zeroC := (Blk.new X.drew 26 PK.zeroC X.heap.size rfl).mono hb3
      refine hK _ _ (fun _ => hS6) ?_
      clear hK K
      simp only [Act.put, List.getElem_toArray, List.getElem_cons_zero, List.getElem_cons_succ]
      refine G.pure' (i := 29) (v := .agg (PK.cells ⟨IP.zero, IP.zero, y9.toNat, y8.toNat, id4, y1.toNat, b14, b13, fl % 8192 * 8, .slice Av (iopL L).length cv⟩)) rfl (by kernel_rfl) (fun _ _ _ h => h) (.inl ⟨rfl, fun w' _ => ?_⟩) (fun _ => hS6) ?_
      · simp [execOp, Act.eval, go_sem, IP.zero]
      simp only [Act.put, List.getElem_toArray, List.getElem_cons_zero, List.getElem_cons_succ, List.setIfInBounds_toArray, List.set_cons_zero, List.set_cons_succ]
      refine G.only' (i := 31) ?r31p9c rfl ?o31p9c
      case r31p9c => kernel_rfl
      intro K hK
      refine step_storePk rfl (.tmp 10) (.tmp 103) rfl hnew rfl ⟨IP.zero, IP.zero, y9.toNat, y8.toNat, id4, y1.toNat, b14, b13, fl % 8192 * 8, .slice Av (iopL L).length cv⟩ rfl ?xSc ?ySc ?_
      case xSc => simp [Act.eval]
      case ySc => simp [Act.eval]
      refine hK _ _ (fun e => Bool.noConfusion (show true = false from e)) (G.done (by kernel_rfl) ?_)
      clear hK K
      simp only [Act.put, List.getElem_toArray, List.getElem_cons_zero, List.getElem_cons_succ]
      simp only [Exit.then]
      refine hK20 _ _ ?_
      go_meet
      exact ⟨X.heap.size, _, rfl, Nat.le_refl _, (heap_setRow hnew).1, (ho3.less (by simp)).off (Touch.rowB _ hnew) (fun g hg e => by have := (owns_block_lt ho3 hg).1; simp at this; have e' : g = X.heap.size := e; omega), (fun k hk => by have := (owns_block_lt ho3 hk).1; simp at this; omega), below_setRow (hBa.trans (hb3.mono (by simp))) hnew (Nat.le_refl _)⟩
  case rest =>
    obtain ⟨g, vo, rfl, hg, hbg, how, hno, hbc⟩ := hcut
    obtain ⟨w4, rfl⟩ : ∃ x, x = wc := ⟨_, rfl⟩
    have hB4 := below_step hB hB.size hbc
    have hzR4 := hzR.mono hbc
    have hr4 := hrhs.mono hbc
    have z24 := hbc.size
    have zw2 := hB.size
    obtain ⟨Av, cv, rfl, _, _⟩ := how.rd.form
    have hbg' : Blk w4 g 26 (PK.cells ⟨mixI 0 s12, mixI 0 s16, y9.toNat, y8.toNat, id4, y1.toNat, b14, b13, fl % 8192 * 8, .slice Av (iopL L).length cv⟩) := hbg
    have hs12 : ∀ k, k < 4 → (s12.l.getD k 0) = L.getD (12 + k) 0 := fun k hk => by
      rw [HS12.out.1]
      match k, hk with
      | 0, _ => rfl
      | 1, _ => rfl
      | 2, _ => rfl
      | 3, _ => rfl
    have hs16 : ∀ k, k < 4 → (s16.l.getD k 0) = L.getD (16 + k) 0 := fun k hk => by
      rw [HS12.out.2]
      match k, hk with
      | 0, _ => rfl
      | 1, _ => rfl
      | 2, _ => rfl
      | 3, _ => rfl
    have H1216 := Lib.hid (And.intro hs12 hs16)
    have hE4 : ∀ j, j < n → w4.cell? ⟨bb, oo + j, none⟩ = some (.int .u8 ((L.getD j 0).toNat : Int)) := fun j hj => (hbc.cell (p := ⟨bb, oo + j, none⟩) hbl).trans (HCS.out j hj)
    have HE4 := Lib.hid hE4
    have hrh2 : ∀ W, Below X.heap.size X W → Rd W (.slice (if c = hd then some ⟨bb, oo, none⟩ else some ⟨bb, oo + hd, none⟩) (sz - hd) (c - hd)) (iplL L) := fun W h => hrhs.mono h
    have HGO := Lib.hid (show ∀ k, (Value.slice Av (iopL L).length cv).ownBlock = some k → ¬ k = g from fun k hk e => hno k hk e)
    have hbcc := hbc
    clear hzN d8 d9 d1 hr20 hrhs hbg a14 a13 t14 t13 u14 u13 q14 q13 hm13 hw13 hbc hB hrX hs12 hs16 hE4 hzR
    obtain ⟨Ah, hAh⟩ : ∃ Ah, Ah = (if c = hd then some (⟨bb, oo, none⟩ : Addr) else some ⟨bb, oo + hd, none⟩) := ⟨_, rfl⟩
    rw [← hAh] at hr4 hrh2
    have HRH := Lib.hid (And.intro hbcc hrh2)
    clear hrh2 hbcc
    have HAH := Lib.hid hAh
    have HA20 := Lib.hid hA20
    clear hAh hA20
    go_wp2
    go_loopw [11] (fun i wr => ∃ k : Nat, i = .int .i64 k ∧ k ≤ 4 ∧ Blk wr g 26 (PK.cells ⟨mixI k s12, mixI k s16, y9.toNat, y8.toNat, id4, y1.toNat, b14, b13, fl % 8192 * 8, .slice Av (iopL L).length cv⟩) ∧ Touch (fun x => x = g) w4 wr) (fun i _ => 4 - (intOf i).toNat)
    case atStart => exact ⟨0, rfl, by omega, hbg', Touch.refl _ _⟩
    case round =>
      obtain ⟨k, rfl, hk, hbr, hT⟩ := hrel
      clear hbg'
      by_cases hlt : k < 4
      · have hcell : ∀ j, j < n → wr.cell? ⟨bb, oo + j, none⟩ = some (.int .u8 ((L.getD j 0).toNat : Int)) := fun j hj =>
          (World.cell?_of_block (w := w4) (a := ⟨bb, oo + j, none⟩) (hT.block bb (by omega) (by show ¬ bb = g; omega))).trans (HE4.out j hj)
        have c12 := hcell (12 + k) (by omega)
        have c16 := hcell (16 + k) (by omega)
        rw [← H1216.out.1 k hlt] at c12
        rw [← H1216.out.2 k hlt] at c16
        obtain ⟨yk, hyk⟩ : ∃ y, y = s12.l.getD k 0 := ⟨_, rfl⟩
        obtain ⟨zk, hzk⟩ : ∃ z, z = s16.l.getD k 0 := ⟨_, rfl⟩
        rw [← hyk] at c12
        rw [← hzk] at c16
        have HK := Lib.hid (And.intro hyk hzk)
        obtain ⟨⟨u1, hu1⟩, ⟨u2, hu2⟩⟩ := mix_cells s12 s16 _ _ _ _ _ _ _ _ k hlt hbr
        have f1 := hbr.free k
        have f2 := hbr.free (4 + k)
        have hk4 : (k : Int) < 4 := by omega
        have n12 : 12 + (k : Int) < (n : Int) := by omega
        have n16 : 16 + (k : Int) < (n : Int) := by omega
        have t12 : (12 + (k : Int)).toNat = 12 + k := by omega
        have t16 : (16 + (k : Int)).toNat = 16 + k := by omega
        clear hyk hzk hcell
        go_wp2
        go_roundw
        case rel =>
          refine ⟨k + 1, by go_num, by omega, ?_, ?_⟩
          · have h := (hbr.set k (.int .u8 (yk.toNat : Int))).set (4 + k) (.int .u8 (zk.toNat : Int))
            rw [HK.out.1, HK.out.2, mix_set s12 s16 _ _ _ _ _ _ _ _ k hlt] at h
            rw [HK.out.1, HK.out.2]
            exact h
          · exact (hT.trans (Touch.set (S := fun x => x = g) wr (p := ⟨g, k, none⟩) rfl _)).trans (Touch.set (S := fun x => x = g) _ (p := ⟨g, 4 + k, none⟩) rfl _)
        case measure => simp [intOf]; omega
      · obtain rfl : k = 4 := by omega
        have hbr' : Blk wr g 26 (PK.cells ⟨s12, s16, y9.toNat, y8.toNat, id4, y1.toNat, b14, b13, fl % 8192 * 8, .slice Av (iopL L).length cv⟩) := hbr
        have hB4r : Below X.heap.size w4 wr := hT.below (fun k hk => by have e : k = g := hk; omega) (by omega)
        have hBr := hB4.trans (hB4r.mono (by omega))
        have hzRr := hzR4.touch hT (by show ¬ w.heap.size = g; omega)
        have hrr : Rd wr (.slice Ah (sz - hd) (c - hd)) (iplL L) := HRH.out.2 wr (HRH.out.1.trans hB4r)
        have how' := how.off hT (fun k hk e => HGO.out k hk e)
        have zr := hT.size
        have hszc : (sz : Int) ≤ (c : Int) := by omega
        have hhs : (hd : Int) ≤ (sz : Int) := by omega
        have hAh := HAH.out
        clear hbr hB4 hzR4 hr4 hT hB4r how
        go_upto_region 26 with (fail)
        rename_i K26 hK26
        have hS0 : (fun w' : World => Blk w' g 26 (PK.cells ⟨s12, s16, y9.toNat, y8.toNat, id4, y1.toNat, b14, b13, fl % 8192 * 8, .slice Av (iopL L).length cv⟩)) wr.drew := hbr'
        refine wp_region_any (by kernel_rfl) (wpAny_of_G (n := 5) (S := fun w' => Blk w' g 26 (PK.cells ⟨s12, s16, y9.toNat, y8.toNat, id4, y1.toNat, b14, b13, fl % 8192 * 8, .slice Av (iopL L).length cv⟩)) _ _ _ _ ?_)
        refine G.load (i := 0) (v := PK.v ⟨s12, s16, y9.toNat, y8.toNat, id4, y1.toNat, b14, b13, fl % 8192 * 8, .slice Av (iopL L).length cv⟩) rfl (by kernel_rfl) (fun _ _ _ h => h) (yieldsIf_load_mid rfl 26 (.tmp 10) rfl g 0 rfl (PK.cells ⟨s12, s16, y9.toNat, y8.toNat, id4, y1.toNat, b14, b13, fl % 8192 * 8, .slice Av (iopL L).length cv⟩).toList _ (fun w' hw => Blk.rangeP hw) Tryd.underlying26 rfl PK.info) hS0 ?_
        simp only [Act.put, List.getElem_toArray, List.getElem_cons_zero, List.setIfInBounds_toArray, List.set_cons_zero, List.set_cons_succ]
        refine G.pure' (i := 1) (v := .slice (some ⟨bb, oo, none⟩) n c) rfl (by kernel_rfl) (fun _ _ _ h => h) (.inl ⟨rfl, fun w' _ => ?_⟩) (fun _ => hS0) ?_
        · simp [execOp, Act.eval, go_sem]
        simp only [Act.put, List.getElem_toArray, List.getElem_cons_zero, List.getElem_cons_succ, List.setIfInBounds_toArray, List.set_cons_zero, List.set_cons_succ]
        refine G.pure' (i := 2) (v := .int .i64 (hd : Int)) rfl (by kernel_rfl) (fun _ _ _ h => h) (.inl ⟨rfl, fun w' _ => ?_⟩) (fun _ => hS0) ?_
        · simp [execOp, Act.eval, go_sem]
        simp only [Act.put, List.getElem_toArray, List.getElem_cons_zero, List.getElem_cons_succ, List.setIfInBounds_toArray, List.set_cons_zero, List.set_cons_succ]
        refine G.pure' (i := 3) (v := .int .i64 (sz : Int)) rfl (by kernel_rfl) (fun _ _ _ h => h) (.inl ⟨rfl, fun w' _ => ?_⟩) (fun _ => hS0) ?_
        · simp [execOp, Act.eval, go_sem]
        simp only [Act.put, List.getElem_toArray, List.getElem_cons_zero, List.getElem_cons_succ, List.setIfInBounds_toArray, List.set_cons_zero, List.set_cons_succ]
        refine G.pure' (i := 4) (v := .slice Ah (sz - hd) (c - hd)) rfl (by kernel_rfl) (fun _ _ _ h => h) (.inl ⟨rfl, fun w' _ => ?_⟩) (fun _ => hS0) ?_
        · simp [execOp, Act.eval, go_sem, hszc, hhs, hAh]
        simp only [Act.put, List.getElem_toArray, List.getElem_cons_zero, List.getElem_cons_succ, List.setIfInBounds_toArray, List.set_cons_zero, List.set_cons_succ]
        refine G.only' (i := 5) ?r5q rfl ?o5q
        case r5q => kernel_rfl
        intro K hK
        have hzRd : Blk wr.drew w.heap.size 26 PK.zeroC := hzRr
        refine step_storePk rfl (.tmp 2) (.tmp 124) rfl hzRd rfl ⟨s12, s16, y9.toNat, y8.toNat, id4, y1.toNat, b14, b13, fl % 8192 * 8, .slice Av (iopL L).length cv⟩ rfl ?xq ?yq ?_
        case xq => simp [Act.eval]
        case yq => simp [Act.eval]
        refine hK _ _ (fun e => Bool.noConfusion (show true = false from e)) ?_
        clear hK K
        simp only [Act.put, List.getElem_toArray, List.getElem_cons_zero, List.getElem_cons_succ]
        refine G.pure' (i := 6) (v := .slice Ah (sz - hd) (c - hd)) rfl (by kernel_rfl) (fun _ _ _ h => h) (.inl ⟨rfl, fun w' _ => ?_⟩) (fun e => Bool.noConfusion (show true = false from e)) ?_
        · simp [execOp, Act.eval, go_sem]
        simp only [Act.put, List.getElem_toArray, List.getElem_cons_zero, List.getElem_cons_succ, List.setIfInBounds_toArray, List.set_cons_zero, List.set_cons_succ]
        refine G.lastPure (i := 7) (v := .int .i64 0) (by kernel_rfl) (by kernel_rfl) rfl (.inl ⟨rfl, fun w' _ => ?_⟩) (fun e => Bool.noConfusion (show true = false from e)) ?_
        · simp [execOp, Act.eval, go_sem]
        simp only [Act.put, List.getElem_toArray, List.getElem_cons_zero, List.getElem_cons_succ, List.setIfInBounds_toArray, List.set_cons_zero, List.set_cons_succ]
        simp only [Exit.then]
        refine hK26 _ _ ?_
        clear hK26 K26
        have hz2 := (heap_setRow (cells := PK.cells ⟨s12, s16, y9.toNat, y8.toNat, id4, y1.toNat, b14, b13, fl % 8192 * 8, .slice Av (iopL L).length cv⟩) hzRd).1
        have hne : ∀ k, k ≠ w.heap.size → (wr.drew.setRow w.heap.size (PK.cells ⟨s12, s16, y9.toNat, y8.toNat, id4, y1.toNat, b14, b13, fl % 8192 * 8, .slice Av (iopL L).length cv⟩)).heap[k]? = wr.heap[k]? := fun k hk => (heap_setRow hzRd).2 k hk
        have HNE := Lib.hid (And.intro hne hBr.drew)
        clear hbr' hS0 hAh hne hBr
        go_wp2
        refine bodyPost_ret (by exact ret_pk rfl _ _ rfl hz2 rfl) (by rfl) ?_
        refine .inr ⟨HC.out, _, _, by rw [HDPK.out]; rfl, ?_, ?_, below_setRow HNE.out.2 hzRd (Nat.le_refl _)⟩
        · have h7 : Ow _ _ _ _ := owns_same how' fun k hk => HNE.out.1 k (by have := (owns_block_lt how' hk).1; omega)
          exact h7.less (by omega)
        · obtain ⟨A9, c9, e9, h91, h92, h93⟩ := hrr
          refine ⟨A9, c9, e9, h91, h92, h93.same (by simp [World.setRow]) fun ad had hlt => HNE.out.1 _ ?_⟩
          have hA9 : A9 = Ah := by injection e9 with e91 _ _; exact e91.symm
          rw [hA9, HAH.out] at had
          have : ad.block = bb := by split at had <;> (injection had with had; rw [← had])
          omega
end Go.Proofs.YtbhdojpgjmbogaaDoor
