/- tcp.Decode, where something is refused ahead of the options. -/
import Derived.Test.YtbhdojpgjmbogaaTDec
namespace Go.Proofs.Ytbhdojpgjmbogaa
open Go.RowKit Go.Shelf
/-- What is told of bytes that are refused. -/
def ZEnd (w : World) (code : Int) (e : Ending) (w' : World) : Prop := e = .returned (.tuple #[SG.zero.v, .int .i64 code]) ∧ Below w.heap.size w w'
set_option maxRecDepth 100000 in
set_option maxHeartbeats 8000000 in
theorem tdec_short (s d : IP) (L : List UInt8) (v : Value) (w : World) (hr : Rd w v L) (h20 : L.length < 20) : Calls Try.prog 44 #[s.v, d.v, v] w (ZEnd w 3) := by
  obtain ⟨A, c, rfl, hc1, hc2⟩ := hr.form
  obtain ⟨n, hn⟩ : ∃ n, n = L.length := ⟨_, rfl⟩
  rw [← hn] at h20 ⊢
  have g1 : decide ((n : Int) < 20) = true := by simp; omega
  clear hn hc1
  go_enter Try.func44, Try.ntmps44
  go_upto_region 1 with (fail)
  refine box5 (s := s) (d := d) (g := SG.zero) (motive := fun X => Code.wp Try.prog _ _ _ X) ?_
  intro X hB hX hbs hbd hz
  go_wp2_with (refine wpList_storeB rfl 67 (.tmp 6) (.tmp 13) rfl rfl hz SG.zero.cells rfl rfl SG.info rfl (SG.one (s := SG.zero) rfl rfl) ?_)
  (try simp only [Exit.inBlock, Exit.then])
  have hz2 := (heap_setRow (cells := SG.zero.cells) hz).1
  refine bodyPost_ret (by exact ret_seg rfl _ _ rfl hz2 rfl) (by rfl) ?_
  exact ⟨rfl, below_setRow hB hz (by omega)⟩
set_option maxRecDepth 100000 in
set_option maxHeartbeats 8000000 in
theorem tdec_form (s d : IP) (L : List UInt8) (v : Value) (w : World) (hr : Rd w v L) (h20 : 20 ≤ L.length) (hmax : L.length ≤ 140737488355000) (hd : Nat) (x : UInt8) (hx : L[12]'(by omega) = x) (hhd : hd = x.toNat / 16 * 4) (hbad : hd < 20 ∨ L.length < hd) :
    Calls Try.prog 44 #[s.v, d.v, v] w (ZEnd w 4) := by
  obtain ⟨A, c, rfl, hc1, hc2⟩ := hr.form
  obtain ⟨n, hn⟩ : ∃ n, n = L.length := ⟨_, rfl⟩
  obtain ⟨bb, oo, rfl, hbl, hcs⟩ := hr.at_ 0 (by omega)
  have d12 := hcs 12 (by omega)
  rw [hx] at d12
  have HHD := Lib.hid hhd
  rw [← hn] at hr hc1 hmax h20 hbad ⊢
  have g1 : decide ((n : Int) < 20) = false := by simp; omega
  have i12 : (12 : Int) < (n : Int) := by omega
  clear hcs hn hx hhd hr
  have hxl := UInt8.toNat_lt x
  go_enter Try.func44, Try.ntmps44
  go_upto_region 1 with (fail)
  refine box5 (s := s) (d := d) (g := SG.zero) (motive := fun X => Code.wp Try.prog _ _ _ X) ?_
  intro X hB hX hbs hbd hz
  have e12 := (hB.cell (p := ⟨bb, oo + 12, none⟩) hbl).trans d12
  clear d12
  go_upto_region 4 with (fail)
  have hh : (x.toNat : Int) / 16 * 4 = (hd : Int) := by rw [HHD.out]; omega
  rw [hh]
  clear hh e12
  by_cases hA : hd < 20
  · have gA : decide (hd < 20) = true := by simpa using hA
    have gA2 : decide ((hd : Int) < 20) = true := by simp; omega
    clear hbad hA
    go_wp2_with (refine wpList_storeB rfl 67 (.tmp 6) (.tmp 29) rfl rfl hz SG.zero.cells rfl rfl SG.info rfl (SG.one (s := SG.zero) rfl rfl) ?_)
    (try simp only [Exit.inBlock, Exit.then])
    have hz2 := (heap_setRow (cells := SG.zero.cells) hz).1
    refine bodyPost_ret (by exact ret_seg rfl _ _ rfl hz2 rfl) (by rfl) ?_
    exact ⟨rfl, below_setRow hB hz (by omega)⟩
  · have gA : decide (hd < 20) = false := by simpa using hA
    have gA2 : decide ((hd : Int) < 20) = false := by simp; omega
    have gB : decide (n < hd) = true := by simp; omega
    clear hbad hA
    go_wp2_with (refine wpList_storeB rfl 67 (.tmp 6) (.tmp 29) rfl rfl hz SG.zero.cells rfl rfl SG.info rfl (SG.one (s := SG.zero) rfl rfl) ?_)
    (try simp only [Exit.inBlock, Exit.then])
    have hz2 := (heap_setRow (cells := SG.zero.cells) hz).1
    refine bodyPost_ret (by exact ret_seg rfl _ _ rfl hz2 rfl) (by rfl) ?_
    exact ⟨rfl, below_setRow hB hz (by omega)⟩
set_option maxRecDepth 100000 in
set_option maxHeartbeats 8000000 in
theorem tdec_sum (s d : IP) (L : List UInt8) (v : Value) (w : World) (hr : Rd w v L) (hmax : L.length ≤ 140737488355000) (h20 : 20 ≤ L.length) (hd : Nat) (x : UInt8) (hx : L[12]'(by omega) = x) (hhd : hd = x.toNat / 16 * 4) (h1 : 20 ≤ hd) (h2 : hd ≤ L.length)
    (hsum : csum 6 s d L ≠ 0) : Calls Try.prog 44 #[s.v, d.v, v] w (ZEnd w 5) := by
  obtain ⟨A, c, rfl, hc1, hc2⟩ := hr.form
  obtain ⟨n, hn⟩ : ∃ n, n = L.length := ⟨_, rfl⟩
  obtain ⟨bb, oo, rfl, hbl, hcs⟩ := hr.at_ 0 (by omega)
  have d12 := hcs 12 (by omega)
  rw [hx] at d12
  have HN := Lib.hid hn
  have HSUM := Lib.hid hsum
  have HHD := Lib.hid hhd
  rw [← hn] at hr hc1 hmax h20 h2 ⊢
  have g1 : decide ((n : Int) < 20) = false := by simp; omega
  have i12 : (12 : Int) < (n : Int) := by omega
  clear hcs hn hsum hx hhd
  have hxl := UInt8.toNat_lt x
  go_enter Try.func44, Try.ntmps44
  go_upto_region 1 with (fail)
  refine box5 (s := s) (d := d) (g := SG.zero) (motive := fun X => Code.wp Try.prog _ _ _ X) ?_
  intro X hB hX hbs hbd hz
  have hrX := hr.mono hB
  have e12 := (hB.cell (p := ⟨bb, oo + 12, none⟩) hbl).trans d12
  clear d12
  go_upto_region 4 with (fail)
  have hh : (x.toNat : Int) / 16 * 4 = (hd : Int) := by rw [HHD.out]; omega
  rw [hh]
  clear hh e12
  have gA : decide ((hd : Int) < 20) = false := by simp; omega
  have gA2 : decide (hd < 20) = false := by simp; omega
  have gB : decide (n < hd) = false := by simp; omega
  obtain ⟨a0, a1, a2, a3⟩ := hbs.ip4
  obtain ⟨b0, b1, b2, b3⟩ := hbd.ip4
  go_wp2_with fail
  refine (pseudo s d 6 n _).mono ?_
  rintro e w1 ⟨v1, rfl, ho1, hb1⟩
  obtain ⟨A1, c1, rfl, _, _⟩ := ho1.rd.form
  go_wp2_with fail
  refine (two_sumR s d n L A1 _ c1 c HN.out (by omega) ho1 (hrX.mono hb1)).mono ?_
  rintro e w2 ⟨rfl, hb2⟩
  obtain ⟨q, hq⟩ : ∃ q, q = csum 6 s d L := ⟨_, rfl⟩
  rw [← hq]
  have gq : (q != 0) = true := by rw [hq]; exact bne_iff_ne.2 HSUM.out
  clear hq
  have hB2 := below_step hB hB.size (below_step hb1 hb1.size hb2)
  have hz2 := (hz.mono hb1).mono hb2
  clear a0 a1 a2 a3 b0 b1 b2 b3 hbs hbd hb1 hb2 ho1 hz hrX hB
  go_wp2_with (refine wpList_storeB rfl 67 (.tmp 6) (.tmp 40) rfl rfl hz2 SG.zero.cells rfl rfl SG.info rfl (SG.one (s := SG.zero) rfl rfl) ?_)
  (try simp only [Exit.inBlock, Exit.then])
  have hz3 := (heap_setRow (cells := SG.zero.cells) hz2).1
  refine bodyPost_ret (by exact ret_seg rfl _ _ rfl hz3 rfl) (by rfl) ?_
  exact ⟨rfl, below_setRow hB2 hz2 (by omega)⟩
set_option maxRecDepth 100000 in
set_option maxHeartbeats 8000000 in
theorem tdec_long (s d : IP) (L : List UInt8) (v : Value) (w : World) (hr : Rd w v L) (hmax : L.length ≤ 140737488355000) (h20 : 20 ≤ L.length) (hd : Nat) (x : UInt8) (hx : L[12]'(by omega) = x) (hhd : hd = x.toNat / 16 * 4) (h1 : 20 ≤ hd) (h2 : hd ≤ L.length)
    (hsum : csum 6 s d L = 0) (h3 : 1024 < L.length - hd) : Calls Try.prog 44 #[s.v, d.v, v] w (ZEnd w 2) := by
  obtain ⟨A, c, rfl, hc1, hc2⟩ := hr.form
  obtain ⟨n, hn⟩ : ∃ n, n = L.length := ⟨_, rfl⟩
  obtain ⟨bb, oo, rfl, hbl, hcs⟩ := hr.at_ 0 (by omega)
  have d12 := hcs 12 (by omega)
  rw [hx] at d12
  have HN := Lib.hid hn
  have HSUM := Lib.hid hsum
  have HHD := Lib.hid hhd
  rw [← hn] at hr hc1 hmax h20 h2 h3 ⊢
  have g1 : decide ((n : Int) < 20) = false := by simp; omega
  have i12 : (12 : Int) < (n : Int) := by omega
  clear hcs hn hsum hx hhd
  have hxl := UInt8.toNat_lt x
  go_enter Try.func44, Try.ntmps44
  go_upto_region 1 with (fail)
  refine box5 (s := s) (d := d) (g := SG.zero) (motive := fun X => Code.wp Try.prog _ _ _ X) ?_
  intro X hB hX hbs hbd hz
  have hrX := hr.mono hB
  have e12 := (hB.cell (p := ⟨bb, oo + 12, none⟩) hbl).trans d12
  clear d12
  go_upto_region 4 with (fail)
  have hh : (x.toNat : Int) / 16 * 4 = (hd : Int) := by rw [HHD.out]; omega
  rw [hh]
  clear hh e12
  have gA : decide ((hd : Int) < 20) = false := by simp; omega
  have gA2 : decide (hd < 20) = false := by simp; omega
  have gB : decide (n < hd) = false := by simp; omega
  obtain ⟨a0, a1, a2, a3⟩ := hbs.ip4
  obtain ⟨b0, b1, b2, b3⟩ := hbd.ip4
  go_wp2_with fail
  refine (pseudo s d 6 n _).mono ?_
  rintro e w1 ⟨v1, rfl, ho1, hb1⟩
  obtain ⟨A1, c1, rfl, _, _⟩ := ho1.rd.form
  go_wp2_with fail
  refine (two_sumR s d n L A1 _ c1 c HN.out (by omega) ho1 (hrX.mono hb1)).mono ?_
  rintro e w2 ⟨rfl, hb2⟩
  rw [HSUM.out]
  have hB2 := below_step hB hB.size (below_step hb1 hb1.size hb2)
  have hz2 := (hz.mono hb1).mono hb2
  clear a0 a1 a2 a3 b0 b1 b2 b3 hbs hbd hb1 hb2 ho1 hz hrX hB
  have gC : decide ((1024 : Int) < (n : Int) - (hd : Int)) = true := by simp; omega
  go_wp2_with (refine wpList_storeB rfl 67 (.tmp 6) (.tmp 47) rfl rfl hz2 SG.zero.cells rfl rfl SG.info rfl (SG.one (s := SG.zero) rfl rfl) ?_)
  (try simp only [Exit.inBlock, Exit.then])
  have hz3 := (heap_setRow (cells := SG.zero.cells) hz2).1
  refine bodyPost_ret (by exact ret_seg rfl _ _ rfl hz3 rfl) (by rfl) ?_
  exact ⟨rfl, below_setRow hB2 hz2 (by omega)⟩
end Go.Proofs.Ytbhdojpgjmbogaa
