/- Ip4Turns: the walk: it answers true. -/
import Derived.Test.YtbhdojpgjmbogaaDoorLISum
import Derived.Test.YtbhdojpgjmbogaaDoorIPlain3
namespace Go.Proofs.YtbhdojpgjmbogaaDoor
open Go.RowKit Go.Shelf
theorem dPK_lit (L : List UInt8) (vo : Value) : ∃ s d a1 a2 a3 a4 a5 a6 a7, dPK L vo = ⟨s, d, a1, a2, a3, a4, a5, a6, a7, vo⟩ := ⟨_, _, _, _, _, _, _, _, _, rfl⟩
set_option maxRecDepth 100000 in
set_option maxHeartbeats 8000000 in
theorem law_iturn (p : PK) (b : List UInt8) (vb : Value) (bit : Int) (w : World) (hb : Rd w vb b) (hbl : b.length ≤ 140737488351232) (ht : InI p.tl) :
    Calls Tryd.prog 5 #[p.v, vb, .int .i64 bit] w fun e w' => e = .returned (.bool true) ∧ Below w.heap.size w w' := by
  obtain ⟨Ab, cb, rfl, _, _⟩ := hb.form
  go_enter Tryd.func5, Tryd.ntmps5
  go_upto_region 1 with (fail)
  refine boxP (p := p) (motive := fun X => Code.wp Tryd.prog _ _ _ X) ?_
  intro X hBX hX hs
  go_wp2_with fail
  refine (iawake _).mono ?_
  rintro e w1 ⟨rfl, hb1⟩
  have hs1 := hs.mono hb1
  have hB1 := below_step hBX hBX.size hb1
  have z1 := hb1.size
  obtain ⟨_, _, _, _, _, _, _, c15⟩ := hs1.pk
  have f15 := hs1.free 15
  clear hs hBX hb1
  go_upto_region 3 with (fail)
  have hs2 := hs1.set 15 noS
  have hB2 := hB1.setCell (p := ⟨w.heap.size, 15, none⟩) (Nat.le_refl _) noS
  have es : p.cells.setIfInBounds 15 noS = PK.cells { p with op := noS } := rfl
  rw [es] at hs2
  have hbb2 := hb.mono hB2
  obtain ⟨q, hq⟩ : ∃ q, q = PK.mk p.s p.d p.pr p.tl p.id p.ts p.wh p.mo p.fo noS := ⟨_, rfl⟩
  rw [← hq] at hs2
  have hqt : InI q.tl := by rw [hq]; exact ht
  have hqo : q.op = noS := by rw [hq]
  clear hq es hs1 hB1 c15 f15
  change Code.wp Tryd.prog _ _ _ (w1.setCell ⟨w.heap.size, 15, none⟩ noS)
  generalize w1.setCell _ _ = w2 at *
  go_wp2_with ((with_reducible refine at_slot 16 ?_); refine wpList_loadB rfl 26 (.tmp 3) rfl hs2 rfl Tryd.underlying26 rfl PK.info ?_)
  refine (ienc q [] b _ w2 (by rw [hqo]; exact Rd.nil _) (by simp) hbb2 (by omega) hqt).mono ?_
  rintro e w3 ⟨v3, rfl, ho3, hb3⟩
  have hB3 := below_step hB2 hB2.size hb3
  have z2 := hB2.size
  clear hs2 hbb2 hB2 hb3
  by_cases hE : ipE q [] b = 0
  · rw [hE]
    have hn := ipL_len hE
    have hT := fun i x k => dec9_turn q b hE i x k
    have hsz := (ipE_ok hE).2.2.2.2
    obtain ⟨L, hL⟩ : ∃ L, L = ipL q [] b := ⟨_, rfl⟩
    rw [← hL] at ho3 hn hT
    clear hL hE
    obtain ⟨n, hN⟩ : ∃ n, n = L.length := ⟨_, rfl⟩
    have n20 : 20 ≤ n := by rw [hN, hn]; omega
    have n64 : n ≤ 65535 := by rw [hN, hn]; simp at hsz ⊢; omega
    obtain ⟨g, c3, rfl, hg1, hg2, hg3, hg4⟩ := ow_form ho3 (by omega)
    rw [← hN] at ho3 hg3 ⊢
    have q3 : decide ((n : Int) < 20) = false := by simp; omega
    have HN := Lib.hid hN
    have HSZ := Lib.hid hsz
    clear hN hn hsz hbl
    go_upto_region 4 with (fail)
    by_cases hneg : bit < 0
    · have q1 : decide (bit < 0) = true := by simpa using hneg
      go_wp2
      go_ret
      exact ⟨rfl, hB3⟩
    · obtain ⟨B, rfl⟩ := Int.eq_ofNat_of_zero_le (show 0 ≤ bit by omega)
      have q1 : decide ((B : Int) < 0) = false := by simp
      clear hneg
      by_cases hge : 160 ≤ B
      · have q2 : decide (160 ≤ (B : Int)) = true := by simp; omega
        go_wp2
        go_ret
        exact ⟨rfl, hB3⟩
      · have q2 : decide (160 ≤ (B : Int)) = false := by simp; omega
        have e3 : (B : Int).tmod 8 = ((B % 8 : Nat) : Int) := by rw [Int.tmod_eq_emod_of_nonneg (by omega)]; simp
        have e4 : (B : Int).tdiv 8 = ((B / 8 : Nat) : Int) := by rw [Int.tdiv_eq_ediv_of_nonneg (by omega)]; simp
        obtain ⟨J, hJ⟩ : ∃ J, J = B / 8 := ⟨_, rfl⟩
        obtain ⟨K, hK⟩ : ∃ K, K = B % 8 := ⟨_, rfl⟩
        have hK8 : K < 8 := by omega
        have hJ20 : J < 20 := by omega
        rw [← hJ] at e4
        rw [← hK] at e3
        clear hJ hK hge
        have hJx : J < L.length := by rw [← HN.out]; omega
        obtain ⟨hc, hfr⟩ := ow_cells ho3 J hJx
        obtain ⟨y, hy⟩ : ∃ y, y = L[J]'hJx := ⟨_, rfl⟩
        rw [← hy] at hc
        have hyy := UInt8.toNat_lt y
        have hT' := hT J (X8 y K) K hJ20 hK8 (by rw [X8_nat y K hK8, hy, getD_at _ _ hJx])
        clear hy hT
        have hJn : (J : Int) < n := by omega
        have hK8' : (K : Int) < 8 := by omega
        go_upto_region 7 with (fail)
        rw [xor8 y K hK8]
        have ho4 := ow_set (k := J) ho3 (X8 y K)
        have hB4 := hB3.setCell (p := ⟨g, J, none⟩) (by show w.heap.size ≤ g; omega) (.int .u8 ((X8 y K).toNat : Int))
        clear hB3 ho3 hc hfr
        generalize World.setCell w3 _ _ = Z at *
        obtain ⟨M, hM⟩ : ∃ M, M = L.set J (X8 y K) := ⟨_, rfl⟩
        rw [← hM] at ho4 hT'
        have hMn : M.length = n := by rw [hM, List.length_set]; exact HN.out.symm
        clear hM
        go_wp2_with fail
        refine (idec M _ _ ho4.rd (by omega)).mono ?_
        rintro e w6 (⟨hne, rfl, hb6⟩ | ⟨h0, vo, vc, B', rfl, hB0, hvo, hvB, hvc, hb6⟩)
        · have hB6 := below_step hB4 hB4.size hb6
          have hf : (ipC M != 0) = true := by simpa using hne
          clear hne hT' ho4 hB4 hb6
          rw [zeroPk]
          go_upto_region 8 with (fail)
          refine boxP (p := ⟨⟨0, 0, 0, 0⟩, ⟨0, 0, 0, 0⟩, 0, 0, 0, 0, false, false, 0, .slice none 0 0⟩) (motive := fun X => Code.wp Tryd.prog _ _ _ X) ?_
          intro Y hBY hY hsY
          have hB7 := below_step hB6 hB6.size hBY
          clear hsY hBY hB6
          go_wp2
          go_ret
          exact ⟨rfl, hB7⟩
        · have hB6 := below_step hB4 hB4.size hb6
          obtain rfl : J = 0 := by
            rcases hT' with h | h
            · exact absurd h0 h
            · exact h
          obtain ⟨Ao, co, rfl, _, _⟩ := hvo.rd.form
          obtain ⟨Ac, cc, rfl, _, _⟩ := hvc.rd.form
          clear h0 hT' ho4 hB4 hb6 hvo hvc hvB hB0
          obtain ⟨s', d', a1, a2, a3, a4, a5, a6, a7, hq⟩ := dPK_lit M (.slice Ao (iopL M).length co)
          rw [hq]
          go_upto_region 8 with (fail)
          refine boxP (p := ⟨s', d', a1, a2, a3, a4, a5, a6, a7, .slice Ao (iopL M).length co⟩) (motive := fun X => Code.wp Tryd.prog _ _ _ X) ?_
          intro Y hBY hY hsY
          have hB7 := below_step hB6 hB6.size hBY
          clear hsY hBY hB6
          go_wp2
          go_ret
          exact ⟨rfl, hB7⟩
  · have g1 : (ipE q [] b != 0) = true := by simpa using hE
    rw [ipL_nil hE] at ho3
    obtain ⟨A2, c2, rfl, _, _⟩ := ho3.rd.form
    clear hE
    go_wp2_with fail
    go_ret
    exact ⟨rfl, hB3⟩
end Go.Proofs.YtbhdojpgjmbogaaDoor
