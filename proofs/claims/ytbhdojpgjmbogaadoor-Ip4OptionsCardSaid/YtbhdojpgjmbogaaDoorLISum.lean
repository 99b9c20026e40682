/- Ip4Sums: the walk: it answers true. -/
import Derived.Test.YtbhdojpgjmbogaaDoorIAwake
import Derived.Test.YtbhdojpgjmbogaaDoorIPlain
namespace Go.Proofs.YtbhdojpgjmbogaaDoor
open Go.RowKit Go.Shelf
theorem ipL_nil {p : PK} {o b : List UInt8} (h : ¬ ipE p o b = 0) : ipL p o b = [] := by unfold ipL; rw [if_neg h]
theorem ipL_len {p : PK} {o b : List UInt8} (h : ipE p o b = 0) : (ipL p o b).length = 20 + o.length + b.length := by
  unfold ipL
  rw [if_pos h, List.length_append, ihL_len]
set_option maxRecDepth 100000 in
set_option maxHeartbeats 8000000 in
theorem law_isum (p : PK) (o b : List UInt8) (vb : Value) (w : World) (hop : Rd w p.op o) (hol : o.length ≤ 140737488351232) (hb : Rd w vb b) (hbl : b.length ≤ 140737488351232) (ht : InI p.tl) :
    Calls Tryd.prog 6 #[p.v, vb] w fun e w' => e = .returned (.bool true) ∧ Below w.heap.size w w' := by
  obtain ⟨Ao, co, eo, _, _⟩ := hop.form
  obtain ⟨Ab, cb, rfl, _, _⟩ := hb.form
  have EO := Lib.hid eo
  clear eo
  go_enter Tryd.func6, Tryd.ntmps6
  go_upto_region 1 with (fail)
  refine boxP (p := p) (motive := fun X => Code.wp Tryd.prog _ _ _ X) ?_
  intro X hBX hX hs
  go_wp2_with fail
  refine (iawake _).mono ?_
  rintro e w1 ⟨rfl, hb1⟩
  have hs1 := hs.mono hb1
  have hB1 := below_step hBX hBX.size hb1
  have hop1 := hop.mono hB1
  have hbb1 := hb.mono hB1
  clear hs hBX hb1
  go_wp2_with ((with_reducible refine at_slot 11 ?_); refine wpList_loadB rfl 26 (.tmp 2) rfl hs1 rfl Tryd.underlying26 rfl PK.info ?_)
  refine (ienc p o b _ w1 hop1 (by omega) hbb1 (by omega) ht).mono ?_
  rintro e w2 ⟨v2, rfl, ho2, hb2⟩
  have hB2 := below_step hB1 hB1.size hb2
  by_cases hE : ipE p o b = 0
  · rw [hE]
    have hn := ipL_len hE
    have hs2 := hs1.mono hb2
    have hrx := ho2.rd
    obtain ⟨g, c2, rfl, hg1, hg2, hg3, hg4⟩ := ow_form ho2 (by omega)
    obtain ⟨x0, _⟩ := ow_cells ho2 0 (by omega)
    obtain ⟨_, _, _, _, _, _, _, c15⟩ := hs2.pk
    rw [EO.out] at c15
    obtain ⟨h1, h2, h40, h4, hsz⟩ := ipE_ok hE
    have eL : ipL p o b = ihL p o (20 + o.length + b.length) (ihS p o (20 + o.length + b.length)) ++ b := by
      unfold ipL
      rw [if_pos hE]
    have hT : (ipL p o b).take (20 + o.length) = ihL p o (20 + o.length + b.length) (ihS p o (20 + o.length + b.length)) := by rw [eL, ← ihL_len p o (20 + o.length + b.length) (ihS p o (20 + o.length + b.length)), List.take_left]
    have hz := ihS_sum p o (20 + o.length + b.length) h40
    have e0 : (((ipL p o b)[0]'(by omega)).toNat : Int) = 64 + (20 + (o.length : Int)) / 4 := by
      rw [← getD_at _ 0 (by omega), eL, (ihL_at p o _ _ (by omega) h1 h40 h4 b).1]
      omega
    rw [e0] at x0
    have hrt := rd_take hrx (20 + o.length) (by omega)
    rw [hT] at hrt
    rw [hn] at hrx hg3 ⊢
    have i1 : (0 : Int) ≤ 20 + (o.length : Int) := by omega
    have i2 : 20 + (o.length : Int) ≤ (c2 : Int) := by omega
    clear eL hT e0 hs1 hs2 hop1 hbb1 ho2
    go_wp2_with fail
    refine (rsum _ _ w2 hrt (by rw [ihL_len]; omega)).mono ?_
    rintro e w3 ⟨rfl, rfl⟩
    rw [hz]
    go_wp2_with fail
    go_ret
    exact ⟨rfl, hB2⟩
  · have g1 : (ipE p o b != 0) = true := by simpa using hE
    rw [ipL_nil hE] at ho2
    obtain ⟨A2, c2, rfl, _, _⟩ := ho2.rd.form
    go_wp2_with fail
    go_ret
    exact ⟨rfl, hB2⟩
end Go.Proofs.YtbhdojpgjmbogaaDoor
