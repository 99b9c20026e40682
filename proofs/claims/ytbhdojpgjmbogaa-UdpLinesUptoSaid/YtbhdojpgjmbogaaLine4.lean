/- The waiting line of package udp: NewLine, Pop, Len, Bufs. -/
import Derived.Test.YtbhdojpgjmbogaaLine3
namespace Go.Proofs.Ytbhdojpgjmbogaa
open Go.RowKit Go.Maps Go.Shelf
set_option maxHeartbeats 1600000 in
theorem lnew (w : World) : Calls Try.prog 28 #[] w fun e w' => ∃ p, e = .returned (.pointer (some ⟨p, 0, none⟩)) ∧ LAt w' w'.heap.size p (.slice none 0 0) [] ∧ w.heap.size ≤ p ∧ p < w'.heap.size ∧ Below w.heap.size w w' := by
  go_enter Try.func28, Try.ntmps28
  go_wp2
  go_ret
  exact ⟨_, rfl, ⟨Blk.new _ _ _ _ rfl, QS.nil _ _⟩, Nat.le_refl _, by simp, below_alloc w _⟩
set_option maxHeartbeats 1600000 in
theorem llen (w : World) (p base : Nat) (qv : Value) (D : List DG) (hL : LAt w base p qv D) :
    Calls Try.prog 32 #[.pointer (some ⟨p, 0, none⟩)] w fun e w' => e = .returned (.int .i64 D.length) ∧ w = w' := by
  obtain ⟨hp, hq⟩ := hL
  obtain ⟨A, c, rfl, hc1, hc2⟩ := hq.form
  have c0 := hp.cell 0
  simp only [List.getElem?_toArray, List.getElem?_cons_zero] at c0
  go_enter Try.func32, Try.ntmps32
  go_wp2
  go_ret
  exact ⟨rfl, rfl⟩
theorem DG.zero_v : DG.zero.v = .agg #[.int .u8 0, .int .u8 0, .int .u8 0, .int .u8 0, .int .i64 0, .slice none 0 0, .slice none 0 0] := rfl
set_option maxHeartbeats 4000000 in
theorem lpop_none (w : World) (p base : Nat) (qv : Value) (hL : LAt w base p qv []) :
    Calls Try.prog 30 #[.pointer (some ⟨p, 0, none⟩)] w fun e w' => e = .returned (.tuple #[DG.zero.v, .int .i64 7]) ∧ Below w.heap.size w w' := by
  go_enter Try.func30, Try.ntmps30
  go_upto_region 1 with (fail)
  refine boxz (motive := fun X => Code.wp Try.prog _ _ _ X) ?_
  intro X hB hX hs
  have hLX : LAt X base p qv [] := ⟨hL.1.mono hB, hL.2.mono hB⟩
  clear hL
  go_wp2_with fail
  refine (qpop_none _ p base qv hLX).mono ?_
  rintro e w1 ⟨rfl, hb1⟩
  have hB1 := below_step hB hB.size hb1
  have hs1 := hs.mono hb1
  clear hs hLX hB hb1
  have hzo : DG.zero.one := by intro u hu; simp [DG.cells, DG.zero] at hu; rcases hu with rfl | rfl | rfl <;> rfl
  rw [DG.zero_v]
  go_wp2_with (first | (refine wpList_storeB rfl 57 (.tmp 2) (.tmp 15) rfl rfl (hs1.alloc _) DG.zero.arr rfl rfl DG.info rfl (DG.arr_one hzo) ?_))
  (try simp only [Exit.inBlock, Exit.then])
  have hz3 := (heap_setRow (cells := DG.zero.arr) (hs1.alloc (.cells #[.int .u8 0, .int .u8 0, .int .u8 0, .int .u8 0, .int .i64 0, .slice none 0 0, .slice none 0 0] 57))).1
  refine bodyPost_ret (by exact results_dg rfl _ _ rfl hz3 rfl) (by rfl) ?_
  exact ⟨rfl, below_setRow (hB1.alloc hB1.size _) (hs1.alloc _) (Nat.le_refl _)⟩
set_option maxHeartbeats 4000000 in
theorem lpop_some (w : World) (p base : Nat) (qv : Value) (d : DG) (D : List DG) (hL : LAt w base p qv (d :: D)) (hpb : p < base) (h1 : d.one) :
    Calls Try.prog 30 #[.pointer (some ⟨p, 0, none⟩)] w fun e w' => e = .returned (.tuple #[d.v, .int .i64 0]) ∧ ∃ qv', LAt w' base p qv' D ∧ Touch (fun k => k = p) w w' ∧ qv'.ownBlock = qv.ownBlock := by
  have o1 := DG.one_da h1
  have o2 := DG.one_bu h1
  have hpl := hL.1.lt
  have hqlt : ∀ g, qv.ownBlock = some g → g < w.heap.size := fun g hg => (hL.2.lt hg).2
  go_enter Try.func30, Try.ntmps30
  go_upto_region 1 with (fail)
  refine boxz (motive := fun X => Code.wp Try.prog _ _ _ X) ?_
  intro X hB hX hs
  have hLX : LAt X base p qv (d :: D) := ⟨hL.1.mono hB, hL.2.mono hB⟩
  clear hL
  go_wp2_with fail
  refine (qpop_some _ p base qv d D hLX hpb h1).mono ?_
  rintro e w1 ⟨rfl, qv', hL1, hT1, hown⟩
  have hs1 : Blk w1 w.heap.size 57 DG.zero.arr := (hT1.block _ hs.lt (by show ¬ w.heap.size = p; omega)).trans hs
  have hT : Touch (fun k => k = p) w w1 := (Touch.of_below hB).trans hT1
  have hY0 : Blk (w1.alloc (.cells #[.int .u8 0, .int .u8 0, .int .u8 0, .int .u8 0, .int .i64 0, .slice none 0 0, .slice none 0 0] 57)) w1.heap.size 57 DG.zero.arr := Blk.new _ _ _ _ rfl
  have hY := (heap_setRow (cells := d.arr) hY0).1
  have hYf := (heap_setRow (cells := d.arr) hY0).2
  have hsA : Blk (w1.alloc (.cells #[.int .u8 0, .int .u8 0, .int .u8 0, .int .u8 0, .int .i64 0, .slice none 0 0, .slice none 0 0] 57)) w.heap.size 57 DG.zero.arr := hs1.alloc _
  have hs2 : Blk (World.setRow (w1.alloc (.cells #[.int .u8 0, .int .u8 0, .int .u8 0, .int .u8 0, .int .i64 0, .slice none 0 0, .slice none 0 0] 57)) w1.heap.size d.arr) w.heap.size 57 DG.zero.arr := (hYf _ (by have := hs1.lt; omega)).trans hsA
  clear hs hLX hT1
  go_wp2_with (first | (refine wpList_storeB rfl 57 (.tmp 4) (.tmp 11) rfl rfl hY0 d.arr rfl rfl DG.info rfl (DG.arr_one h1) ?_) | ((with_reducible refine at_slot 16 ?_); refine wpList_loadB rfl 57 (.tmp 4) rfl hY rfl Try.underlying57 rfl DG.info ?_) | (refine wpList_storeB rfl 57 (.tmp 2) (.tmp 16) rfl rfl hs2 d.arr rfl rfl DG.info rfl (DG.arr_one h1) ?_))
  (try simp only [Exit.inBlock, Exit.then])
  have hz3 := (heap_setRow (cells := d.arr) hs2).1
  have hzf := (heap_setRow (cells := d.arr) hs2).2
  refine bodyPost_ret (by exact results_dg rfl _ _ rfl hz3 rfl) (by rfl) ?_
  have hBA : Below w1.heap.size w1 (World.setRow (w1.alloc (.cells #[.int .u8 0, .int .u8 0, .int .u8 0, .int .u8 0, .int .i64 0, .slice none 0 0, .slice none 0 0] 57)) w1.heap.size d.arr) := below_setRow (below_alloc w1 _) hY0 (Nat.le_refl _)
  have hL2 : LAt (World.setRow (w1.alloc (.cells #[.int .u8 0, .int .u8 0, .int .u8 0, .int .u8 0, .int .i64 0, .slice none 0 0, .slice none 0 0] 57)) w1.heap.size d.arr) base p qv' D := ⟨hL1.1.mono hBA, hL1.2.mono hBA⟩
  have hT2 := hT.trans (Touch.of_below hBA)
  refine ⟨rfl, qv', ⟨(hzf p (by omega)).trans hL2.1, hL2.2.same (by simp [World.setRow]) fun g hg => hzf g (by have := hqlt g (hown ▸ hg); omega)⟩, ⟨hT2.os, hT2.tape, hT2.output, Nat.le_trans hT2.size (by simp [World.setRow]), fun k hk hS => (hzf k (by omega)).trans (hT2.block k hk hS)⟩, hown⟩
/-- What of a line of datagrams the law knows: each is the double of an input. -/
def Dups (w : World) (base : Nat) (its : List Itm) (D : List DG) : Prop := its.length = D.length ∧ ∀ (k : Nat) (h1 : k < its.length) (h2 : k < D.length), Dup w base its[k] D[k] ∧ its[k].bufs.length ≤ 1048576
def bufsOf (its : List Itm) : List Int := its.flatMap (·.bufs)
theorem bufsOf_len : ∀ (its : List Itm), (∀ it ∈ its, it.bufs.length ≤ 1048576) → (bufsOf its).length ≤ its.length * 1048576
  | [], _ => by simp [bufsOf]
  | it :: its, h => by
    have h1 := h it (by simp)
    have h2 := bufsOf_len its (fun x hx => h x (by simp [hx]))
    simp only [bufsOf, List.flatMap_cons, List.length_append, List.length_cons] at h2 ⊢
    omega
set_option maxRecDepth 100000 in
set_option maxHeartbeats 8000000 in
theorem lbufs (w : World) (p base : Nat) (qv : Value) (its : List Itm) (D : List DG) (hL : LAt w base p qv D) (hD : Dups w base its D) (hn : D.length ≤ 4) :
    Calls Try.prog 31 #[.pointer (some ⟨p, 0, none⟩)] w fun e w' => ∃ v, e = .returned v ∧ OwI w' w.heap.size v (bufsOf its) ∧ Below w.heap.size w w' := by
  obtain ⟨hp, hq⟩ := hL
  obtain ⟨hl, hD⟩ := hD
  obtain ⟨A, c, rfl, hc1, hc2⟩ := hq.form
  have c0 := hp.cell 0
  simp only [List.getElem?_toArray, List.getElem?_cons_zero] at c0
  have hn9 : D.length ≤ 9223372036854775807 := by omega
  go_enter Try.func31, Try.ntmps31
  go_wp2
  go_loopw [3, 12] (fun v i ws => ∃ k : Nat, i = .int .i64 k ∧ k ≤ D.length ∧ OwI ws w.heap.size v (bufsOf (its.take k)) ∧ Below w.heap.size w ws) (fun _ i _ => D.length - (intOf i).toNat)
  case atStart => exact ⟨0, rfl, Nat.zero_le _, OwI.nil _ _, Below.refl _ _⟩
  case round =>
    obtain ⟨k, rfl, hk, hv, hBs⟩ := hrel
    clear c0
    by_cases hlt : k < D.length
    · obtain ⟨g, o, rfl, hgl, hcs⟩ := hq.at_ k hlt
      have hki : k < its.length := by omega
      obtain ⟨hd, hbl⟩ := hD k hki hlt
      have htk : its.take (k + 1) = its.take k ++ [its[k]] := List.take_succ_eq_append_getElem hki
      have hlenb : (bufsOf (its.take k)).length ≤ 4 * 1048576 := by
        have h := bufsOf_len (its.take k) (fun x hx => by
          obtain ⟨j, hj, rfl⟩ := List.mem_iff_getElem.1 (List.mem_of_mem_take hx)
          exact (hD j hj (by omega)).2)
        have h4 : (its.take k).length ≤ 4 := by simp; omega
        exact Nat.le_trans h (Nat.mul_le_mul_right _ h4)
      obtain ⟨d, hdd⟩ : ∃ d, d = D[k] := ⟨_, rfl⟩
      obtain ⟨it, hit⟩ : ∃ it, it = its[k] := ⟨_, rfl⟩
      rw [← hdd] at hd hcs
      rw [← hit] at hd hbl htk
      clear hit
      have e0 := (hBs.cell (p := ⟨g, o + k * 7 + 0, none⟩) hgl).trans (hcs 0 _ rfl)
      have e1 := (hBs.cell (p := ⟨g, o + k * 7 + 1, none⟩) hgl).trans (hcs 1 _ rfl)
      have e2 := (hBs.cell (p := ⟨g, o + k * 7 + 2, none⟩) hgl).trans (hcs 2 _ rfl)
      have e3 := (hBs.cell (p := ⟨g, o + k * 7 + 3, none⟩) hgl).trans (hcs 3 _ rfl)
      have e4 := (hBs.cell (p := ⟨g, o + k * 7 + 4, none⟩) hgl).trans (hcs 4 _ rfl)
      have e5 := (hBs.cell (p := ⟨g, o + k * 7 + 5, none⟩) hgl).trans (hcs 5 _ rfl)
      have e6 := (hBs.cell (p := ⟨g, o + k * 7 + 6, none⟩) hgl).trans (hcs 6 _ rfl)
      simp only [Nat.add_zero, bv] at e0 e1 e2 e3 e4 e5 e6
      obtain ⟨Ad, cd, hda, _, _⟩ := hd.da.rd.form
      obtain ⟨Ab, cb, hbu, _, _⟩ := hd.bu.form
      rw [hda] at e5
      rw [hbu] at e6
      have hrb := (hd.bu.rd)
      rw [hbu] at hrb
      have HTK := Lib.hid htk
      have HD := Lib.hid hD
      have hBA := below_alloc wr (.cells #[.int .u8 (d.s0.toNat : Int), .int .u8 (d.s1.toNat : Int), .int .u8 (d.s2.toNat : Int), .int .u8 (d.s3.toNat : Int), .int .i64 d.port, .slice Ad it.data.length cd, .slice Ab it.bufs.length cb] 57)
      have hv1 := hv.mono hBA
      have hrb1 : RdI _ (.slice Ab it.bufs.length cb) it.bufs := (RdI.mono (RdI.mono hrb hBs) hBA)
      have zs := hBs.size
      clear hcs htk hD hdd hda hbu hd
      go_wp2_with ((with_reducible refine at_slot 19 ?_); refine wpList_appIs rfl (.tmp 16) (.tmp 18) rfl w.heap.size hv1 hrb1 rfl rfl (by omega) (by simp; omega) ?_; intro v5 w5 ho5 hb5 hg5; clear hg5)
      have hB5 := (hBs.trans (hBA.mono zs)).trans hb5
      go_roundw
      case rel => exact ⟨k + 1, by go_num, by omega, by rw [HTK.out, bufsOf, List.flatMap_append]; simpa [bufsOf] using ho5, hB5⟩
      case measure => simp [intOf]; omega
    · obtain rfl : k = D.length := by omega
      have HD := Lib.hid hD
      clear hD
      go_wp2
      go_ret
      refine ⟨_, rfl, ?_, hBs⟩
      rw [← hl, List.take_length] at hv
      exact hv
end Go.Proofs.Ytbhdojpgjmbogaa
