/- ip4.right and packhorseref09.Right: are options right? -/
import Derived.Test.YtbhdojpgjmbogaaDoorIOpts
namespace Go.Proofs.YtbhdojpgjmbogaaDoor
open Go.RowKit Go.Shelf
attribute [local go_sem] Oper.semAt_some
/-- Are none of these less than 0? -/
def allP (l : List Int) : Bool := l.all fun x => decide (0 ≤ x)
/-- Are options right? -/
def okO (b : List UInt8) : Bool := allP (lefts b)
theorem allP_snoc (l : List Int) (x : Int) : allP (l ++ [x]) = (allP l && decide (0 ≤ x)) := by simp [allP]
theorem allP_stop {l m : List Int} (hp : l <+: m) (h : allP l = false) : allP m = false := by
  obtain ⟨t, rfl⟩ := hp
  unfold allP at h ⊢
  rw [List.all_append, h]
  rfl
/-- What holds between two options. -/
def QInv (w0 : World) (pre : List Int) (W : World) : Prop := allP pre = true ∧ (∃ rb, Blk W w0.heap.size 4 #[.bool rb]) ∧ Touch (fun _ => False) w0 W
def QInvX (w0 : World) (c : Code) (pre : List Int) (W : World) : Prop := c = .ret ∧ allP pre = false ∧ Blk W w0.heap.size 4 #[.bool false] ∧ Touch (fun _ => False) w0 W
theorem QInv.from (w0 : World) (B : Nat) (hB : w0.heap.size + 2 ≤ B) : OwnFrom B (QInv w0) := by
  rintro pre W W' row ⟨h1, ⟨rb, h2⟩, h3⟩ hg hr
  have hr' := fun r e => (hr r e).1
  exact ⟨h1, ⟨rb, h2.own (by omega) hg hr'⟩, h3.own (by omega) hg hr'⟩
theorem QInvX.from (w0 : World) (B : Nat) (c : Code) (hB : w0.heap.size + 2 ≤ B) : OwnFrom B (QInvX w0 c) := by
  rintro pre W W' row ⟨h1, h2, h3, h4⟩ hg hr
  have hr' := fun r e => (hr r e).1
  exact ⟨h1, h2, h3.own (by omega) hg hr', h4.own (by omega) hg hr'⟩
theorem Touch.none {w w' : World} (h : Touch (fun _ => False) w w') : Below w.heap.size w w' := ⟨h.os, h.tape, h.output, h.size, fun k hk => h.block k hk fun e => e⟩
set_option maxRecDepth 100000 in
set_option maxHeartbeats 4000000 in
theorem iright (v : Value) (b : List UInt8) (w : World) (hv : Rd w v b) :
    Calls Tryd.prog 20 #[v] w fun e w' => e = .returned (.bool (okO b)) ∧ Below w.heap.size w w' := by
  obtain ⟨A, c, rfl, hc1, hc2⟩ := hv.form
  refine (callsIn_wide (n := 6)).1 ?_
  refine callsIn_of_wp_marks Tryd.func20 rfl trivial ?_ rfl
  simp only [Tryd.ntmps20, List.size_toArray, List.length_cons, List.length_nil, Nat.reduceAdd, Nat.reduceSub, Array.replicate_succ, Array.replicate_zero, List.push_toArray, List.append_toArray, List.nil_append, List.cons_append]
  gi_wp2_with fail
  refine ⟨trivial, ?_⟩
  refine (callsIn_wide.2 (ioptions _ _ _ _)).mono ?_
  rintro e w' ⟨rfl, rfl⟩
  gi_wp2_with fail
  have hb1 : Blk ((w.alloc (.cells #[.bool false] 4)).alloc (.cells #[.slice A b.length c] 24)) w.heap.size 4 #[.bool false] := (Blk.new w 4 #[.bool false] _ rfl).alloc _
  have hb2 : Blk ((w.alloc (.cells #[.bool false] 4)).alloc (.cells #[.slice A b.length c] 24)) (w.heap.size + 1) 24 #[.slice A b.length c] := Blk.new _ 24 _ _ (by simp)
  have hBa : Below w.heap.size w ((w.alloc (.cells #[.bool false] 4)).alloc (.cells #[.slice A b.length c] 24)) := boxes_below _ _ _
  have z2 : ((w.alloc (.cells #[.bool false] 4)).alloc (.cells #[.slice A b.length c] 24)).heap.size = w.heap.size + 2 := by simp
  obtain ⟨W2, hW2⟩ : ∃ W2, W2 = ((w.alloc (.cells #[.bool false] 4)).alloc (.cells #[.slice A b.length c] 24)) := ⟨_, rfl⟩
  rw [← hW2] at hb1 hb2 hBa z2 ⊢
  clear hW2
  refine wpIn_rangeFunc_cap rfl (by omega) (gf := 39) (lb := #[.pointer (some ⟨w.heap.size + 1, 0, none⟩)]) rfl trivial (enters_of Tryd.func39 (by kernel_rfl) rfl) (C := w.heap.size + 1) (by omega)
    (options_cap (6 - 1) (by omega) (w.heap.size + 1) w W2 (.slice A b.length c) b (by omega) hb2 hv (by omega) (fun k hk => hBa.block k (by omega)))
    (fun h k => h.trans k) (fun W l o hl => ⟨by simp, World.putObj_heap_other (by omega), fun k hk => World.putObj_heap_other (by omega)⟩) (fun _ => rfl)
    (QInv w) (QInvX w) (QInv.from w _ (by omega)) (fun c => QInvX.from w _ c (by omega))
    (fun pre W1 u h => ?hset) (fun pre W1 k h => ?hdrew) ⟨rfl, ⟨_, hb1⟩, Touch.of_below hBa⟩ ?a1 ?assign ?body ?done ?stop
  case hset =>
    obtain ⟨h1, ⟨rb, h2⟩, h3⟩ := h
    exact ⟨h1, ⟨rb, h2.far (by show w.heap.size ≠ w.heap.size + 1; omega) u⟩, ⟨h3.os, h3.tape, h3.output, by simpa [World.setCell] using h3.size, fun k hk hs => (Below.heap_setCell _ _ _ _ (by show k ≠ w.heap.size + 1; omega)).trans (h3.block k hk hs)⟩⟩
  case hdrew =>
    obtain ⟨h1, ⟨rb, h2⟩, h3⟩ := h
    exact ⟨h1, ⟨rb, h2.drew k⟩, ⟨h3.os, h3.tape, h3.output, h3.size, h3.block⟩⟩
  case assign =>
    intro l x W K hK
    gi_wp2
    exact hK
  case body =>
    rintro l pre x V ⟨hp, ⟨rb, hR⟩, hT⟩ hmem
    have r0 := hR.cell 0
    have rf := hR.free 0
    simp only [List.getElem?_toArray, List.getElem?_cons_zero] at r0
    clear hb1 hb2 hBa hmem
    by_cases hx : x < 0
    · have g0 : decide (x < 0) = true := by simpa using hx
      have HP := Lib.hid (show allP (pre ++ [x]) = false by rw [allP_snoc]; simp; omega)
      clear hp hx
      gi_wp2
      refine ⟨(KeepsOthers.setCell _ _ _).from _, rfl, HP.out, by simpa using hR.set 0 (.bool false), ?_⟩
      exact ⟨hT.os, hT.tape, hT.output, by simpa [World.setCell] using hT.size, fun k hk hs => (Below.heap_setCell _ _ _ _ (by show k ≠ w.heap.size; omega)).trans (hT.block k hk hs)⟩
    · have g0 : decide (x < 0) = false := by simpa using hx
      have HP := Lib.hid (show allP (pre ++ [x]) = true by rw [allP_snoc, hp]; simp; omega)
      clear hp hx
      gi_wp2
      exact ⟨KeepsFrom.refl _ _, OKp.refl _ _ _, HP.out, ⟨rb, hR⟩, hT⟩
  case done =>
    rintro D xs W hD hS ⟨hp, ⟨rb, hR⟩, hT⟩ hDf
    have r0 := hR.cell 0
    have rf := hR.free 0
    simp only [List.getElem?_toArray, List.getElem?_cons_zero] at r0
    rw [hS] at hp
    have HP := Lib.hid hp
    have HDF := Lib.hid hDf
    clear hp hDf hS hb1 hb2 hBa
    gi_wp2
    refine ⟨by simp, .inl ⟨_, _, rfl, run_takeDeferred ((Below.heap_setCell _ _ _ _ (by show D ≠ w.heap.size; omega)).trans HDF.out), ?_⟩⟩
    have hne1 : w.heap.size ≠ D := by omega
    have hR2 : Blk ((W.setCell ⟨w.heap.size, 0, none⟩ (.bool true)).putObj D (.deferred none)) w.heap.size 4 #[.bool true] := (World.putObj_heap_other hne1).trans (show Blk _ _ _ _ from by simpa using hR.set 0 (.bool true))
    refine ⟨_, results_cellB rfl _ rfl (hR2.cell 0), by rw [okO, HP.out], ?_⟩
    exact Touch.none ⟨hT.os, hT.tape, hT.output, by simpa [World.setCell] using hT.size, fun k hk hs => (World.putObj_heap_other (by omega)).trans ((Below.heap_setCell _ _ _ _ (by show k ≠ w.heap.size; omega)).trans (hT.block k hk hs))⟩
  case stop =>
    rintro D cx pre W hD hpre ⟨rfl, hfalse, hR, hT⟩ hDf
    have HDF := Lib.hid hDf
    have hall := allP_stop hpre hfalse
    have HA := Lib.hid hall
    clear hDf hall hfalse hb1 hb2 hBa
    gi_wp2
    refine ⟨by simp, .inl ⟨_, _, rfl, run_takeDeferred HDF.out, ?_⟩⟩
    have hne1 : w.heap.size ≠ D := by omega
    have hR2 : Blk (W.putObj D (.deferred none)) w.heap.size 4 #[.bool false] := (World.putObj_heap_other hne1).trans hR
    refine ⟨_, results_cellB rfl _ rfl (hR2.cell 0), by rw [okO, HA.out], ?_⟩
    exact Touch.none ⟨hT.os, hT.tape, hT.output, by simpa using hT.size, fun k hk hs => (World.putObj_heap_other (by omega)).trans (hT.block k hk hs)⟩
end Go.Proofs.YtbhdojpgjmbogaaDoor
