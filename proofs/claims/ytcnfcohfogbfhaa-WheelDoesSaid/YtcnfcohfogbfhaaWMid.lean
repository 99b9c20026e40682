/- The wheel: what stands in the middle of Advance. -/
import Derived.Test.YtcnfcohfogbfhaaWRows
import Derived.Test.YtcnfcohfogbfhaaWNext
namespace Go.Proofs.Ytcnfcohfogbfhaa
open Go.RowKit Go.Shelf
/-- Behind the first slots. -/
structure AdvMid (w : World) (B p : Nat) (V : Nat → Value) (A : List Tm) (tk ord : Int) (s : Nat) (cv : Value) (V' : Nat → Value) (wr : World) : Prop where
  bw : B ≤ w.heap.size
  blk : Blk wr p 57 (wcells tk V' A.length ord)
  rows : WR wr B p V' (fun r => if r < s then (slotL A r).filter (fun t => decide (tk < t.due)) else slotL A r)
  come : OwT wr w.heap.size cv (comeL A tk s)
  off : ∀ g, cv.ownBlock = some g → ¬ Ft p V' g
  rest : ∀ r, s ≤ r → r < 32 → V' r = V r
  touch : Touch (Ft p V) w wr
  foot : ∀ k, Ft p V' k → Ft p V k ∨ w.heap.size ≤ k
/-- Behind the first ones of a slot. -/
structure AdvIn (w : World) (p : Nat) (V' : Nat → Value) (C l : List Tm) (tk : Int) (k : Nat) (cv sv : Value) (wr wi : World) : Prop where
  come : OwT wi w.heap.size cv (C ++ (l.take k).filter fun t => decide (t.due ≤ tk))
  stay : OwT wi w.heap.size sv ((l.take k).filter fun t => decide (tk < t.due))
  coff : ∀ g, cv.ownBlock = some g → ¬ Ft p V' g
  soff : ∀ g, sv.ownBlock = some g → ¬ Ft p V' g
  part : ∀ g, cv.ownBlock = some g → sv.ownBlock ≠ some g
  touch : Touch (fun k => w.heap.size ≤ k ∧ ¬ Ft p V' k) wr wi
theorem AdvIn.alloc {w wr wi : World} {p k : Nat} {V' : Nat → Value} {C l : List Tm} {tk : Int} {cv sv : Value} (h : AdvIn w p V' C l tk k cv sv wr wi) (o : Obj) : AdvIn w p V' C l tk k cv sv wr (wi.alloc o) :=
  ⟨h.come.mono (below_alloc _ _), h.stay.mono (below_alloc _ _), h.coff, h.soff, h.part, h.touch.alloc o⟩
theorem AdvIn.below {w wr wi wj : World} {p k : Nat} {V' : Nat → Value} {C l : List Tm} {tk : Int} {cv sv : Value} (h : AdvIn w p V' C l tk k cv sv wr wi) (hb : Below wi.heap.size wi wj) : AdvIn w p V' C l tk k cv sv wr wj :=
  ⟨h.come.mono hb, h.stay.mono hb, h.coff, h.soff, h.part, h.touch.trans (Touch.of_below hb)⟩
theorem take_one (l : List Tm) (k : Nat) (hk : k < l.length) : l.take (k + 1) = l.take k ++ [l[k]] := by rw [List.take_add_one, List.getElem?_eq_getElem hk]; rfl
theorem AdvIn.goes {w wr wi w5 : World} {p k : Nat} {V' : Nat → Value} {C l : List Tm} {tk : Int} {cv sv v5 : Value} (h : AdvIn w p V' C l tk k cv sv wr wi) (hk : k < l.length) (hd : l[k].due ≤ tk)
    (ho : OwT w5 w.heap.size v5 ((C ++ (l.take k).filter fun t => decide (t.due ≤ tk)) ++ [l[k]])) (hg : Grew wi w5 cv v5) (hf : ∀ x, Ft p V' x → x < wi.heap.size) : AdvIn w p V' C l tk (k + 1) v5 sv wr w5 := by
  have e1 : (l.take (k + 1)).filter (fun t => decide (t.due ≤ tk)) = (l.take k).filter (fun t => decide (t.due ≤ tk)) ++ [l[k]] := by rw [take_one l k hk, List.filter_append]; simp [hd]
  have e2 : (l.take (k + 1)).filter (fun t => decide (tk < t.due)) = (l.take k).filter (fun t => decide (tk < t.due)) := by rw [take_one l k hk, List.filter_append]; simp [hd]
  have hg1 : Touch (fun x => cv.ownBlock = some x) wi w5 := Touch.grown hg.1 (fun r e => e)
  refine ⟨by rw [e1, ← List.append_assoc]; exact ho, by rw [e2]; exact h.stay.touch hg1 (fun g hs hc => h.part g hc hs), fun g hv => ?_, h.soff, fun g hv hs => ?_, h.touch.trans (hg1.mono fun x hx => ⟨(h.come.lt hx).1, h.coff x hx⟩)⟩
  · rcases hg.2 with e | e
    · exact h.coff g (by rw [← e]; exact hv)
    · rw [e] at hv
      injection hv with hv
      intro hx
      have := hf g hx
      omega
  · rcases hg.2 with e | e
    · exact h.part g (by rw [← e]; exact hv) hs
    · rw [e] at hv
      injection hv with hv
      have := (h.stay.lt hs).2
      omega
theorem AdvIn.stays {w wr wi w5 : World} {p k : Nat} {V' : Nat → Value} {C l : List Tm} {tk : Int} {cv sv v5 : Value} (h : AdvIn w p V' C l tk k cv sv wr wi) (hk : k < l.length) (hd : tk < l[k].due)
    (ho : OwT w5 w.heap.size v5 (((l.take k).filter fun t => decide (tk < t.due)) ++ [l[k]])) (hg : Grew wi w5 sv v5) (hf : ∀ x, Ft p V' x → x < wi.heap.size) : AdvIn w p V' C l tk (k + 1) cv v5 wr w5 := by
  have e1 : (l.take (k + 1)).filter (fun t => decide (t.due ≤ tk)) = (l.take k).filter (fun t => decide (t.due ≤ tk)) := by rw [take_one l k hk, List.filter_append]; simp [hd]
  have e2 : (l.take (k + 1)).filter (fun t => decide (tk < t.due)) = (l.take k).filter (fun t => decide (tk < t.due)) ++ [l[k]] := by rw [take_one l k hk, List.filter_append]; simp [hd]
  have hg1 : Touch (fun x => sv.ownBlock = some x) wi w5 := Touch.grown hg.1 (fun r e => e)
  refine ⟨by rw [e1]; exact h.come.touch hg1 (fun g hc hs => h.part g hc hs), by rw [e2]; exact ho, h.coff, fun g hv => ?_, fun g hc hv => ?_, h.touch.trans (hg1.mono fun x hx => ⟨(h.stay.lt hx).1, h.soff x hx⟩)⟩
  · rcases hg.2 with e | e
    · exact h.soff g (by rw [← e]; exact hv)
    · rw [e] at hv
      injection hv with hv
      intro hx
      have := hf g hx
      omega
  · rcases hg.2 with e | e
    · exact h.part g hc (by rw [← e]; exact hv)
    · rw [e] at hv
      injection hv with hv
      have := (h.come.lt hc).2
      omega
theorem AdvMid.enter {w wr : World} {B p s : Nat} {V V' : Nat → Value} {A : List Tm} {tk ord : Int} {cv : Value} (h : AdvMid w B p V A tk ord s cv V' wr) : AdvIn w p V' (comeL A tk s) (slotL A s) tk 0 cv noS wr wr :=
  ⟨by simpa using h.come, OwE.nil _ _, h.off, fun g hg => (by cases hg), fun g _ hg => (by cases hg), Touch.refl _ _⟩
theorem AdvMid.next {w wr wi : World} {B p s : Nat} {V V' : Nat → Value} {A : List Tm} {tk ord : Int} {cv cv2 sv : Value} (h : AdvMid w B p V A tk ord s cv V' wr) (hs : s < 32) (hi : AdvIn w p V' (comeL A tk s) (slotL A s) tk (slotL A s).length cv2 sv wr wi) :
    AdvMid w B p V A tk ord (s + 1) cv2 (fun r => if r = s then sv else V' r) (wi.setCell ⟨p, 1 + s, none⟩ sv) := by
  have hp : Ft p V' p := .inl rfl
  have hb := h.blk.touch hi.touch (fun e => e.2 hp)
  have hst : Touch (fun k => k = p) wi (wi.setCell ⟨p, 1 + s, none⟩ sv) := Touch.set (S := fun k => k = p) wi (p := ⟨p, 1 + s, none⟩) rfl sv
  have hr := (h.rows.touch hi.touch (fun k hk _ e => e.2 hk)).touch hst (fun k _ hne e => hne e)
  have hstay := hi.stay.touch hst (fun g hg e => hi.soff g hg (by rw [e]; exact hp))
  have hcome := hi.come.touch hst (fun g hg e => hi.coff g hg (by rw [e]; exact hp))
  rw [List.take_length] at hstay hcome
  refine ⟨h.bw, ?_, ?_, ?_, fun g hg hf => ?_, fun r hr1 hr2 => ?_, ?_, fun k hk => ?_⟩
  · rw [← wcells_sets _ _ _ _ s hs]
    exact hb.set (1 + s) sv
  · refine hr.put (s := s) (by rw [if_pos (by omega)]; exact hstay.less h.bw) (fun r _ hne => ?_) (fun g hg => ⟨fun e => hi.soff g hg (by rw [e]; exact hp), fun r hr hg' => hi.soff g hg (.inr ⟨r, hr, hg'⟩)⟩)
    · by_cases h1 : r < s
      · rw [if_pos (by omega), if_pos h1]
      · rw [if_neg (by omega), if_neg h1]
  · rw [comeL_succ]
    exact hcome
  · rcases ft_put hf with hf | hf
    · exact hi.coff g hg hf
    · exact hi.part g hg hf
  · rw [if_neg (by omega)]
    exact h.rest r (by omega) hr2
  · exact (h.touch.after (fun k hk => .inr hk.1) hi.touch).trans (hst.mono fun k hk => .inl hk)
  · rcases ft_put hk with hk | hk
    · exact h.foot k hk
    · exact .inr (hi.stay.lt hk).1
theorem AdvMid.skip {w wr : World} {B p s : Nat} {V V' : Nat → Value} {A : List Tm} {tk ord : Int} {cv : Value} (h : AdvMid w B p V A tk ord s cv V' wr) (he : slotL A s = []) : AdvMid w B p V A tk ord (s + 1) cv V' wr := by
  have e : (fun r => if r < s + 1 then (slotL A r).filter (fun t => decide (tk < t.due)) else slotL A r) = fun r => if r < s then (slotL A r).filter (fun t => decide (tk < t.due)) else slotL A r := by
    funext r
    by_cases h1 : r < s
    · rw [if_pos h1, if_pos (by omega)]
    · by_cases h2 : r = s
      · subst h2
        rw [if_pos (by omega), if_neg h1, he]
        rfl
      · rw [if_neg h1, if_neg (by omega)]
  refine ⟨h.bw, h.blk, by rw [e]; exact h.rows, ?_, h.off, fun r h1 h2 => h.rest r (by omega) h2, h.touch, h.foot⟩
  rw [comeL_succ, goL, he]
  simpa using h.come
end Go.Proofs.Ytcnfcohfogbfhaa
