/- The wheel: its rows, whatever they hold; plain laws of what comes. -/
import Derived.Test.YtcnfcohfogbfhaaWArm
namespace Go.Proofs.Ytcnfcohfogbfhaa
open Go.RowKit Go.Shelf
/-- A wheel's rows. -/
structure WR (w : World) (B p : Nat) (V : Nat → Value) (L : Nat → List Tm) : Prop where
  base : B ≤ p
  plt : p < w.heap.size
  row : ∀ s, s < 32 → OwT w B (V s) (L s)
  own : ∀ s, s < 32 → (V s).ownBlock ≠ some p
  apart : ∀ s r g, s < 32 → r < 32 → (V s).ownBlock = some g → (V r).ownBlock = some g → s = r
theorem WAt.wr {w : World} {B p : Nat} {V : Nat → Value} {now : Int} {A : List Tm} {ord : Int} (h : WAt w B p V now A ord) : WR w B p V (slotL A) := ⟨h.base, h.blk.lt, h.row, h.own, h.apart⟩
theorem WR.at_ {w : World} {B p : Nat} {V : Nat → Value} {now : Int} {A : List Tm} {ord : Int} {L : Nat → List Tm} (h : WR w B p V L) (hb : Blk w p 57 (wcells now V A.length ord)) (hl : ∀ s, s < 32 → L s = slotL A s) : WAt w B p V now A ord :=
  ⟨hb, h.base, fun s hs => by rw [← hl s hs]; exact h.row s hs, h.own, h.apart⟩
theorem WR.lt {w : World} {B p : Nat} {V : Nat → Value} {L : Nat → List Tm} (h : WR w B p V L) {k : Nat} (hk : Ft p V k) : B ≤ k ∧ k < w.heap.size := by
  rcases hk with rfl | ⟨s, hs, hg⟩
  · exact ⟨h.base, h.plt⟩
  · exact (h.row s hs).lt hg
theorem WR.touch {w w' : World} {B p : Nat} {V : Nat → Value} {L : Nat → List Tm} (h : WR w B p V L) {S : Nat → Prop} (ht : Touch S w w') (hS : ∀ k, Ft p V k → k ≠ p → ¬ S k) : WR w' B p V L :=
  ⟨h.base, Nat.lt_of_lt_of_le h.plt ht.size, fun s hs => (h.row s hs).touch ht fun g hg => hS g (.inr ⟨s, hs, hg⟩) (fun e => h.own s hs (by rw [hg, e])), h.own, h.apart⟩
/-- One slot's row is another one now. -/
theorem WR.put {w : World} {B p : Nat} {V : Nat → Value} {L L' : Nat → List Tm} (h : WR w B p V L) {s : Nat} {nv : Value} (hr : OwT w B nv (L' s)) (ho : ∀ r, r < 32 → r ≠ s → L' r = L r)
    (hn : ∀ g, nv.ownBlock = some g → g ≠ p ∧ ∀ r, r < 32 → (V r).ownBlock ≠ some g) : WR w B p (fun r => if r = s then nv else V r) L' := by
  refine ⟨h.base, h.plt, fun r hr' => ?_, fun r hr' => ?_, fun r q g hr' hq => ?_⟩
  · by_cases e : r = s
    · subst e; simp only [if_true]; exact hr
    · simp only [if_neg e, ho r hr' e]; exact h.row r hr'
  · by_cases e : r = s
    · simp only [if_pos e]; exact fun hp => (hn p hp).1 rfl
    · simp only [if_neg e]; exact h.own r hr'
  · by_cases e : r = s
    · by_cases e2 : q = s
      · intro _ _; rw [e, e2]
      · simp only [if_pos e, if_neg e2]
        intro h1 h2
        exact absurd h2 ((hn g h1).2 q hq)
    · by_cases e2 : q = s
      · simp only [if_neg e, if_pos e2]
        intro h1 h2
        exact absurd h1 ((hn g h2).2 r hr')
      · simp only [if_neg e, if_neg e2]
        exact h.apart r q g hr' hq
theorem ft_put {p : Nat} {V : Nat → Value} {s : Nat} {nv : Value} {k : Nat} (h : Ft p (fun r => if r = s then nv else V r) k) : Ft p V k ∨ nv.ownBlock = some k := by
  rcases h with rfl | ⟨r, hr, hg⟩
  · exact .inl (.inl rfl)
  · by_cases e : r = s
    · simp only [if_pos e] at hg; exact .inr hg
    · simp only [if_neg e] at hg; exact .inl (.inr ⟨r, hr, hg⟩)
/-- Those of a slot that come; those that stay. -/
def goL (A : List Tm) (tk : Int) (s : Nat) : List Tm := (slotL A s).filter fun t => decide (t.due ≤ tk)
def stL (A : List Tm) (tk : Int) : List Tm := A.filter fun t => decide (tk < t.due)
theorem slotL_st (A : List Tm) (tk : Int) (s : Nat) : slotL (stL A tk) s = (slotL A s).filter fun t => decide (tk < t.due) := by
  simp only [slotL, stL, List.filter_filter]
  congr 1
  funext t
  exact Bool.and_comm _ _
/-- Those of the first slots that come. -/
def comeL (A : List Tm) (tk : Int) (s : Nat) : List Tm := (List.range s).flatMap (goL A tk)
theorem comeL_succ (A : List Tm) (tk : Int) (s : Nat) : comeL A tk (s + 1) = comeL A tk s ++ goL A tk s := by
  simp [comeL, List.range_succ]
theorem filter_two (p q : Tm → Bool) (A : List Tm) (h : ∀ t, p t = true → q t = false) : (A.filter p ++ A.filter q).Perm (A.filter fun t => p t || q t) := by
  induction A with
  | nil => exact List.Perm.refl _
  | cons t A ih =>
    by_cases hp : p t = true
    · have hq := h t hp
      simp only [List.filter_cons, hp, hq, Bool.true_or, if_true, Bool.false_eq_true, if_false, List.cons_append]
      exact ih.cons t
    · have hp' : p t = false := by simpa using hp
      by_cases hq : q t = true
      · simp only [List.filter_cons, hp', hq, Bool.or_true, if_true, Bool.false_eq_true, if_false]
        exact List.perm_middle.trans (ih.cons t)
      · have hq' : q t = false := by simpa using hq
        simp only [List.filter_cons, hp', hq', Bool.or_self, Bool.false_eq_true, if_false]
        exact ih
theorem comeL_perm (A : List Tm) (tk : Int) (s : Nat) : (comeL A tk s).Perm (A.filter fun t => decide (t.due % 32 < (s : Int)) && decide (t.due ≤ tk)) := by
  induction s with
  | zero =>
    rw [show comeL A tk 0 = [] from rfl, List.filter_eq_nil_iff.2 (fun t _ => by simp; omega)]
  | succ s ih =>
    rw [comeL_succ]
    refine (ih.append_right _).trans ?_
    have e : goL A tk s = A.filter fun t => (t.due % 32 == (s : Int)) && decide (t.due ≤ tk) := by
      simp only [goL, slotL, List.filter_filter]
      congr 1
      funext t
      exact Bool.and_comm _ _
    rw [e]
    refine (filter_two _ _ A (fun t ht => by simp at ht ⊢; omega)).trans ?_
    have e2 : (fun t : Tm => (decide (t.due % 32 < (s : Int)) && decide (t.due ≤ tk)) || ((t.due % 32 == (s : Int)) && decide (t.due ≤ tk))) = fun t => decide (t.due % 32 < ((s + 1 : Nat) : Int)) && decide (t.due ≤ tk) := by
      funext t
      rw [Bool.eq_iff_iff]
      simp
      omega
    rw [e2]
theorem comeL_all (A : List Tm) (tk : Int) : (comeL A tk 32).Perm (A.filter fun t => decide (t.due ≤ tk)) := by
  refine (comeL_perm A tk 32).trans ?_
  have e : (fun t : Tm => decide (t.due % 32 < ((32 : Nat) : Int)) && decide (t.due ≤ tk)) = fun t => decide (t.due ≤ tk) := by
    funext t
    rw [Bool.eq_iff_iff]
    simp
    omega
  rw [e]
theorem comeL_len (A : List Tm) (tk : Int) : (comeL A tk 32).length + (stL A tk).length = A.length := by
  rw [(comeL_all A tk).length_eq]
  unfold stL
  have e : (fun t : Tm => decide (tk < t.due)) = fun t => !decide (t.due ≤ tk) := by
    funext t
    rw [Bool.eq_iff_iff]
    simp
  rw [e, ← List.length_append]
  exact (List.filter_append_perm (fun t : Tm => decide (t.due ≤ tk)) A).length_eq
theorem comeL_less (A : List Tm) (tk : Int) (s : Nat) : (comeL A tk s).length ≤ A.length := by
  rw [(comeL_perm A tk s).length_eq]
  exact List.length_filter_le _ _
end Go.Proofs.Ytcnfcohfogbfhaa
