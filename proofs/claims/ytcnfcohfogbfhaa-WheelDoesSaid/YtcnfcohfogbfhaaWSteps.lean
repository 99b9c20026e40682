/- WheelSteps: what the law keeps; plain laws of going on in steps. -/
import Derived.Test.YtcnfcohfogbfhaaLOrd
namespace Go.Proofs.Ytcnfcohfogbfhaa
open Go.RowKit Go.Shelf
/-- Two wheels with the same timers, and the array. -/
structure StepAt (w wr : World) (p1 p2 d : Nat) (N : Nat) (t : TypeId) (V1 V2 : Nat → Value) (n1 n2 : Int) (A1 A2 : List Tm) (o1 o2 : Int) (f : Nat → Int) : Prop where
  at1 : WAt wr w.heap.size p1 V1 n1 A1 o1
  at2 : WAt wr w.heap.size p2 V2 n2 A2 o2
  due : Blk wr d t (dcells N f)
  dis : ∀ k, Ft p1 V1 k → ¬ Ft p2 V2 k
  off1 : ¬ Ft p1 V1 d
  off2 : ¬ Ft p2 V2 d
  base : w.heap.size ≤ d
  below : Below w.heap.size w wr
section
variable {w wr w2 : World} {p1 p2 d : Nat} {N : Nat} {t : TypeId} {V1 V2 : Nat → Value} {n1 n2 : Int} {A1 A2 : List Tm} {o1 o2 : Int} {f : Nat → Int}
theorem StepAt.mono (h : StepAt w wr p1 p2 d N t V1 V2 n1 n2 A1 A2 o1 o2 f) (hb : Below wr.heap.size wr w2) : StepAt w w2 p1 p2 d N t V1 V2 n1 n2 A1 A2 o1 o2 f :=
  ⟨h.at1.mono hb, h.at2.mono hb, h.due.mono hb, h.dis, h.off1, h.off2, h.base, below_step h.below h.below.size hb⟩
/-- A call on the first one. -/
theorem StepAt.one (h : StepAt w wr p1 p2 d N t V1 V2 n1 n2 A1 A2 o1 o2 f) {V' : Nat → Value} {n' : Int} {A' : List Tm} {o' : Int} (h2 : WAt w2 w.heap.size p1 V' n' A' o') (ht : Touch (Ft p1 V1) wr w2) (hf : ∀ k, Ft p1 V' k → Ft p1 V1 k ∨ wr.heap.size ≤ k) :
    StepAt w w2 p1 p2 d N t V' V2 n' n2 A' A2 o' o2 f := by
  refine ⟨h2, h.at2.touch ht (fun k hk e => h.dis k e hk), h.due.touch ht h.off1, fun k hk h3 => ?_, fun hk => ?_, h.off2, h.base, h.below.trans (h.at1.keep ht)⟩
  · rcases hf k hk with e | e
    · exact h.dis k e h3
    · have := (h.at2.lt h3).2; omega
  · rcases hf d hk with e | e
    · exact h.off1 e
    · have := h.due.lt; omega
/-- .. on the second one. -/
theorem StepAt.two (h : StepAt w wr p1 p2 d N t V1 V2 n1 n2 A1 A2 o1 o2 f) {V' : Nat → Value} {n' : Int} {A' : List Tm} {o' : Int} (h2 : WAt w2 w.heap.size p2 V' n' A' o') (ht : Touch (Ft p2 V2) wr w2) (hf : ∀ k, Ft p2 V' k → Ft p2 V2 k ∨ wr.heap.size ≤ k) :
    StepAt w w2 p1 p2 d N t V1 V' n1 n' A1 A' o1 o' f := by
  refine ⟨h.at1.touch ht (fun k hk e => h.dis k hk e), h2, h.due.touch ht h.off2, fun k h3 hk => ?_, h.off1, fun hk => ?_, h.base, h.below.trans (h.at2.keep ht)⟩
  · rcases hf k hk with e | e
    · exact h.dis k h3 e
    · have := (h.at1.lt h3).2; omega
  · rcases hf d hk with e | e
    · exact h.off2 e
    · have := h.due.lt; omega
/-- A store into the array. -/
theorem StepAt.put (h : StepAt w wr p1 p2 d N t V1 V2 n1 n2 A1 A2 o1 o2 f) (i : Nat) (x : Int) {g : Nat → Int} (hg : ∀ j, j < N → g j = if j = i then x else f j) :
    StepAt w (wr.setCell ⟨d, i, none⟩ (.int .i64 x)) p1 p2 d N t V1 V2 n1 n2 A1 A2 o1 o2 g := by
  have ht : Touch (fun k => k = d) wr (wr.setCell ⟨d, i, none⟩ (.int .i64 x)) := Touch.set (S := fun k => k = d) wr (p := ⟨d, i, none⟩) rfl _
  refine ⟨h.at1.touch ht (fun k hk e => h.off1 (e ▸ hk)), h.at2.touch ht (fun k hk e => h.off2 (e ▸ hk)), ?_, h.dis, h.off1, h.off2, h.base, h.below.setCell (p := ⟨d, i, none⟩) h.base _⟩
  rw [dcells_congr N hg, ← dcells_set]
  exact h.due.set i _
theorem StepAt.as (h : StepAt w wr p1 p2 d N t V1 V2 n1 n2 A1 A2 o1 o2 f) {g : Nat → Int} (hg : ∀ j, j < N → f j = g j) : StepAt w wr p1 p2 d N t V1 V2 n1 n2 A1 A2 o1 o2 g :=
  ⟨h.at1, h.at2, by rw [← dcells_congr N hg]; exact h.due, h.dis, h.off1, h.off2, h.base, h.below⟩
theorem StepAt.drewN (h : StepAt w wr p1 p2 d N t V1 V2 n1 n2 A1 A2 o1 o2 f) (q : Nat) : StepAt w (wr.drewN q) p1 p2 d N t V1 V2 n1 n2 A1 A2 o1 o2 f := by
  have ht : Touch (fun _ => False) wr (wr.drewN q) := ⟨rfl, rfl, rfl, Nat.le_refl _, fun _ _ _ => rfl⟩
  exact ⟨h.at1.touch ht (fun _ _ => id), h.at2.touch ht (fun _ _ => id), h.due, h.dis, h.off1, h.off2, h.base, h.below.trans (ht.below (fun _ e => e.elim) h.below.size)⟩
end
/-- In steps. -/
theorem stL_stL (A : List Tm) {x y : Int} (h : x ≤ y) : stL (stL A x) y = stL A y := by
  unfold stL
  rw [List.filter_filter]
  congr 1
  funext t
  rw [Bool.eq_iff_iff]
  simp
  omega
theorem stL_now {now : Int} {A : List Tm} {ord : Int} (ok : WOk now A ord) : stL A now = A := List.filter_eq_self.2 fun t ht => by have := (ok.each t ht).2.1; simpa using this
/-- Those that come till a tick. -/
def till (F : List Tm) (x : Int) : List Tm := F.filter fun t => decide (t.due ≤ x)
/-- Those that come behind one tick, till another. -/
def amid (F : List Tm) (x y : Int) : List Tm := F.filter fun t => decide (x < t.due) && decide (t.due ≤ y)
theorem sorted_split {F : List Tm} (hs : F.Pairwise fun x y => ¬ ltT y x) (x y : Int) (hxy : x ≤ y) : till F y = till F x ++ amid F x y := by
  unfold till amid
  induction F with
  | nil => rfl
  | cons t F ih =>
    rw [List.pairwise_cons] at hs
    have ih' := ih hs.2
    by_cases h1 : t.due ≤ x
    · simp only [List.filter_cons, show decide (t.due ≤ y) = true by simp; omega, show decide (t.due ≤ x) = true by simpa using h1, show decide (x < t.due) = false by simpa using h1, Bool.false_and, if_true, Bool.false_eq_true, if_false, List.cons_append, ih']
    · have hnone : (F.filter fun u => decide (u.due ≤ x)) = [] := List.filter_eq_nil_iff.2 fun u hu => by
        have := hs.1 u hu
        unfold ltT at this
        simp
        omega
      rw [hnone, List.nil_append] at ih'
      by_cases h2 : t.due ≤ y
      · simp only [List.filter_cons, show decide (t.due ≤ y) = true by simpa using h2, show decide (t.due ≤ x) = false by simpa using h1, show decide (x < t.due) = true by simp; omega, Bool.true_and, if_true, Bool.false_eq_true, if_false, hnone, List.nil_append, ih']
      · simp only [List.filter_cons, show decide (t.due ≤ y) = false by simpa using h2, show decide (t.due ≤ x) = false by simpa using h1, Bool.and_false, Bool.false_eq_true, if_false, hnone, List.nil_append, ih']
theorem till_all {A F : List Tm} {x : Int} (hp : F.Perm (A.filter fun t => decide (t.due ≤ x))) : till F x = F := List.filter_eq_self.2 fun t ht => by
  have := (come_mem hp ht).2
  simpa using this
theorem till_none {now ord : Int} {A F : List Tm} {x : Int} (ok : WOk now A ord) (hp : F.Perm (A.filter fun t => decide (t.due ≤ x))) : till F now = [] := List.filter_eq_nil_iff.2 fun t ht => by
  have := (ok.each t (come_mem hp ht).1).2.1
  simp
  omega
/-- What comes in one step is just the next part. -/
theorem step_part {now ord : Int} {A F G : List Tm} {x y z : Int} (ok : WOk now A ord) (hp : F.Perm (A.filter fun t => decide (t.due ≤ z))) (hs : F.Pairwise fun x y => ¬ ltT y x) (hyz : y ≤ z)
    (hg : G.Perm ((stL A x).filter fun t => decide (t.due ≤ y))) (hgs : G.Pairwise fun x y => ¬ ltT y x) : G = amid F x y := by
  have e : ((stL A x).filter fun t => decide (t.due ≤ y)) = A.filter fun t => decide (x < t.due) && decide (t.due ≤ y) := by
    unfold stL
    rw [List.filter_filter]
    congr 1
    funext t
    exact Bool.and_comm _ _
  rw [e] at hg
  refine come_one ok hg ?_ hgs (hs.sublist List.filter_sublist)
  have h1 := hp.filter (fun t => decide (x < t.due) && decide (t.due ≤ y))
  rw [List.filter_filter] at h1
  refine h1.trans ?_
  have e2 : (fun t : Tm => (decide (x < t.due) && decide (t.due ≤ y)) && decide (t.due ≤ z)) = fun t => decide (x < t.due) && decide (t.due ≤ y) := by
    funext t
    rw [Bool.eq_iff_iff]
    simp
    omega
  rw [e2]
end Go.Proofs.Ytcnfcohfogbfhaa
