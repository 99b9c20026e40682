/- The wheel's laws: what was armed for when, in an array; plain laws of it; a law's calls as they came in. -/
import Derived.Test.YtcnfcohfogbfhaaWAwake
import Derived.Test.YtcnfcohfogbfhaaWRowP
namespace Go.Proofs.Ytcnfcohfogbfhaa
open Go.RowKit Go.Shelf Go.ChangeShapes Go.WideShapes Go.Deep
/-- The cells of an array of ints. -/
def dcells (N : Nat) (f : Nat → Int) : Array Value := ((List.range N).map fun i => Value.int .i64 (f i)).toArray
theorem dcells_size (N : Nat) (f : Nat → Int) : (dcells N f).size = N := by simp [dcells]
theorem dcells_at (N : Nat) (f : Nat → Int) (i : Nat) (hi : i < N) : (dcells N f)[i]? = some (.int .i64 (f i)) := by simp [dcells, hi]
theorem dcells_set (N : Nat) (f : Nat → Int) (i : Nat) (x : Int) : (dcells N f).setIfInBounds i (.int .i64 x) = dcells N (fun j => if j = i then x else f j) := by
  apply Array.ext'
  apply List.ext_getElem?
  intro j
  rw [Array.getElem?_toList, Array.getElem?_toList, Array.getElem?_setIfInBounds, dcells_size]
  by_cases hj : j < N
  · rw [dcells_at N (fun j => if j = i then x else f j) j hj]
    by_cases h : i = j
    · subst h
      rw [if_pos rfl, if_pos hj]
      simp
    · rw [if_neg h, dcells_at N f j hj]
      simp [show ¬ j = i from fun e => h e.symm]
  · by_cases h : i = j
    · subst h
      rw [if_pos rfl, if_neg hj, Array.getElem?_eq_none (by rw [dcells_size]; omega)]
    · rw [if_neg h, Array.getElem?_eq_none (by rw [dcells_size]; omega), Array.getElem?_eq_none (by rw [dcells_size]; omega)]
theorem dcells_congr (N : Nat) {f g : Nat → Int} (h : ∀ i, i < N → f i = g i) : dcells N f = dcells N g := by
  apply Array.ext'
  apply List.ext_getElem?
  intro j
  rw [Array.getElem?_toList, Array.getElem?_toList]
  by_cases hj : j < N
  · rw [dcells_at N _ j hj, dcells_at N _ j hj, h j hj]
  · rw [Array.getElem?_eq_none (by rw [dcells_size]; omega), Array.getElem?_eq_none (by rw [dcells_size]; omega)]
/-- When each comes. -/
theorem dueOf_rid (A : List Tm) (id i : Int) : dueOf (rid A id) i = if i = id then 0 else dueOf A i := by
  by_cases h : i = id
  · subst h
    rw [if_pos rfl]
    exact dueOf_none fun t ht e => by have := (List.mem_filter.1 ht).2; simp [e] at this
  · rw [if_neg h]
    unfold dueOf rid
    rw [List.find?_filter]
    congr 3
    funext t
    by_cases e : t.id = i
    · simp [e, h]
    · simp [e]
theorem dueOf_app (A : List Tm) (t : Tm) (i : Int) (hA : ∀ u ∈ A, u.id ≠ t.id) : dueOf (A ++ [t]) i = if i = t.id then t.due else dueOf A i := by
  unfold dueOf
  rw [List.find?_append]
  by_cases h : i = t.id
  · subst h
    rw [if_pos rfl, List.find?_eq_none.2 (fun u hu => by simpa using hA u hu)]
    simp
  · rw [if_neg h]
    cases e : A.find? fun u => u.id == i with
    | some u => simp
    | none =>
      have : ([t].find? fun u => u.id == i) = none := List.find?_eq_none.2 (fun u hu => by simp at hu; subst hu; simpa using fun e => h e.symm)
      simp [this]
theorem dueOf_arm {now : Int} {A : List Tm} {ord id tk : Int} (h : armE now A id tk = 0) (i : Int) : dueOf (armL now A ord id tk) i = if i = id then tk else dueOf A i := by
  unfold armL
  rw [if_pos h, dueOf_app _ _ _ (fun u hu => by have := (List.mem_filter.1 hu).2; simpa using this), dueOf_rid]
  by_cases e : i = id
  · rw [if_pos e, if_pos e]
  · rw [if_neg e, if_neg e, if_neg e]
theorem dueOf_pos {now : Int} {A : List Tm} {ord : Int} (ok : WOk now A ord) (i : Int) : (has A i = true → 0 < dueOf A i) ∧ (has A i = false → dueOf A i = 0) := by
  constructor
  · intro h
    simp only [has, List.any_eq_true, beq_iff_eq] at h
    obtain ⟨t, ht, rfl⟩ := h
    rw [dueOf_hit ok.uniq ht]
    have := (ok.each t ht).2.1
    have := ok.now0
    omega
  · intro h
    exact dueOf_none (not_has h)
/-- No more than there are numbers. -/
theorem nodup_len : ∀ (N : Nat) (l : List Int), l.Nodup → (∀ x ∈ l, 0 ≤ x ∧ x < (N : Int)) → l.length ≤ N
  | 0, [], _, _ => Nat.le_refl _
  | 0, x :: l, _, h => by have := h x (by simp); omega
  | N + 1, l, hn, h => by
    have h1 := nodup_len N (l.erase (N : Int)) (hn.erase _) (fun x hx => by
      have h2 := h x (List.mem_of_mem_erase hx)
      have h3 : x ≠ (N : Int) := fun e => by rw [e] at hx; exact (hn.not_mem_erase) hx
      omega)
    have h2 := List.length_erase (l := l) (a := (N : Int))
    split at h2 <;> omega
theorem room_of {A : List Tm} (hu : Uniq A) {N : Nat} {id : Int} (h0 : 0 ≤ id) (h1 : id < (N : Int)) (hA : ∀ t ∈ A, 0 ≤ t.id ∧ t.id < (N : Int)) (hx : has A id = false) : A.length + 1 ≤ N := by
  have := nodup_len N (id :: A.map Tm.id) (List.nodup_cons.2 ⟨fun h => by
    obtain ⟨t, ht, e⟩ := List.mem_map.1 h
    exact not_has hx t ht e, hu⟩) (fun x hx => by
    rcases List.mem_cons.1 hx with rfl | hx
    · exact ⟨h0, h1⟩
    · obtain ⟨t, ht, rfl⟩ := List.mem_map.1 hx
      exact hA t ht)
  simpa using this
/-- How many there are below a number. -/
theorem count_succ {A : List Tm} (hu : Uniq A) (j : Int) : ((A.filter fun t => decide (t.id < j + 1)).length : Int) = (A.filter fun t => decide (t.id < j)).length + if has A j then 1 else 0 := by
  induction A with
  | nil => simp [has]
  | cons t A ih =>
    have hu' : Uniq A := hu.sub (List.sublist_cons_self t A)
    have hni : ∀ u ∈ A, u.id ≠ t.id := by
      unfold Uniq at hu
      rw [List.map_cons, List.nodup_cons] at hu
      exact fun u hu2 e => hu.1 (List.mem_map.2 ⟨u, hu2, e⟩)
    have ih' := ih hu'
    by_cases h1 : t.id < j
    · have e1 : has (t :: A) j = has A j := by simp [has, show (t.id == j) = false by simp; omega]
      rw [List.filter_cons_of_pos (by simp; omega), List.filter_cons_of_pos (by simpa using h1), List.length_cons, List.length_cons, e1]
      split at ih' <;> simp_all <;> omega
    · by_cases h2 : t.id = j
      · have e2 : has A j = false := by rw [← h2]; exact has_false hni
        have e1 : has (t :: A) j = true := by simp [has, h2]
        rw [e2] at ih'
        rw [List.filter_cons_of_pos (by simp; omega), List.filter_cons_of_neg (by simpa using h1), List.length_cons, e1]
        simp at ih' ⊢
        omega
      · have e1 : has (t :: A) j = has A j := by simp [has, show (t.id == j) = false by simpa using h2]
        rw [List.filter_cons_of_neg (by simp; omega), List.filter_cons_of_neg (by simpa using h1), e1]
        exact ih'
end Go.Proofs.Ytcnfcohfogbfhaa
