/- Plain laws of the wheel: timers told apart by their ids. -/
import Derived.Test.YtcnfcohfogbfhaaWFind
namespace Go.Proofs.Ytcnfcohfogbfhaa
/-- No two have one id. -/
def Uniq (A : List Tm) : Prop := (A.map Tm.id).Nodup
/-- All but one. -/
def rid (A : List Tm) (id : Int) : List Tm := A.filter fun t => t.id != id
def has (A : List Tm) (id : Int) : Bool := A.any fun t => t.id == id
theorem has_false {A : List Tm} {id : Int} (h : ∀ t ∈ A, t.id ≠ id) : has A id = false := by
  simp only [has, List.any_eq_false, beq_iff_eq]
  exact h
theorem rid_none {A : List Tm} {id : Int} (h : ∀ t ∈ A, t.id ≠ id) : rid A id = A := by
  simp only [rid, List.filter_eq_self, bne_iff_ne, ne_eq]
  exact h
theorem Uniq.sub {A A' : List Tm} (h : Uniq A) (hs : A'.Sublist A) : Uniq A' := List.Nodup.sublist (hs.map Tm.id) h
theorem Uniq.rid {A : List Tm} (h : Uniq A) (id : Int) : Uniq (rid A id) := h.sub List.filter_sublist
theorem Uniq.same {A : List Tm} (h : Uniq A) {t u : Tm} (ht : t ∈ A) (hu : u ∈ A) (e : t.id = u.id) : t = u := by
  induction A with
  | nil => simp at ht
  | cons x A ih =>
    unfold Uniq at h
    rw [List.map_cons, List.nodup_cons] at h
    obtain ⟨h1, h2⟩ := h
    simp only [List.mem_cons] at ht hu
    rcases ht with rfl | ht
    · rcases hu with rfl | hu
      · rfl
      · exact absurd (List.mem_map.2 ⟨u, hu, e.symm⟩) h1
    · rcases hu with rfl | hu
      · exact absurd (List.mem_map.2 ⟨t, ht, e⟩) h1
      · exact ih h2 ht hu
theorem rid_erase {l : List Tm} (h : Uniq l) (k : Nat) (hk : k < l.length) : rid l l[k].id = l.eraseIdx k := by
  induction l generalizing k with
  | nil => simp at hk
  | cons x l ih =>
    unfold Uniq at h
    rw [List.map_cons, List.nodup_cons] at h
    obtain ⟨h1, h2⟩ := h
    match k with
    | 0 =>
      simp only [List.getElem_cons_zero, List.eraseIdx_zero, List.tail_cons]
      unfold rid
      rw [List.filter_cons_of_neg (by simp)]
      exact rid_none fun t ht e => h1 (List.mem_map.2 ⟨t, ht, e⟩)
    | k + 1 =>
      simp only [List.getElem_cons_succ, List.eraseIdx_cons_succ]
      have hk' : k < l.length := by simpa using hk
      unfold rid
      rw [List.filter_cons_of_pos (by simp only [bne_iff_ne, ne_eq]; exact fun e => h1 (List.mem_map.2 ⟨l[k], List.getElem_mem hk', e.symm⟩))]
      congr 1
      exact ih h2 k hk'
theorem slotL_rid (A : List Tm) (id : Int) (s : Nat) : slotL (rid A id) s = rid (slotL A s) id := by
  simp only [slotL, rid, List.filter_filter]
  congr 1
  funext t
  exact Bool.and_comm _ _
theorem Uniq.slot {A : List Tm} (h : Uniq A) (s : Nat) : Uniq (slotL A s) := h.sub List.filter_sublist
/-- What is left when one is taken out of its slot. -/
theorem slot_hit {A : List Tm} (h : Uniq A) (s k : Nat) (hk : k < (slotL A s).length) :
    slotL (rid A (slotL A s)[k].id) s = (slotL A s).eraseIdx k ∧ (∀ r, r ≠ s → slotL (rid A (slotL A s)[k].id) r = slotL A r) ∧ has A (slotL A s)[k].id = true ∧ (rid A (slotL A s)[k].id).length + 1 = A.length := by
  have hm := List.getElem_mem hk
  obtain ⟨hA, hd⟩ := mem_slotL.1 hm
  refine ⟨?_, fun r hr => ?_, ?_, ?_⟩
  · rw [slotL_rid]
    exact rid_erase (h.slot s) k hk
  · rw [slotL_rid]
    refine rid_none fun t ht e => ?_
    obtain ⟨h1, h2⟩ := mem_slotL.1 ht
    have := h.same h1 hA e
    rw [this, hd] at h2
    omega
  · simp only [has, List.any_eq_true, beq_iff_eq]
    exact ⟨_, hA, rfl⟩
  · obtain ⟨j, hj, e⟩ := List.getElem_of_mem hA
    have := rid_erase h j hj
    rw [e] at this
    rw [this, List.length_eraseIdx_of_lt hj]
    omega
end Go.Proofs.Ytcnfcohfogbfhaa
