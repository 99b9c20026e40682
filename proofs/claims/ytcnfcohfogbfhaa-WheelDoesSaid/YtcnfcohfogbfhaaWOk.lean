/- Plain laws of the wheel: what holds of its timers between calls; its example. -/
import Derived.Test.YtcnfcohfogbfhaaWAdv
namespace Go.Proofs.Ytcnfcohfogbfhaa
open Go.RowKit Go.Shelf
/-- What holds of a wheel's timers. -/
structure WOk (now : Int) (A : List Tm) (ord : Int) : Prop where
  uniq : Uniq A
  len : A.length ≤ 64
  now0 : 0 ≤ now
  ord0 : 0 ≤ ord
  each : ∀ t ∈ A, 0 ≤ t.id ∧ now < t.due ∧ t.due ≤ 1099511627776 ∧ 0 < t.ord ∧ t.ord ≤ ord
  inc : A.Pairwise fun x y => x.ord < y.ord
theorem WOk.new {n : Int} (h : 0 ≤ n) : WOk n [] 0 := ⟨List.nodup_nil, by simp, h, Int.le_refl _, by simp, List.Pairwise.nil⟩
theorem WOk.sub {now : Int} {A A' : List Tm} {ord : Int} (h : WOk now A ord) (hs : A'.Sublist A) : WOk now A' ord :=
  ⟨h.uniq.sub hs, Nat.le_trans hs.length_le h.len, h.now0, h.ord0, fun t ht => h.each t (hs.subset ht), h.inc.sublist hs⟩
theorem WOk.rid {now : Int} {A : List Tm} {ord : Int} (h : WOk now A ord) (id : Int) : WOk now (rid A id) ord := h.sub List.filter_sublist
theorem WOk.adv {now : Int} {A : List Tm} {ord : Int} (h : WOk now A ord) {tk : Int} (hk : now ≤ tk) : WOk tk (stL A tk) ord := by
  have hs := h.sub (A' := stL A tk) List.filter_sublist
  refine ⟨hs.uniq, hs.len, by have := h.now0; omega, hs.ord0, fun t ht => ?_, hs.inc⟩
  obtain ⟨h1, h2, h3, h4, h5⟩ := hs.each t ht
  have := (List.mem_filter.1 ht).2
  exact ⟨h1, by simpa using this, h3, h4, h5⟩
theorem WOk.sm {now : Int} {A : List Tm} {ord : Int} (h : WOk now A ord) (ho : ord ≤ 4611686018427387904) : ∀ t ∈ A, Sm t := by
  intro t ht
  obtain ⟨h1, h2, h3, h4, h5⟩ := h.each t ht
  have := h.now0
  unfold Sm
  omega
theorem armE_ok {now : Int} {A : List Tm} {id tk : Int} (h : armE now A id tk = 0) : 0 ≤ id ∧ now < tk ∧ tk ≤ 1099511627776 ∧ (has A id = true ∨ A.length ≠ 64) := by
  unfold armE at h
  split at h
  · cases h
  · rename_i h1
    split at h
    · cases h
    · rename_i h2
      refine ⟨by omega, by omega, by omega, ?_⟩
      by_cases hx : has A id = true
      · exact .inl hx
      · exact .inr fun e => h2 ⟨by simpa using hx, e⟩
theorem rid_len_has {A : List Tm} (hu : Uniq A) {id : Int} (h : has A id = true) : (rid A id).length + 1 = A.length := by
  simp only [has, List.any_eq_true, beq_iff_eq] at h
  obtain ⟨t, ht, e⟩ := h
  obtain ⟨j, hj, ej⟩ := List.getElem_of_mem ht
  have := rid_erase hu j hj
  rw [ej, e] at this
  rw [this, List.length_eraseIdx_of_lt hj]
  omega
theorem WOk.arm {now : Int} {A : List Tm} {ord : Int} (h : WOk now A ord) (id tk : Int) : WOk now (armL now A ord id tk) (armO now A ord id tk) := by
  by_cases he : armE now A id tk = 0
  · obtain ⟨k1, k2, k3, k4⟩ := armE_ok he
    unfold armL armO
    rw [if_pos he, if_pos he]
    have hr := h.rid id
    refine ⟨?_, ?_, h.now0, by have := h.ord0; omega, ?_, ?_⟩
    · unfold Uniq
      rw [List.map_append, List.nodup_append]
      refine ⟨hr.uniq, by simp, ?_⟩
      intro a ha b hb
      obtain ⟨t, ht, rfl⟩ := List.mem_map.1 ha
      have h2 := (List.mem_filter.1 ht).2
      simp only [List.map_cons, List.map_nil, List.mem_cons, List.not_mem_nil, or_false] at hb
      rw [hb]
      simpa using h2
    · rw [List.length_append]
      have h1 := h.len
      rcases k4 with k4 | k4
      · have := rid_len_has h.uniq k4
        simp
        omega
      · have h2 : (Go.Proofs.Ytcnfcohfogbfhaa.rid A id).length ≤ A.length := List.length_filter_le _ _
        simp
        omega
    · intro t ht
      rcases List.mem_append.1 ht with ht | ht
      · obtain ⟨a1, a2, a3, a4, a5⟩ := hr.each t ht
        exact ⟨a1, a2, a3, a4, by omega⟩
      · simp only [List.mem_cons, List.not_mem_nil, or_false] at ht
        subst ht
        have := h.ord0
        exact ⟨k1, k2, k3, by show 0 < ord + 1; omega, Int.le_refl _⟩
    · rw [List.pairwise_append]
      refine ⟨hr.inc, List.pairwise_singleton _ _, ?_⟩
      intro x hx y hy
      simp only [List.mem_cons, List.not_mem_nil, or_false] at hy
      subst hy
      have := (hr.each x hx).2.2.2.2
      show x.ord < ord + 1
      omega
  · unfold armL armO
    rw [if_neg he, if_neg he]
    exact h
theorem armO_le (now : Int) (A : List Tm) (ord id tk : Int) : armO now A ord id tk ≤ ord + 1 := by
  unfold armO
  split <;> omega
theorem ord_inj {A : List Tm} (h : A.Pairwise fun x y => x.ord < y.ord) {x y : Tm} (hx : x ∈ A) (hy : y ∈ A) (e : x.ord = y.ord) : x = y := by
  induction A with
  | nil => simp at hx
  | cons z A ih =>
    rw [List.pairwise_cons] at h
    rcases List.mem_cons.1 hx with e1 | hx2
    · rcases List.mem_cons.1 hy with e2 | hy2
      · rw [e1, e2]
      · have := h.1 y hy2; rw [e1] at e; omega
    · rcases List.mem_cons.1 hy with e2 | hy2
      · have := h.1 x hx2; rw [e2] at e; omega
      · exact ih h.2 hx2 hy2
/-- There is one order in which they come. -/
theorem come_one {now : Int} {A : List Tm} {ord : Int} (h : WOk now A ord) {F G : List Tm} {q : Tm → Bool} (hF : F.Perm (A.filter q)) (hG : G.Perm (A.filter q)) (sF : F.Pairwise fun x y => ¬ ltT y x) (sG : G.Pairwise fun x y => ¬ ltT y x) : F = G := by
  refine List.Perm.eq_of_pairwise (fun x y hx hy h1 h2 => ?_) sF sG (hF.trans hG.symm)
  have mx := (List.mem_filter.1 (hF.mem_iff.1 hx)).1
  have my := (List.mem_filter.1 (hG.mem_iff.1 hy)).1
  refine ord_inj h.inc mx my ?_
  unfold ltT at h1 h2
  omega
theorem tadv_no {w : World} {B p : Nat} {V : Nat → Value} {now : Int} {A : List Tm} {ord : Int} (h : WAt w B p V now A ord) (tk : Int) (hno : tk < now ∨ 1099511627776 < tk) :
    Calls Try.prog 11 #[.pointer (some ⟨p, 0, none⟩), .int .i64 tk] w fun e w' => e = .returned (.tuple #[noS, .int .i64 1]) ∧ w = w' := by
  have c0 := h.c0
  by_cases h1 : tk < now
  · have q1 : decide (tk < now) = true := by simpa using h1
    clear hno h1 h
    go_enter Try.func11, Try.ntmps11
    go_wp2
    go_step3
    go_wp2
    simp only [Exit.noGoto]
    go_ret2
    exact ⟨rfl, rfl⟩
  · have q1 : decide (tk < now) = false := by simpa using h1
    have q2 : decide (1099511627776 < tk) = true := by simp; omega
    clear hno h1 h
    go_enter Try.func11, Try.ntmps11
    go_wp2
    go_step3
    go_wp2
    simp only [Exit.noGoto]
    go_ret2
    exact ⟨rfl, rfl⟩
end Go.Proofs.Ytcnfcohfogbfhaa
