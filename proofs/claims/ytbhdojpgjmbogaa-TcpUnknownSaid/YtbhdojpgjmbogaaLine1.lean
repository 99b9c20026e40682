/- slices.Clone at ints; rows of ints, read and owned. -/
import Derived.Test.YtbhdojpgjmbogaaQueue
namespace Go.Proofs.Ytbhdojpgjmbogaa
open Go.RowKit Go.Maps Go.Shelf
/-- A slice of ints reads as a list. -/
def RdI (w : World) (v : Value) (l : List Int) : Prop := RdV w v (l.map (Value.int .i64))
theorem RdI.mono {w w' : World} {v : Value} {l : List Int} (h : RdI w v l) (hb : Below w.heap.size w w') : RdI w' v l := RdV.mono h hb
theorem RdI.form {w : World} {v : Value} {l : List Int} (h : RdI w v l) : ∃ A c, v = .slice A l.length c ∧ l.length ≤ c ∧ c ≤ 9223372036854775807 := by
  obtain ⟨A, c, e, h1, h2, _⟩ := h
  rw [List.length_map] at e h1
  exact ⟨A, c, e, h1, by unfold maxLen at h2; omega⟩
theorem RdI.at_ {w : World} {A : Option Addr} {n c : Nat} {l : List Int} (h : RdI w (.slice A n c) l) (k : Nat) (hk : k < l.length) :
    ∃ b o, A = some ⟨b, o, none⟩ ∧ b < w.heap.size ∧ w.cell? ⟨b, o + k, none⟩ = some (.int .i64 l[k]) := by
  obtain ⟨A', c', e, _, _, h3⟩ := h
  injection e with e1 e2 e3
  subst e1
  rcases h3 with h | ⟨b, o, ha, hlt, hc⟩
  · simp at h; subst h; simp at hk
  · refine ⟨b, o, ha, hlt, hc k _ ?_⟩
    rw [List.getElem?_map, List.getElem?_eq_getElem hk]
    rfl
theorem oneCell_i : ∀ l : List Int, ∀ u ∈ l.map (Value.int .i64), u.oneCell' = true := by
  intro l u hu
  obtain ⟨x, _, rfl⟩ := List.mem_map.1 hu
  rfl
/-- append of ints. -/
theorem wpList_appIs {ops : Array Oper} {rest : List Oper} {o : Oper} {a : Act} {Q : Exit → Act → World → Prop} {w : World} (hgd : o.guard = none) (s x : Operand)
    (ho : o.op = .call { callee := .builtin .append, args := #[s, x], argTypes := #[51, 51] })
    (base : Nat) {v u : Value} {l m : List Int} (hown : OwI w base v l) (hr : RdI w u m) (hs : a.eval s = v) (hx : a.eval x = u)
    (hbytes : (l.length + m.length) * 8 ≤ 140737488355328) (hbase : base ≤ w.heap.size)
    (h : ∀ v' w', OwI w' base v' (l ++ m) → Below base w w' → Grew w w' v v' → wpList Try.prog ops Q rest (a.put o.dst v') w') :
    wpList Try.prog ops Q (o :: rest) a w := by
  refine wpList_plain hgd fun K hK => ?_
  obtain ⟨i, hi, hz, hz1, hz2⟩ := info_parts int_info
  have hown0 := hown
  unfold OwI at hown
  rw [← List.length_map (f := Value.int .i64)] at hown
  obtain ⟨v', w', hrun, h2, h3, h4⟩ := run_app 51 3 i _ 8 Try.underlying51 hi hz hz1 hz2 rfl o.type base v u (l.map (Value.int .i64)) (m.map (Value.int .i64)) hown hr (oneCell_i m) (by simp only [List.length_map, maxLen]; omega) (by simp only [List.length_map]; omega) hbase
  unfold Oper.wp execOp
  simp only [ho, resolve, invoke, builtin, Sem.run_bind, Sem.run_pure, Result.andThen_ok, List.map_toArray, List.map_cons, List.map_nil, hs, hx, hrun]
  refine hK _ _ (h v' w' ?_ (below_app hown0 h3 (Nat.le_refl _) hbase) ⟨h3, h4⟩)
  unfold OwI
  rw [← List.map_append, List.length_map] at h2
  exact h2
theorem owI_made (w : World) (base : Nat) (h : base ≤ w.heap.size) : OwI (w.alloc (.cells #[] 3)) base (.slice (some ⟨w.heap.size, 0, none⟩) 0 0) [] :=
  World.ownsRow_made (base := base) (e := 3) (size := 1) w #[] 0 h (by simp [maxLen]) (by simp)
theorem und_ints : Try.prog.underlying 51 = some (.slice 3) := Try.underlying51
set_option maxHeartbeats 400000 in
theorem clone_i (v : Value) (l : List Int) (w : World) (hr : RdI w v l) (hl : l.length * 8 ≤ 140737488355328) :
    Calls Try.prog 60 #[v] w fun e w' => ∃ v', e = .returned v' ∧ OwI w' w.heap.size v' l ∧ Below w.heap.size w w' := by
  obtain ⟨A, c, rfl, h1, h2⟩ := hr.form
  cases A with
  | none =>
    have he := fun (w : World) n c n' c' => Lib.run_eql_slice_nil (P := Try.prog) w 51 3 none n c n' c' und_ints
    go_enter Try.func60, Try.ntmps60
    go_wp2
    go_ret
    have h0 : l = [] := by
      obtain ⟨A, c, e, h1, h2, h3⟩ := hr
      injection e with e1 e2 e3
      rcases h3 with h | ⟨b, o, h, _⟩
      · simpa using h
      · rw [← e1] at h; cases h
    subst h0
    exact ⟨_, rfl, OwI.nil _ _, Below.refl _ _⟩
  | some ad =>
    have he := fun (w : World) n c n' c' => Lib.run_eql_slice_nil (P := Try.prog) w 51 3 (some ad) n c n' c' und_ints
    have hr1 := hr.mono (below_alloc w (.cells #[] 3))
    go_enter Try.func60, Try.ntmps60
    go_wp2_with (at_builtin; refine wpList_appIs rfl (.tmp 5) (.tmp 6) rfl w.heap.size (owI_made _ _ (Nat.le_refl _)) hr1 rfl rfl (by simpa using hl) (by simp) ?_; intro v1 w1 ho1 hb1 hg1)
    go_ret
    exact ⟨_, rfl, by simpa using ho1, (below_alloc w _).trans hb1⟩
end Go.Proofs.Ytbhdojpgjmbogaa
