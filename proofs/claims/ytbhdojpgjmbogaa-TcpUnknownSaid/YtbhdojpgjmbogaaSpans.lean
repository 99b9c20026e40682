/- Rows of spans: what a slice of them reads, what a call owns, and append over them. -/
import Derived.Test.YtbhdojpgjmbogaaTcp1
import Derived.Deep.AppendLies
namespace Go.Proofs.Ytbhdojpgjmbogaa
open Go.RowKit Go.Shelf
def scells (E : List (Int × Int)) : List Value := E.flatMap fun x => [.int .u32 x.1, .int .u32 x.2]
theorem scells_length (E : List (Int × Int)) : (scells E).length = E.length * 2 := by
  induction E with
  | nil => rfl
  | cons x E ih => simp [scells, List.flatMap_cons] at ih ⊢; rw [ih]; omega
theorem scells_app (D E : List (Int × Int)) : scells (D ++ E) = scells D ++ scells E := by simp [scells]
theorem scells_one : ∀ E : List (Int × Int), ∀ u ∈ scells E, u.oneCell' = true := by
  intro E u hu
  obtain ⟨x, _, hx⟩ := List.mem_flatMap.1 hu
  simp at hx
  rcases hx with rfl | rfl <;> rfl
theorem scells_at (E : List (Int × Int)) (j : Nat) (h : j < E.length) : (scells E)[j * 2]? = some (.int .u32 E[j].1) ∧ (scells E)[j * 2 + 1]? = some (.int .u32 E[j].2) := by
  induction E generalizing j with
  | nil => simp at h
  | cons x E ih =>
    have e : scells (x :: E) = .int .u32 x.1 :: .int .u32 x.2 :: scells E := rfl
    match j with
    | 0 => exact ⟨rfl, rfl⟩
    | j + 1 =>
      have := ih j (by simpa using h)
      rw [e]
      have e1 : (j + 1) * 2 = j * 2 + 2 := by omega
      rw [e1]
      exact this
/-- A slice of spans reads as a list. -/
def RdS (w : World) (v : Value) (E : List (Int × Int)) : Prop :=
  ∃ A c, v = .slice A E.length c ∧ E.length ≤ c ∧ c ≤ maxLen ∧ (E = [] ∨ ∃ b o, A = some ⟨b, o, none⟩ ∧ b < w.heap.size ∧ ∀ (j : Nat) (u : Value), (scells E)[j]? = some u → w.cell? ⟨b, o + j, none⟩ = some u)
theorem RdS.same {w w' : World} {v : Value} {E : List (Int × Int)} (h : RdS w v E) (hs : w.heap.size ≤ w'.heap.size) (hb : ∀ k, v.ownBlock = some k → k < w.heap.size → w'.heap[k]? = w.heap[k]?) : RdS w' v E := by
  obtain ⟨A, c, rfl, h1, h2, h3⟩ := h
  refine ⟨A, c, rfl, h1, h2, ?_⟩
  rcases h3 with h | ⟨b, o, rfl, hlt, hc⟩
  · exact .inl h
  · exact .inr ⟨b, o, rfl, Nat.lt_of_lt_of_le hlt hs, fun j u hu => (World.cell?_of_block (w := w) (a := ⟨b, o + j, none⟩) (hb b rfl hlt)).trans (hc j u hu)⟩
theorem RdS.mono {w w' : World} {v : Value} {E : List (Int × Int)} (h : RdS w v E) (hb : Below w.heap.size w w') : RdS w' v E := h.same hb.size fun k _ hk => hb.block k hk
theorem RdS.old {w w' : World} {v : Value} {E : List (Int × Int)} (h : RdS w v E) (hs : w.heap.size ≤ w'.heap.size) (hb : ∀ k, k < w.heap.size → w'.heap[k]? = w.heap[k]?) : RdS w' v E := h.same hs fun k _ hk => hb k hk
theorem RdS.nil (w : World) : RdS w (.slice none 0 0) [] := ⟨none, 0, rfl, Nat.le_refl _, Nat.zero_le _, .inl rfl⟩
theorem RdS.form {w : World} {v : Value} {E : List (Int × Int)} (h : RdS w v E) : ∃ A c, v = .slice A E.length c ∧ E.length ≤ c ∧ c ≤ 9223372036854775807 := by
  obtain ⟨A, c, e, h1, h2, _⟩ := h
  exact ⟨A, c, e, h1, by unfold maxLen at h2; omega⟩
theorem RdS.at_ {w : World} {A : Option Addr} {n c : Nat} {E : List (Int × Int)} (h : RdS w (.slice A n c) E) (k : Nat) (hk : k < E.length) :
    ∃ b o, A = some ⟨b, o, none⟩ ∧ b < w.heap.size ∧ w.cell? ⟨b, o + k * 2, none⟩ = some (.int .u32 E[k].1) ∧ w.cell? ⟨b, o + k * 2 + 1, none⟩ = some (.int .u32 E[k].2) := by
  obtain ⟨A', c', e, _, _, h3⟩ := h
  injection e with e1 e2 e3
  subst e1
  rcases h3 with h | ⟨b, o, ha, hlt, hc⟩
  · subst h; simp at hk
  · obtain ⟨p0, p1⟩ := scells_at E k hk
    exact ⟨b, o, ha, hlt, hc _ _ p0, by have := hc _ _ p1; rwa [← Nat.add_assoc] at this⟩
/-- A row of spans that a call owns. -/
def OwS (w : World) (base : Nat) (v : Value) (E : List (Int × Int)) : Prop := w.ownsRow base 117 2 v E.length (scells E)
theorem OwS.mono {w w' : World} {base : Nat} {v : Value} {E : List (Int × Int)} (h : OwS w base v E) (hb : Below w.heap.size w w') : OwS w' base v E := owns_mono h hb
theorem OwS.nil (w : World) (base : Nat) : OwS w base (.slice none 0 0) [] := World.ownsRow_nil w base _ 2
theorem OwS.same {w w' : World} {base : Nat} {v : Value} {E : List (Int × Int)} (h : OwS w base v E) (hb : ∀ g, v.ownBlock = some g → w'.heap[g]? = w.heap[g]?) : OwS w' base v E := owns_same h hb
theorem OwS.lt {w : World} {base : Nat} {v : Value} {E : List (Int × Int)} (h : OwS w base v E) {g : Nat} (hg : v.ownBlock = some g) : base ≤ g ∧ g < w.heap.size := owns_block_lt h hg
theorem OwS.less {w : World} {base base' : Nat} {v : Value} {E : List (Int × Int)} (h : OwS w base v E) (hb : base' ≤ base) : OwS w base' v E := owns_base h hb
theorem OwS.rd {w : World} {base : Nat} {v : Value} {E : List (Int × Int)} (h : OwS w base v E) : RdS w v E := by
  have hh := h
  rcases h.2 with ⟨rfl, h0⟩ | ⟨g, cap, cur, rfl, hb, hg, hn, hcap, hs, ht⟩
  · exact ⟨none, 0, by rw [h0], by omega, Nat.zero_le _, .inl (List.eq_nil_of_length_eq_zero h0)⟩
  · exact ⟨some ⟨g, 0, none⟩, cap, rfl, hn, hcap, .inr ⟨g, 0, rfl, (owns_block_lt hh rfl).2, fun j u hu => by have := World.ownsRow.cells (g := g) hh rfl j u hu; rwa [add_lit] at this⟩⟩
theorem OwS.form {w : World} {base : Nat} {v : Value} {E : List (Int × Int)} (h : OwS w base v E) : ∃ A c, v = .slice A E.length c ∧ E.length ≤ c ∧ c ≤ 9223372036854775807 := h.rd.form
theorem span_info : (Try.prog.info? 117).map (fun i => (i.zero, i.size, i.bytes)) = some (some (.agg #[.int .u32 0, .int .u32 0]), 2, 8) := by kernel_rfl
/-- One run of append: onto an owned row of spans, from whatever reads. -/
theorem run_appS {w : World} (ty : TypeId) (base : Nat) (v u : Value) (E F : List (Int × Int)) (hown : OwS w base v E) (hr : RdS w u F) (hbytes : (E.length + F.length) * 8 ≤ 140737488355328) (hbase : base ≤ w.heap.size) :
    ∃ v' w', (Builtin.append_ #[65, 65] ty #[v, u]).run Try.prog w = .ok v' w' ∧ OwS w' base v' (E ++ F) ∧ w.grownBy w' v.ownBlock ∧ (v'.ownBlock = v.ownBlock ∨ v'.ownBlock = some w.heap.size) := by
  obtain ⟨i, hi, hz, hz1, hz2⟩ := info_parts span_info
  have ht : Try.prog.underlying 65 = some (.slice 117) := Try.underlying65
  obtain ⟨A, c, rfl, hc1, hc2, hcell⟩ := hr
  have nilcase : F = [] → A = none → ∃ v' w', (Builtin.append_ #[65, 65] ty #[v, .slice A F.length c]).run Try.prog w = .ok v' w' ∧ OwS w' base v' (E ++ F) ∧ w.grownBy w' v.ownBlock ∧ (v'.ownBlock = v.ownBlock ∨ v'.ownBlock = some w.heap.size) := by
    rintro rfl rfl
    refine ⟨v, w, ?_, by simpa using hown, World.grownBy.refl w _, .inl rfl⟩
    rcases hown.2 with ⟨rfl, h0⟩ | ⟨g, cap, cur, rfl, _, _, hnc, _⟩
    · simp [Builtin.append_, run_underlying ht, sizeOf, typeInfo, hi, Builtin.lenOf, Builtin.firstCells]
    · simp [Builtin.append_, run_underlying ht, sizeOf, typeInfo, hi, Builtin.lenOf, Builtin.firstCells, hnc, storeCells]
  have go : ∀ ad, A = some ad → (∀ j y, (scells F)[j]? = some y → w.cell? (ad.add j) = some y) → ∃ v' w', (Builtin.append_ #[65, 65] ty #[v, .slice A F.length c]).run Try.prog w = .ok v' w' ∧ OwS w' base v' (E ++ F) ∧ w.grownBy w' v.ownBlock ∧ (v'.ownBlock = v.ownBlock ∨ v'.ownBlock = some w.heap.size) := by
    rintro ad rfl hcells
    obtain ⟨v', w', hrun, h2, h3, _, h5⟩ := run_append_own_at (P := Try.prog) w base 65 ty 117 i _ 2 8 ht hi hz hz1 hz2 rfl (by decide) v E.length (scells E) hown ad F.length c (scells F) (scells_length F) hcells (scells_one F) (by unfold maxLen; omega) hbytes hbase
    refine ⟨v', w', hrun, ?_, h3, h5⟩
    unfold OwS
    rw [List.length_append, scells_app]
    exact h2
  rcases hcell with h0 | ⟨b, o, ha, _, hcs⟩
  · cases A with
    | none => exact nilcase h0 rfl
    | some ad => exact go ad rfl (by subst h0; simp [scells])
  · exact go _ ha fun j y hy => by rw [add_lit]; exact hcs j y hy
/-- append of spans, at the operation. -/
theorem wp_appS {o : Oper} {a : Act} {K : Act → World → Prop} {Q : Exit → Act → World → Prop} {w : World} (s x : Operand)
    (ho : o.op = .call { callee := .builtin .append, args := #[s, x], argTypes := #[65, 65] })
    (base : Nat) {v u : Value} {E F : List (Int × Int)} (hown : OwS w base v E) (hr : RdS w u F) (hs : a.eval s = v) (hx : a.eval x = u)
    (hbytes : (E.length + F.length) * 8 ≤ 140737488355328) (hbase : base ≤ w.heap.size)
    (h : ∀ v' w', OwS w' base v' (E ++ F) → Below base w w' → Grew w w' v v' → K (a.put o.dst v') w') :
    o.wp Try.prog a w K Q := by
  obtain ⟨v', w', hrun, h2, h3, h4⟩ := run_appS o.type base v u E F hown hr hbytes hbase
  unfold Oper.wp execOp
  simp only [ho, resolve, invoke, builtin, Sem.run_bind, Sem.run_pure, Result.andThen_ok, List.map_toArray, List.map_cons, List.map_nil, hs, hx, hrun]
  exact h v' w' h2 (below_app hown h3 (Nat.le_refl _) hbase) ⟨h3, h4⟩
theorem wpList_appS {ops : Array Oper} {rest : List Oper} {o : Oper} {a : Act} {Q : Exit → Act → World → Prop} {w : World} (hgd : o.guard = none) (s x : Operand)
    (ho : o.op = .call { callee := .builtin .append, args := #[s, x], argTypes := #[65, 65] })
    (base : Nat) {v u : Value} {E F : List (Int × Int)} (hown : OwS w base v E) (hr : RdS w u F) (hs : a.eval s = v) (hx : a.eval x = u)
    (hbytes : (E.length + F.length) * 8 ≤ 140737488355328) (hbase : base ≤ w.heap.size)
    (h : ∀ v' w', OwS w' base v' (E ++ F) → Below base w w' → Grew w w' v v' → wpList Try.prog ops Q rest (a.put o.dst v') w') :
    wpList Try.prog ops Q (o :: rest) a w :=
  wpList_plain hgd fun _ hK => wp_appS s x ho base hown hr hs hx hbytes hbase fun v' w' h1 h2 h3 => hK _ _ (h v' w' h1 h2 h3)
/-- One span that was laid down just now. -/
theorem rdS_one {w : World} {g : Nat} {t : TypeId} {y z : Int} (h : Blk w g t #[.int .u32 y, .int .u32 z]) : RdS w (.slice (some ⟨g, 0, none⟩) 1 1) [(y, z)] := by
  refine ⟨_, 1, rfl, Nat.le_refl _, by decide, .inr ⟨g, 0, rfl, h.lt, fun j u hu => ?_⟩⟩
  rw [Nat.zero_add, h.cell j]
  match j with
  | 0 => simpa [scells] using hu
  | 1 => simpa [scells] using hu
  | j + 2 => simp [scells] at hu
end Go.Proofs.Ytbhdojpgjmbogaa
