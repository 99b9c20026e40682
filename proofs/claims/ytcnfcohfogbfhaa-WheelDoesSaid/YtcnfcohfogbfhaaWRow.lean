/- Rows whose elements have k cells: what a slice of them reads, what a call owns, append over them. Timers; what has come. -/
import Derived.Test.YtcnfcohfogbfhaaWBase
namespace Go.Proofs.Ytcnfcohfogbfhaa
open Go.RowKit Go.Shelf
section
variable {α : Type} (enc : α → List Value) (k : Nat)
def ecells (l : List α) : List Value := l.flatMap enc
theorem ecells_app (l m : List α) : ecells enc (l ++ m) = ecells enc l ++ ecells enc m := by simp [ecells]
variable {enc} {k}
theorem ecells_length (hk : ∀ x, (enc x).length = k) (l : List α) : (ecells enc l).length = l.length * k := by
  induction l with
  | nil => simp [ecells]
  | cons x l ih => rw [show ecells enc (x :: l) = enc x ++ ecells enc l from rfl, List.length_append, ih, hk, List.length_cons, Nat.add_mul, Nat.one_mul, Nat.add_comm]
theorem ecells_one (h1 : ∀ x, ∀ u ∈ enc x, u.oneCell' = true) (l : List α) : ∀ u ∈ ecells enc l, u.oneCell' = true := by
  intro u hu
  obtain ⟨x, _, hx⟩ := List.mem_flatMap.1 hu
  exact h1 x u hx
theorem ecells_at (hk : ∀ x, (enc x).length = k) (l : List α) (j : Nat) (h : j < l.length) (i : Nat) (hi : i < k) : (ecells enc l)[j * k + i]? = (enc l[j])[i]? := by
  induction l generalizing j with
  | nil => simp at h
  | cons x l ih =>
    rw [show ecells enc (x :: l) = enc x ++ ecells enc l from rfl]
    match j with
    | 0 => rw [Nat.zero_mul, Nat.zero_add, List.getElem?_append_left (by rw [hk]; exact hi)]; rfl
    | j + 1 =>
      rw [List.getElem?_append_right (by rw [hk, Nat.add_mul]; omega), hk, Nat.add_mul, Nat.one_mul, show j * k + k + i - k = j * k + i by omega]
      exact ih j (by simpa using h)
theorem ecells_drop (hk : ∀ x, (enc x).length = k) (l : List α) (j : Nat) : ecells enc (l.drop j) = (ecells enc l).drop (j * k) := by
  induction l generalizing j with
  | nil => simp [ecells]
  | cons x l ih =>
    match j with
    | 0 => simp
    | j + 1 =>
      rw [List.drop_succ_cons, ih, show ecells enc (x :: l) = enc x ++ ecells enc l from rfl, Nat.add_mul, Nat.one_mul, Nat.add_comm (j * k) k, ← List.drop_drop, show k = (enc x).length from (hk x).symm, List.drop_left]
theorem ecells_take (hk : ∀ x, (enc x).length = k) (l : List α) (j : Nat) : ecells enc (l.take j) = (ecells enc l).take (j * k) := by
  induction l generalizing j with
  | nil => simp [ecells]
  | cons x l ih =>
    match j with
    | 0 => simp [ecells]
    | j + 1 =>
      have ht : (enc x).take (k + j * k) = enc x := List.take_of_length_le (by rw [hk]; omega)
      rw [List.take_succ_cons, show ecells enc (x :: l.take j) = enc x ++ ecells enc (l.take j) from rfl, ih, show ecells enc (x :: l) = enc x ++ ecells enc l from rfl, Nat.add_mul, Nat.one_mul, Nat.add_comm (j * k) k, List.take_append, hk, show k + j * k - k = j * k by omega, ht]
/-- A slice reads as a list. -/
def RdE (enc : α → List Value) (w : World) (v : Value) (l : List α) : Prop :=
  ∃ A c, v = .slice A l.length c ∧ l.length ≤ c ∧ c ≤ maxLen ∧ (l = [] ∨ ∃ b o, A = some ⟨b, o, none⟩ ∧ b < w.heap.size ∧ ∀ (j : Nat) (u : Value), (ecells enc l)[j]? = some u → w.cell? ⟨b, o + j, none⟩ = some u)
theorem RdE.same {w w' : World} {v : Value} {l : List α} (h : RdE enc w v l) (hs : w.heap.size ≤ w'.heap.size) (hb : ∀ g, v.ownBlock = some g → g < w.heap.size → w'.heap[g]? = w.heap[g]?) : RdE enc w' v l := by
  obtain ⟨A, c, rfl, h1, h2, h3⟩ := h
  refine ⟨A, c, rfl, h1, h2, ?_⟩
  rcases h3 with h | ⟨b, o, rfl, hlt, hc⟩
  · exact .inl h
  · exact .inr ⟨b, o, rfl, Nat.lt_of_lt_of_le hlt hs, fun j u hu => (World.cell?_of_block (w := w) (a := ⟨b, o + j, none⟩) (hb b rfl hlt)).trans (hc j u hu)⟩
theorem RdE.mono {w w' : World} {v : Value} {l : List α} (h : RdE enc w v l) (hb : Below w.heap.size w w') : RdE enc w' v l := h.same hb.size fun g _ hg => hb.block g hg
theorem RdE.touch {w w' : World} {v : Value} {l : List α} (h : RdE enc w v l) {S : Nat → Prop} (ht : Touch S w w') (hS : ∀ g, v.ownBlock = some g → ¬ S g) : RdE enc w' v l := h.same ht.size fun g hg hlt => ht.block g hlt (hS g hg)
theorem RdE.nil (w : World) : RdE enc w (.slice none 0 0) ([] : List α) := ⟨none, 0, rfl, Nat.le_refl _, Nat.zero_le _, .inl rfl⟩
theorem RdE.form {w : World} {v : Value} {l : List α} (h : RdE enc w v l) : ∃ A c, v = .slice A l.length c ∧ l.length ≤ c ∧ c ≤ 9223372036854775807 := by
  obtain ⟨A, c, e, h1, h2, _⟩ := h
  exact ⟨A, c, e, h1, by unfold maxLen at h2; omega⟩
theorem RdE.at_ (hk : ∀ x, (enc x).length = k) {w : World} {A : Option Addr} {n c : Nat} {l : List α} (h : RdE enc w (.slice A n c) l) (h0 : 0 < l.length) :
    ∃ b o, A = some ⟨b, o, none⟩ ∧ b < w.heap.size ∧ ∀ (j : Nat) (hj : j < l.length) (i : Nat) (u : Value), (enc l[j])[i]? = some u → w.cell? ⟨b, o + j * k + i, none⟩ = some u := by
  obtain ⟨A', c', e, _, _, h3⟩ := h
  injection e with e1 e2 e3
  subst e1
  rcases h3 with h | ⟨b, o, ha, hlt, hc⟩
  · subst h; simp at h0
  · refine ⟨b, o, ha, hlt, fun j hj i u hu => ?_⟩
    have hi : i < k := by
      have := (List.getElem?_eq_some_iff.1 hu).1
      rwa [hk] at this
    have := hc (j * k + i) u ((ecells_at hk l j hj i hi).trans hu)
    rwa [← Nat.add_assoc] at this
/-- A row of a call's own. -/
def OwE (enc : α → List Value) (k : Nat) (e : TypeId) (w : World) (base : Nat) (v : Value) (l : List α) : Prop := w.ownsRow base e k v l.length (ecells enc l)
variable {e : TypeId}
theorem OwE.mono {w w' : World} {base : Nat} {v : Value} {l : List α} (h : OwE enc k e w base v l) (hb : Below w.heap.size w w') : OwE enc k e w' base v l := owns_mono h hb
theorem OwE.nil (w : World) (base : Nat) : OwE enc k e w base (.slice none 0 0) ([] : List α) := World.ownsRow_nil w base _ k
theorem OwE.same {w w' : World} {base : Nat} {v : Value} {l : List α} (h : OwE enc k e w base v l) (hb : ∀ g, v.ownBlock = some g → w'.heap[g]? = w.heap[g]?) : OwE enc k e w' base v l := owns_same h hb
theorem OwE.lt {w : World} {base : Nat} {v : Value} {l : List α} (h : OwE enc k e w base v l) {g : Nat} (hg : v.ownBlock = some g) : base ≤ g ∧ g < w.heap.size := owns_block_lt h hg
theorem OwE.less {w : World} {base base' : Nat} {v : Value} {l : List α} (h : OwE enc k e w base v l) (hb : base' ≤ base) : OwE enc k e w base' v l := owns_base h hb
theorem OwE.touch {w w' : World} {base : Nat} {v : Value} {l : List α} (h : OwE enc k e w base v l) {S : Nat → Prop} (ht : Touch S w w') (hS : ∀ g, v.ownBlock = some g → ¬ S g) : OwE enc k e w' base v l :=
  h.same fun g hg => ht.block g (h.lt hg).2 (hS g hg)
theorem OwE.rd {w : World} {base : Nat} {v : Value} {l : List α} (h : OwE enc k e w base v l) : RdE enc w v l := by
  have hh := h
  rcases h.2 with ⟨rfl, h0⟩ | ⟨g, cap, cur, rfl, hb, hg, hn, hcap, hs, ht⟩
  · exact ⟨none, 0, by rw [h0], by omega, Nat.zero_le _, .inl (List.eq_nil_of_length_eq_zero h0)⟩
  · exact ⟨some ⟨g, 0, none⟩, cap, rfl, hn, hcap, .inr ⟨g, 0, rfl, (owns_block_lt hh rfl).2, fun j u hu => by have := World.ownsRow.cells (g := g) hh rfl j u hu; rwa [add_lit] at this⟩⟩
theorem OwE.form {w : World} {base : Nat} {v : Value} {l : List α} (h : OwE enc k e w base v l) : ∃ A c, v = .slice A l.length c ∧ l.length ≤ c ∧ c ≤ 9223372036854775807 := h.rd.form
/-- One run of append: onto an owned row, from whatever reads. -/
theorem run_appE (hk : ∀ x, (enc x).length = k) (h1 : ∀ x, ∀ u ∈ enc x, u.oneCell' = true) (hk0 : 0 < k) {w : World} (T ty : TypeId) (i : TypeInfo) (z : Value) (bytes : Nat) (ht : Try.prog.underlying T = some (.slice e)) (hi : Try.prog.info? e = some i) (hz : i.zero = some z) (hsz : i.size = k) (hby : i.bytes = bytes) (hzs : z.cells.size = k)
    (base : Nat) (v u : Value) (l m : List α) (hown : OwE enc k e w base v l) (hr : RdE enc w u m) (hbytes : (l.length + m.length) * bytes ≤ 140737488355328) (h63 : l.length + m.length ≤ maxLen) (hbase : base ≤ w.heap.size) :
    ∃ v' w', (Builtin.append_ #[T, T] ty #[v, u]).run Try.prog w = .ok v' w' ∧ OwE enc k e w' base v' (l ++ m) ∧ w.grownBy w' v.ownBlock ∧ (v'.ownBlock = v.ownBlock ∨ v'.ownBlock = some w.heap.size) := by
  obtain ⟨A, c, rfl, hc1, hc2, hcell⟩ := hr
  have nilcase : m = [] → A = none → ∃ v' w', (Builtin.append_ #[T, T] ty #[v, .slice A m.length c]).run Try.prog w = .ok v' w' ∧ OwE enc k e w' base v' (l ++ m) ∧ w.grownBy w' v.ownBlock ∧ (v'.ownBlock = v.ownBlock ∨ v'.ownBlock = some w.heap.size) := by
    rintro rfl rfl
    refine ⟨v, w, ?_, by simpa using hown, World.grownBy.refl w _, .inl rfl⟩
    rcases hown.2 with ⟨rfl, h0⟩ | ⟨g, cap, cur, rfl, _, _, hnc, _⟩
    · simp [Builtin.append_, run_underlying ht, sizeOf, typeInfo, hi, Builtin.lenOf, Builtin.firstCells]
    · simp [Builtin.append_, run_underlying ht, sizeOf, typeInfo, hi, Builtin.lenOf, Builtin.firstCells, hnc, storeCells]
  have go : ∀ ad, A = some ad → (∀ j y, (ecells enc m)[j]? = some y → w.cell? (ad.add j) = some y) → ∃ v' w', (Builtin.append_ #[T, T] ty #[v, .slice A m.length c]).run Try.prog w = .ok v' w' ∧ OwE enc k e w' base v' (l ++ m) ∧ w.grownBy w' v.ownBlock ∧ (v'.ownBlock = v.ownBlock ∨ v'.ownBlock = some w.heap.size) := by
    rintro ad rfl hcells
    obtain ⟨v', w', hrun, h2, h3, _, h5⟩ := run_append_own_at (P := Try.prog) w base T ty e i z k bytes ht hi hz hsz hby hzs hk0 v l.length (ecells enc l) hown ad m.length c (ecells enc m) (ecells_length hk m) hcells (ecells_one h1 m) h63 hbytes hbase
    refine ⟨v', w', hrun, ?_, h3, h5⟩
    unfold OwE
    rw [List.length_append, ecells_app]
    exact h2
  rcases hcell with h0 | ⟨b, o, ha, _, hcs⟩
  · cases A with
    | none => exact nilcase h0 rfl
    | some ad => exact go ad rfl (by subst h0; simp [ecells])
  · exact go _ ha fun j y hy => by rw [add_lit]; exact hcs j y hy
end
/-- A timer. -/
structure Tm where
  id : Int
  due : Int
  ord : Int
deriving Inhabited
@[reducible] def Tm.cs (t : Tm) : List Value := [.int .i64 t.id, .int .i64 t.due, .int .i64 t.ord]
theorem tm_len (x : Tm) : x.cs.length = 3 := rfl
theorem tm_one : ∀ x : Tm, ∀ u ∈ x.cs, u.oneCell' = true := by
  intro x u hu
  simp at hu
  rcases hu with rfl | rfl | rfl <;> rfl
/-- What has come. -/
@[reducible] def fcs (x : Int × Int) : List Value := [.int .i64 x.1, .int .i64 x.2]
theorem f_len (x : Int × Int) : (fcs x).length = 2 := rfl
theorem f_one : ∀ x : Int × Int, ∀ u ∈ fcs x, u.oneCell' = true := by
  intro x u hu
  simp at hu
  rcases hu with rfl | rfl <;> rfl
abbrev RdT := RdE Tm.cs
abbrev OwT := OwE Tm.cs 3 60
abbrev RdF := RdE fcs
abbrev OwF := OwE fcs 2 37
theorem tm_info : (Try.prog.info? 60).map (fun i => (i.zero, i.size, i.bytes)) = some (some (.agg #[.int .i64 0, .int .i64 0, .int .i64 0]), 3, 24) := by kernel_rfl
theorem f_info : (Try.prog.info? 37).map (fun i => (i.zero, i.size, i.bytes)) = some (some (.agg #[.int .i64 0, .int .i64 0]), 2, 16) := by kernel_rfl
/-- append of timers, at the operation. -/
theorem wp_appT {o : Oper} {a : Act} {K : Act → World → Prop} {Q : Exit → Act → World → Prop} {w : World} (s x : Operand)
    (ho : o.op = .call { callee := .builtin .append, args := #[s, x], argTypes := #[54, 54] })
    (base : Nat) {v u : Value} {l m : List Tm} (hown : OwT w base v l) (hr : RdT w u m) (hs : a.eval s = v) (hx : a.eval x = u)
    (hbytes : (l.length + m.length) * 24 ≤ 140737488355328) (hbase : base ≤ w.heap.size)
    (h : ∀ v' w', OwT w' base v' (l ++ m) → Below base w w' → Grew w w' v v' → K (a.put o.dst v') w') :
    o.wp Try.prog a w K Q := by
  obtain ⟨i, hi, hz, hz1, hz2⟩ := info_parts tm_info
  obtain ⟨v', w', hrun, h2, h3, h4⟩ := run_appE tm_len tm_one (by decide) 54 o.type i _ 24 Try.underlying54 hi hz hz1 hz2 rfl base v u l m hown hr hbytes (by unfold maxLen; omega) hbase
  unfold Oper.wp execOp
  simp only [ho, resolve, invoke, builtin, Sem.run_bind, Sem.run_pure, Result.andThen_ok, List.map_toArray, List.map_cons, List.map_nil, hs, hx, hrun]
  exact h v' w' h2 (below_app hown h3 (Nat.le_refl _) hbase) ⟨h3, h4⟩
theorem wpList_appT {ops : Array Oper} {rest : List Oper} {o : Oper} {a : Act} {Q : Exit → Act → World → Prop} {w : World} (hgd : o.guard = none) (s x : Operand)
    (ho : o.op = .call { callee := .builtin .append, args := #[s, x], argTypes := #[54, 54] })
    (base : Nat) {v u : Value} {l m : List Tm} (hown : OwT w base v l) (hr : RdT w u m) (hs : a.eval s = v) (hx : a.eval x = u)
    (hbytes : (l.length + m.length) * 24 ≤ 140737488355328) (hbase : base ≤ w.heap.size)
    (h : ∀ v' w', OwT w' base v' (l ++ m) → Below base w w' → Grew w w' v v' → wpList Try.prog ops Q rest (a.put o.dst v') w') :
    wpList Try.prog ops Q (o :: rest) a w :=
  wpList_plain hgd fun _ hK => wp_appT s x ho base hown hr hs hx hbytes hbase fun v' w' h1 h2 h3 => hK _ _ (h v' w' h1 h2 h3)
/-- append of what has come, at the operation. -/
theorem wp_appF {o : Oper} {a : Act} {K : Act → World → Prop} {Q : Exit → Act → World → Prop} {w : World} (s x : Operand)
    (ho : o.op = .call { callee := .builtin .append, args := #[s, x], argTypes := #[33, 33] })
    (base : Nat) {v u : Value} {l m : List (Int × Int)} (hown : OwF w base v l) (hr : RdF w u m) (hs : a.eval s = v) (hx : a.eval x = u)
    (hbytes : (l.length + m.length) * 16 ≤ 140737488355328) (hbase : base ≤ w.heap.size)
    (h : ∀ v' w', OwF w' base v' (l ++ m) → Below base w w' → Grew w w' v v' → K (a.put o.dst v') w') :
    o.wp Try.prog a w K Q := by
  obtain ⟨i, hi, hz, hz1, hz2⟩ := info_parts f_info
  obtain ⟨v', w', hrun, h2, h3, h4⟩ := run_appE f_len f_one (by decide) 33 o.type i _ 16 Try.underlying33 hi hz hz1 hz2 rfl base v u l m hown hr hbytes (by unfold maxLen; omega) hbase
  unfold Oper.wp execOp
  simp only [ho, resolve, invoke, builtin, Sem.run_bind, Sem.run_pure, Result.andThen_ok, List.map_toArray, List.map_cons, List.map_nil, hs, hx, hrun]
  exact h v' w' h2 (below_app hown h3 (Nat.le_refl _) hbase) ⟨h3, h4⟩
theorem wpList_appF {ops : Array Oper} {rest : List Oper} {o : Oper} {a : Act} {Q : Exit → Act → World → Prop} {w : World} (hgd : o.guard = none) (s x : Operand)
    (ho : o.op = .call { callee := .builtin .append, args := #[s, x], argTypes := #[33, 33] })
    (base : Nat) {v u : Value} {l m : List (Int × Int)} (hown : OwF w base v l) (hr : RdF w u m) (hs : a.eval s = v) (hx : a.eval x = u)
    (hbytes : (l.length + m.length) * 16 ≤ 140737488355328) (hbase : base ≤ w.heap.size)
    (h : ∀ v' w', OwF w' base v' (l ++ m) → Below base w w' → Grew w w' v v' → wpList Try.prog ops Q rest (a.put o.dst v') w') :
    wpList Try.prog ops Q (o :: rest) a w :=
  wpList_plain hgd fun _ hK => wp_appF s x ho base hown hr hs hx hbytes hbase fun v' w' h1 h2 h3 => hK _ _ (h v' w' h1 h2 h3)
/-- A timer, and one that has come, laid down just now. -/
theorem rdT_one {w : World} {g : Nat} {t : TypeId} {x : Tm} (h : Blk w g t #[.int .i64 x.id, .int .i64 x.due, .int .i64 x.ord]) : RdT w (.slice (some ⟨g, 0, none⟩) 1 1) [x] := by
  refine ⟨_, 1, rfl, Nat.le_refl _, by decide, .inr ⟨g, 0, rfl, h.lt, fun j u hu => ?_⟩⟩
  rw [Nat.zero_add, h.cell j]
  match j with
  | 0 | 1 | 2 => simpa [ecells] using hu
  | j + 3 => simp [ecells] at hu
theorem rdF_one {w : World} {g : Nat} {t : TypeId} {x : Int × Int} (h : Blk w g t #[.int .i64 x.1, .int .i64 x.2]) : RdF w (.slice (some ⟨g, 0, none⟩) 1 1) [x] := by
  refine ⟨_, 1, rfl, Nat.le_refl _, by decide, .inr ⟨g, 0, rfl, h.lt, fun j u hu => ?_⟩⟩
  rw [Nat.zero_add, h.cell j]
  match j with
  | 0 | 1 => simpa [ecells] using hu
  | j + 2 => simp [ecells] at hu
end Go.Proofs.Ytcnfcohfogbfhaa
