/- The wheel: those that come are sorted by their ticks, and by when they were armed. -/
import Derived.Test.YtcnfcohfogbfhaaWArm
import Derived.Lib.OwnBridge
import Derived.Shelf.SlSortCmp.NoneTotal
namespace Go.Proofs.Ytcnfcohfogbfhaa
open Go.RowKit Go.Shelf Go.Sort
/-- A timer whose numbers are not too great. -/
def Sm (t : Tm) : Prop := 0 ≤ t.due ∧ t.due ≤ 1099511627776 ∧ 0 ≤ t.ord ∧ t.ord ≤ 4611686018427387905
abbrev Ts := { t : Tm // Sm t }
instance : Inhabited Ts := ⟨⟨⟨0, 0, 0⟩, by unfold Sm; decide⟩⟩
@[reducible] def Ts.cs (t : Ts) : List Value := t.1.cs
def cmpT (x y : Ts) : Int := if x.1.due = y.1.due then x.1.ord - y.1.ord else x.1.due - y.1.due
theorem cmp26 (x y : Ts) (W : World) : Calls Try.prog 26 #[.agg #[.int .i64 x.1.id, .int .i64 x.1.due, .int .i64 x.1.ord], .agg #[.int .i64 y.1.id, .int .i64 y.1.due, .int .i64 y.1.ord]] W fun e w' =>
    e = .returned (.int .i64 (cmpT x y)) ∧ ∃ q os', w' = grow (W.drewN q) os' := by
  obtain ⟨⟨xi, xd, xo⟩, hx⟩ := x
  obtain ⟨⟨yi, yd, yo⟩, hy⟩ := y
  unfold Sm at hx hy
  dsimp only at hx hy ⊢
  obtain ⟨r, hr⟩ : ∃ r : Int, r = if xd = yd then xo - yo else xd - yd := ⟨_, rfl⟩
  have hr' : cmpT ⟨⟨xi, xd, xo⟩, hx⟩ ⟨⟨yi, yd, yo⟩, hy⟩ = r := hr.symm
  rw [hr']
  clear hr'
  by_cases h : xd = yd
  · subst h
    rw [if_pos rfl] at hr
    have q1 : (xd != xd) = false := by simp
    have q2 : IntKind.i64.wrap (xo - yo) = r := by rw [IntKind.wrap_i64, hr]; omega
    clear hr hx hy
    go_enter Try.func26, Try.ntmps26
    go_wp2
    go_ret
    exact ⟨rfl, 0, _, by rw [alloc_eq_grow, alloc_eq_grow, grow_grow]; rfl⟩
  · rw [if_neg h] at hr
    have q1 : (xd != yd) = true := by simpa using h
    have q2 : IntKind.i64.wrap (xd - yd) = r := by rw [IntKind.wrap_i64, hr]; omega
    clear hr hx hy
    go_enter Try.func26, Try.ntmps26
    go_wp2
    go_ret
    exact ⟨rfl, 0, _, by rw [alloc_eq_grow, alloc_eq_grow, grow_grow]; rfl⟩
theorem cmpLays26 (blk off size : Nat) (w : World) : CmpLays Try.prog 26 #[] Ts.cs 3 cmpT blk off size w := fun _ _ _ _ x y => cmp26 x y _
/-- Which comes first. -/
def ltT (x y : Tm) : Prop := x.due < y.due ∨ (x.due = y.due ∧ x.ord < y.ord)
theorem lt_cmp (x y : Ts) : ltOf cmpT x y = true ↔ ltT x.1 y.1 := by
  unfold ltOf cmpT ltT
  rw [decide_eq_true_eq]
  by_cases h : x.1.due = y.1.due
  · rw [if_pos h]; omega
  · rw [if_neg h]; omega
theorem lt_cmp' (x y : Ts) : ltOf cmpT x y = false ↔ ¬ ltT x.1 y.1 := by rw [← lt_cmp]; simp
theorem swoT : SWO (ltOf cmpT) where
  irrefl x := by rw [lt_cmp']; unfold ltT; omega
  trans x y z h1 h2 := by rw [lt_cmp] at *; unfold ltT at *; omega
  ntrans x y z h1 h2 := by rw [lt_cmp'] at *; unfold ltT at *; omega
theorem flat_ecells {α : Type} [Inhabited α] (enc : α → List Value) (k : Nat) (hk0 : 0 < k) (hk : ∀ x, (enc x).length = k) (d : Array α) : flatK enc k d = (ecells enc d.toList).toArray := by
  apply Array.ext
  · simp only [size_flatK, List.size_toArray, ecells_length hk, Array.length_toList]
  · intro t h1 h2
    rw [size_flatK] at h1
    have hd : t / k < d.size := (Nat.div_lt_iff_lt_mul hk0).2 h1
    have hm := Nat.mod_lt t hk0
    have e := ecells_at hk d.toList (t / k) (by simpa using hd) (t % k) hm
    rw [Nat.div_add_mod' t k] at e
    have e1 : (flatK enc k d)[t]? = some ((enc d[t / k]!)[t % k]!) := by
      rw [Array.getElem?_eq_getElem (by rw [size_flatK]; exact h1), ← get_flatK enc k d t h1, getElem!_pos _ t (by rw [size_flatK]; exact h1)]
    have e2 : (enc d.toList[t / k])[t % k]? = some ((enc d[t / k]!)[t % k]!) := by
      rw [getElem!_pos d (t / k) hd, getElem!_pos _ (t % k) (by rw [hk]; exact hm), Array.getElem_toList, List.getElem?_eq_getElem]
    rw [Array.getElem?_eq_getElem (by rw [size_flatK]; exact h1)] at e1
    rw [e2, List.getElem?_eq_getElem (by rw [ecells_length hk, Array.length_toList]; exact h1)] at e
    injection e1 with e1
    injection e with e
    rw [e1, List.getElem_toArray, e]
theorem ecells_ts (l : List Ts) : ecells Ts.cs l = ecells Tm.cs (l.map (·.1)) := by
  induction l with
  | nil => rfl
  | cons x l ih => rw [show ecells Ts.cs (x :: l) = x.cs ++ ecells Ts.cs l from rfl, ih]; rfl
/-- Down: a row of the call's own holds its timers. -/
theorem holds_ts {w : World} {base g n cap : Nat} {l : List Ts} (h : OwT w base (.slice (some ⟨g, 0, none⟩) n cap) (l.map (·.1))) : HoldsK Ts.cs 3 w g 0 l.toArray := by
  obtain ⟨cur, hg, hcl, hct, hlc, hcm, hbg, hn⟩ := owT_cur h
  rw [← ecells_ts] at hct
  unfold HoldsK
  rw [flat_ecells Ts.cs 3 (by decide) (fun _ => rfl)]
  intro j hj
  have hj' : j < (ecells Ts.cs l).length := by simpa using hj
  have hjl : j < l.length * 3 := by rwa [ecells_length (k := 3) (fun _ => rfl)] at hj'
  have e : cur[j]? = (ecells Ts.cs l)[j]? := by rw [← hct, List.getElem?_take, if_pos (by rw [List.length_map]; exact hjl)]
  refine ⟨?_, by simp [World.frozen?, hg]⟩
  simp only [World.cell?, hg, Nat.zero_add]
  simp only [Option.isSome_none, Bool.false_eq_true, if_false]
  rw [List.getElem?_toArray, e, getElem!_pos _ j hj, List.getElem?_eq_getElem hj']
  rfl
/-- Up: behind the sort the row holds what it was left. -/
theorem owT_sorted {w : World} {base g n cap m : Nat} {l l' : List Ts} {os : Array Obj} (h : OwT w base (.slice (some ⟨g, 0, none⟩) n cap) (l.map (·.1))) (hl : l'.length = l.length) :
    OwT (sortWorldK Ts.cs 3 w g 0 m l'.toArray os) base (.slice (some ⟨g, 0, none⟩) n cap) (l'.map (·.1)) ∧ Touch (fun k => k = g) w (sortWorldK Ts.cs 3 w g 0 m l'.toArray os) := by
  obtain ⟨cur, hg, hcl, hct, hlc, hcm, hbg, hn⟩ := owT_cur h
  have hglt : g < w.heap.size := by
    rcases Nat.lt_or_ge g w.heap.size with h' | h'
    · exact h'
    · rw [Array.getElem?_eq_none h'] at hg; cases hg
  rw [List.length_map] at hct hlc hn
  have hF : (ecells Ts.cs l').length = l.length * 3 := by rw [ecells_length (k := 3) (fun _ => rfl), hl]
  have hw : sortWorldK Ts.cs 3 w g 0 m l'.toArray os = grow (putRow id (Sort.ahead w m) g 0 (ecells Ts.cs l').toArray) os := by
    unfold sortWorldK putRowK
    rw [flat_ecells Ts.cs 3 (by decide) (fun _ => rfl)]
  rw [hw]
  have hsz : (putRow id (Sort.ahead w m) g 0 (ecells Ts.cs l').toArray).heap.size = w.heap.size := by simp [putRow, mapBlock, Sort.ahead]
  have hgr : ∀ k, k < w.heap.size → (grow (putRow id (Sort.ahead w m) g 0 (ecells Ts.cs l').toArray) os).heap[k]? = (putRow id (Sort.ahead w m) g 0 (ecells Ts.cs l').toArray).heap[k]? := by
    intro k hk
    unfold grow
    rw [Array.getElem?_append_left (by rw [hsz]; exact hk)]
  have hg' : (putRow id (Sort.ahead w m) g 0 (ecells Ts.cs l').toArray).heap[g]? = some (.cells (putCells id 0 (ecells Ts.cs l').toArray cur.toArray) 60 (0, 0)) := by
    simp [putRow, mapBlock, Sort.ahead, Array.getElem?_modify, hg, onCells]
  refine ⟨⟨by rw [ecells_length tm_len], .inr ⟨g, cap, putCells id 0 (ecells Ts.cs l').toArray cur.toArray, by rw [List.length_map, hl, hn], hbg, (hgr g hglt).trans hg', by rw [List.length_map, hl]; exact hlc, hcm, by simpa [putCells] using hcl, ?_⟩⟩, ⟨rfl, rfl, rfl, ?_, fun k hk hne => ?_⟩⟩
  · rw [← ecells_ts, List.length_map, hl]
    apply List.ext_getElem?
    intro j
    rw [List.getElem?_take, Array.getElem?_toList]
    by_cases hj : j < l.length * 3
    · have hjc : j < cur.length := by omega
      rw [if_pos hj]
      simp only [putCells, Array.getElem?_mapIdx, List.getElem?_toArray, List.getElem?_eq_getElem hjc, Option.map_some]
      rw [if_pos (by simp; omega), List.getElem?_eq_getElem (by omega)]
      simp [getElem!_pos, show j < (ecells Ts.cs l').length by omega]
    · rw [if_neg hj, List.getElem?_eq_none (by omega)]
  · unfold grow
    rw [Array.size_append, hsz]
    omega
  · rw [hgr k hk]
    simp [putRow, mapBlock, Sort.ahead, Array.getElem?_modify, show g ≠ k from fun e => hne e.symm]
/-- slices.SortFunc over timers. -/
theorem tsort {w : World} {base : Nat} {v : Value} {l : List Tm} (h : OwT w base v l) (hs : ∀ t ∈ l, Sm t) (hl : l.length < 4611686018427387904) :
    Calls Try.prog 25 #[v, .func (.func 26) #[] #[]] w fun e w' => e = .returned (.tuple #[]) ∧
      ∃ l', l'.Perm l ∧ l'.Pairwise (fun x y => ¬ ltT y x) ∧ OwT w' base v l' ∧ Touch (fun k => v.ownBlock = some k) w w' := by
  by_cases h0 : l = []
  · subst h0
    obtain ⟨A, c, rfl, _, _⟩ := h.form
    have hcon := AnyF.slices_SortFunc_none Try.lSort A c (.func (.func 26) #[] #[]) w
    change Calls Try.prog 25 _ _ _ at hcon
    exact hcon.mono fun e w' ⟨he, hw⟩ => ⟨he, [], List.Perm.refl _, List.Pairwise.nil, by rw [hw]; exact h, by rw [hw]; exact Touch.refl _ _⟩
  · obtain ⟨g, cap, rfl, hg1, hg2, _, _⟩ := owT_form h (List.length_pos_iff.2 h0)
    obtain ⟨ls, rfl⟩ : ∃ ls : List Ts, ls.map (·.1) = l := ⟨l.pmap Subtype.mk hs, by rw [List.map_pmap]; simp⟩
    have eg : ∀ args w, (callFunc 26 args).run Try.prog w = .ok (.enter 26 args) w := enters_of Try.func26 (by kernel_rfl) rfl
    have hcon := AnyQ.slices_SortFunc Try.lSort 3 agg_tm Try.sizeOf60 Ts.cs (fun _ => rfl) (fun x v hv => tm_one x.1 v hv) cmpT swoT 26 #[] g 0 cap ls.toArray w eg (cmpLays26 g 0 _ w) (holds_ts h) hg2 (by simpa using hl)
    change Calls Try.prog 25 _ _ _ at hcon
    rw [List.size_toArray] at hcon
    rw [List.length_map]
    rw [List.length_map] at h
    refine hcon.mono ?_
    rintro e w' ⟨rfl, d', m, os, ⟨p1, _, p3⟩, hso, rfl⟩
    have p1 : d'.size = ls.length := by simpa using p1
    have e1 : (d'.extract 0 ls.length).toList = d'.toList := by rw [← p1, Array.extract_size]
    have e2 : (ls.toArray.extract 0 ls.length).toList = ls := by rw [show ls.length = ls.toArray.size by simp, Array.extract_size]
    rw [e1, e2] at p3
    have hdl : d'.toList.length = ls.length := by simpa using p1
    obtain ⟨a1, a2⟩ := owT_sorted (m := m) (os := os) (l' := d'.toList) h hdl
    rw [Array.toArray_toList] at a1 a2
    refine ⟨rfl, d'.toList.map (·.1), p3.map _, ?_, a1, a2.mono fun k hk => by rw [hk]; rfl⟩
    rw [List.pairwise_map, List.pairwise_iff_getElem]
    intro i j hi hj hij
    have := hso i j (Nat.zero_le _) hij (by omega)
    rw [lt_cmp', getElem!_pos d' j (by omega), getElem!_pos d' i (by omega)] at this
    simpa using this
end Go.Proofs.Ytcnfcohfogbfhaa
