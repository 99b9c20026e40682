/- copy into a row of the call's own; a call as a step of a region that draws its order. -/
import Derived.Test.YtbhdojpgjmbogaaDoorPse2
import Derived.Laws.CopyOwn
import Derived.Deep.RegionLaw
import Derived.Shelf.Abstract
namespace Go.Proofs.YtbhdojpgjmbogaaDoor
open Go.RowKit Go.Shelf
theorem ow_form {w : World} {base : Nat} {v : Value} {l : List UInt8} (h : Ow w base v l) (hn : 0 < l.length) :
    ∃ g cap, v = .slice (some ⟨g, 0, none⟩) l.length cap ∧ base ≤ g ∧ g < w.heap.size ∧ l.length ≤ cap ∧ cap ≤ 9223372036854775807 := by
  obtain ⟨g, cap, rfl, hb, hlt⟩ := World.ownsRow.form h hn
  obtain ⟨A, c, e, h1, h2⟩ := h.rd.form
  injection e with e1 e2 e3
  exact ⟨g, cap, rfl, hb, hlt, by omega, by omega⟩
theorem ow_cur {w : World} {base g n cap : Nat} {l : List UInt8} (h : Ow w base (.slice (some ⟨g, 0, none⟩) n cap) l) :
    ∃ cur : List Value, w.heap[g]? = some (.cells cur.toArray 5 (0, 0)) ∧ cur.length = cap ∧ cur.take l.length = l.map bv ∧ l.length ≤ cap ∧ cap ≤ maxLen ∧ base ≤ g ∧ n = l.length := by
  obtain ⟨h1, h2⟩ := h
  rcases h2 with ⟨e, _⟩ | ⟨g', cap', cur, e, hb, hg, hn, hm, hs, ht⟩
  · cases e
  · injection e with e1 e2 e3
    injection e1 with e1
    injection e1 with e1
    subst e1 e3
    exact ⟨cur.toList, by simpa using hg, by simpa using hs, by simpa using ht, hn, hm, hb, e2⟩
theorem splice_map {α β : Type} (f : α → β) (l m : List α) (off : Nat) : (splice l off m).map f = splice (l.map f) off (m.map f) := by simp [splice, List.map_take, List.map_drop]
theorem splice_append {α : Type} (X Y m : List α) (off : Nat) (h : off + m.length ≤ X.length) : splice (X ++ Y) off m = splice X off m ++ Y := by
  unfold splice
  rw [List.take_append_of_le_length (by omega), List.drop_append_of_le_length h]
  simp
theorem take_splice {α : Type} (L m : List α) (off n : Nat) (h : off + m.length ≤ n) (hn : n ≤ L.length) : (splice L off m).take n = splice (L.take n) off m := by
  have hl : (L.take n).length = n := by simp; omega
  have h1 : splice L off m = splice (L.take n) off m ++ L.drop n := by
    rw [← splice_append _ _ _ _ (by omega), List.take_append_drop]
  have h2 : (splice (L.take n) off m).length = n := by rw [length_splice _ _ _ (by omega), hl]
  rw [h1, List.take_append_of_le_length (by omega), List.take_of_length_le (by omega)]
theorem ow_splice {w' : World} {base g n cap off : Nat} {l m : List UInt8} {cur : List Value} (hl : cur.length = cap) (ht : cur.take l.length = l.map bv) (hn : n = l.length) (h1 : l.length ≤ cap) (h2 : cap ≤ maxLen) (hb : base ≤ g)
    (hoff : off + m.length ≤ l.length) (hg : w'.heap[g]? = some (.cells (splice cur off (m.map bv)).toArray 5 (0, 0))) : Ow w' base (.slice (some ⟨g, 0, none⟩) n cap) (splice l off m) := by
  have hlen : (splice l off m).length = l.length := length_splice l off m hoff
  unfold Ow
  rw [hlen]
  refine ⟨by rw [List.length_map, hlen, Nat.mul_one], .inr ⟨g, cap, _, by rw [hn], hb, hg, by omega, h2, ?_, ?_⟩⟩
  · rw [List.size_toArray, length_splice _ _ _ (by rw [List.length_map]; omega), hl, Nat.mul_one]
  · rw [Nat.mul_one, List.toList_toArray, take_splice _ _ _ _ (by rw [List.length_map]; omega) (by omega), ht, splice_map]
/-- copy as a step of a region that draws: from a place of an owned row on, from whatever reads. -/
theorem step_copyB {ops : Array Oper} {o : Oper} {a : Act} {w : World} {K : Act → World → Prop} {Q : Exit → Act → World → Prop} {E : Prop} (hgd : o.guard = none) (d s : Operand)
    (ho : o.op = .call { callee := .builtin .copy, args := #[d, s], argTypes := #[24, 24] }) {base g n cap off dLen dCap : Nat} {l m : List UInt8} {u : Value}
    (hown : Ow w base (.slice (some ⟨g, 0, none⟩) n cap) l) (hr : Rd w u m) (hd : a.eval d = .slice (some ⟨g, off, none⟩) dLen dCap) (hs : a.eval s = u) (hoff : off + m.length ≤ l.length) (hm : m.length ≤ dLen)
    (h : ∀ w', Ow w' base (.slice (some ⟨g, 0, none⟩) n cap) (splice l off m) → Below g w w' → K (a.put o.dst (goInt m.length)) w') :
    if Region.wanted o (yielded ops a.tmps) = true then Oper.wp Tryd.prog o a w K Q else E := by
  obtain ⟨cur, h1, h2, h3, h4, h5, h6, h7⟩ := ow_cur hown
  obtain ⟨A, c, rfl, hc1, hc2, hcell⟩ := hr
  have hsz : (Tryd.prog.info? 5).map (·.size) = some 1 := by
    obtain ⟨i, hi, _, hz1, _⟩ := info_parts byte_info
    rw [hi, Option.map_some, hz1]
  refine step_copy_splice hgd d s 24 24 ho 5 und_bytes hsz (some ⟨g, off, none⟩) A dLen dCap (m.map bv).length c hd hs g off cur 5 h1 (m.map bv) (by rw [List.length_map]; exact (Nat.min_eq_left hm).symm) ?_ (by rw [List.length_map]; omega) (oneCell_bv m) g w (Below.refl g w) (Nat.le_refl g) ?_
  · intro hpos
    rcases hcell with h0 | ⟨b, o', ha, _, hcs⟩
    · rw [h0] at hpos; simp at hpos
    · exact ⟨rfl, _, ha, fun j x hj => by rw [add_lit]; exact hcs j x hj⟩
  · intro w' hg' hb'
    rw [List.length_map]
    exact h w' (ow_splice h2 h3 h7 h4 h5 h6 hoff hg'.out) hb'
/-- A call of a Go function as a step of a region that draws. -/
theorem step_call {P : Program} {ops : Array Oper} {o : Oper} {a : Act} {w : World} {K : Act → World → Prop} {Q : Exit → Act → World → Prop} {E : Prop} (hgd : o.guard = none) {f : FuncId} {args : Array Operand} {ts : Array TypeId}
    (ho : o.op = .call { callee := .value (.func f), args := args, argTypes := ts }) {vals : Array Value} (hE : Enters P f) {R : Ending → World → Prop} (c : Calls P f vals w R) (hv : args.toList.map a.eval = vals.toList)
    (h : ∀ e w', R e w' → ∃ v, e = .returned v ∧ K (a.put o.dst v) w') : if Region.wanted o (yielded ops a.tmps) = true then Oper.wp P o a w K Q else E := by
  have hw : Region.wanted o (yielded ops a.tmps) = true := by simp [Region.wanted, hgd]
  rw [if_pos hw]
  have hrun : (execOp a.eval o).run P w = .ok (.enter f vals) w := by
    simp [execOp, ho, resolve, invoke, Act.eval, go_sem]
    have hv' : args.map a.eval = vals := by rw [← Array.toList_inj, Array.toList_map]; exact hv
    rw [hv']
    exact hE vals w
  unfold Oper.wp
  rw [hrun, Oper.upon_enter]
  refine c.mono ?_
  intro e w' hR
  obtain ⟨v, rfl, hK⟩ := h e w' hR
  exact hK
end Go.Proofs.YtbhdojpgjmbogaaDoor
