/- What stands between the rounds of UdpLines, and what each call leaves of it: plain laws. -/
import Derived.Test.YtbhdojpgjmbogaaLine4
namespace Go.Proofs.Ytbhdojpgjmbogaa
open Go.RowKit Go.Maps Go.Shelf
/-- A block that a value has. -/
def Has' (d : DG) (g : Nat) : Prop := d.da.ownBlock = some g ∨ d.bu.ownBlock = some g
theorem Dup.lt {w : World} {base : Nat} {it : Itm} {d : DG} (h : Dup w base it d) {g : Nat} (hg : Has' d g) : base ≤ g ∧ g < w.heap.size := by
  rcases hg with hg | hg
  · exact owns_block_lt h.da hg
  · exact h.bu.lt hg
theorem Dup.same {w w' : World} {base : Nat} {it : Itm} {d : DG} (h : Dup w base it d) (hb : ∀ g, Has' d g → w'.heap[g]? = w.heap[g]?) : Dup w' base it d :=
  ⟨h.ip, h.da.same' fun g hg => hb g (.inl hg), h.bu.same fun g hg => hb g (.inr hg)⟩
theorem Dup.less {w : World} {base base' : Nat} {it : Itm} {d : DG} (h : Dup w base it d) (hb : base' ≤ base) : Dup w base' it d := ⟨h.ip, h.da.less hb, h.bu.less' hb⟩
theorem Dup.one {w : World} {base : Nat} {it : Itm} {d : DG} (h : Dup w base it d) : d.one := by
  obtain ⟨A, c, ea, _, _⟩ := h.da.rd.form
  obtain ⟨B, e, eb, _, _⟩ := h.bu.form
  intro u hu
  simp [DG.cells] at hu
  rcases hu with rfl | rfl | rfl | rfl | rfl | rfl | rfl <;> first | rfl | (rw [ea]; rfl) | (rw [eb]; rfl)
theorem Dups.at_ {w : World} {base : Nat} {J : List Itm} {D : List DG} (h : Dups w base J D) {d : DG} (hd : d ∈ D) : ∃ it ∈ J, Dup w base it d := by
  obtain ⟨k, hk, rfl⟩ := List.mem_iff_getElem.1 hd
  have hk2 : k < J.length := by rw [h.1]; exact hk
  exact ⟨J[k], List.getElem_mem _, (h.2 k hk2 hk).1⟩
theorem Dups.same {w w' : World} {base : Nat} {J : List Itm} {D : List DG} (h : Dups w base J D) (hb : ∀ d ∈ D, ∀ g, Has' d g → w'.heap[g]? = w.heap[g]?) : Dups w' base J D :=
  ⟨h.1, fun k h1 h2 => ⟨(h.2 k h1 h2).1.same fun g hg => hb _ (List.getElem_mem h2) g hg, (h.2 k h1 h2).2⟩⟩
theorem Dups.nil (w : World) (base : Nat) : Dups w base [] [] := ⟨rfl, fun k h => by simp at h⟩
theorem Dups.snoc {w : World} {base : Nat} {J : List Itm} {D : List DG} {it : Itm} {d : DG} (h : Dups w base J D) (hd : Dup w base it d) (hb : it.bufs.length ≤ 1048576) : Dups w base (J ++ [it]) (D ++ [d]) := by
  refine ⟨by simp [h.1], fun k h1 h2 => ?_⟩
  by_cases hk : k < J.length
  · have hk2 : k < D.length := by rw [← h.1]; exact hk
    rw [List.getElem_append_left hk, List.getElem_append_left hk2]
    exact h.2 k hk hk2
  · have e : k = J.length := by simp at h1; omega
    subst e
    have e2 : J.length = D.length := h.1
    rw [List.getElem_append_right (by omega), List.getElem_append_right (by omega)]
    simp
    exact ⟨hd, hb⟩
theorem Dups.tail {w : World} {base : Nat} {it : Itm} {J : List Itm} {d : DG} {D : List DG} (h : Dups w base (it :: J) (d :: D)) : Dups w base J D ∧ Dup w base it d :=
  ⟨⟨by have := h.1; simpa using this, fun k h1 h2 => h.2 (k + 1) (by simp; omega) (by simp; omega)⟩, (h.2 0 (by simp) (by simp)).1⟩
/-- What stands. -/
structure LSt (w : World) (base p : Nat) (qv vin : Value) (I J : List Itm) (D : List DG) (wr : World) : Prop where
  line : LAt wr base p qv D
  dups : Dups wr base J D
  ins : QS wr base vin (I.map (·.e))
  isIn : ∀ it ∈ I, it.In w
  sep1 : ∀ g, vin.ownBlock = some g → qv.ownBlock ≠ some g
  sep2 : ∀ d ∈ D, ∀ g, Has' d g → vin.ownBlock ≠ some g ∧ qv.ownBlock ≠ some g
  below : Below w.heap.size w wr
  hp : p < base
  hb : base ≤ wr.heap.size
/-- A block that is none of theirs. -/
structure LFree (p : Nat) (qv vin : Value) (D : List DG) (g : Nat) : Prop where
  p : g ≠ p
  q : qv.ownBlock ≠ some g
  i : vin.ownBlock ≠ some g
  d : ∀ d ∈ D, ¬ Has' d g
section
variable {w : World} {base p : Nat} {qv vin : Value} {I J : List Itm} {D : List DG} {wr w' : World}
theorem LSt.lt (h : LSt w base p qv vin I J D wr) {d : DG} (hd : d ∈ D) {g : Nat} (hg : Has' d g) : base ≤ g ∧ g < wr.heap.size := by
  obtain ⟨it, _, hi⟩ := h.dups.at_ hd
  exact hi.lt hg
/-- Blocks that are none of theirs are turned, and new ones made. -/
theorem LSt.touch {S : Nat → Prop} (h : LSt w base p qv vin I J D wr) (ht : Touch S wr w') (hS : ∀ k, S k → k < wr.heap.size → LFree p qv vin D k) (hw : ∀ k, S k → w.heap.size ≤ k) : LSt w base p qv vin I J D w' := by
  have hf : ∀ k, k < wr.heap.size → ¬ LFree p qv vin D k → w'.heap[k]? = wr.heap[k]? := fun k hk hn => ht.block k hk fun hs => hn (hS k hs hk)
  exact ⟨⟨(hf p h.line.1.lt fun hf => hf.p rfl).trans h.line.1, h.line.2.same ht.size fun g hg => hf g (h.line.2.lt hg).2 fun hf => hf.q hg⟩,
    h.dups.same fun d hd g hg => hf g (h.lt hd hg).2 fun hf => hf.d d hd hg, h.ins.same ht.size fun g hg => hf g (h.ins.lt hg).2 fun hf => hf.i hg, h.isIn, h.sep1, h.sep2,
    h.below.trans (ht.below hw h.below.size), h.hp, Nat.le_trans h.hb ht.size⟩
theorem LSt.mono (h : LSt w base p qv vin I J D wr) (hb : Below wr.heap.size wr w') : LSt w base p qv vin I J D w' :=
  h.touch (S := fun _ => False) (Touch.of_below hb) (fun _ hk => hk.elim) (fun _ hk => hk.elim)
/-- One is put behind the others. -/
theorem LSt.push {it : Itm} {d' : DG} {wm : World} (h : LSt w base p qv vin I J D wr) (hm : Below wr.heap.size wr wm) (hd : Dup wm wr.heap.size it d') (hbl : it.bufs.length ≤ 1048576) (hP : PEnd wm base p qv D d' w') (hw : w.heap.size ≤ p) :
    ∃ qv', LSt w base p qv' vin I (J ++ [it]) (D ++ [d']) w' ∧ (∀ g, g < wr.heap.size → LFree p qv vin D g → LFree p qv' vin (D ++ [d']) g) := by
  have h1 := h.mono hm
  obtain ⟨qv', hL, hT, hq⟩ := hP
  have hqlt : ∀ g, qv.ownBlock = some g → base ≤ g ∧ g < wr.heap.size := fun g hg => h.line.2.lt hg
  have zb := h.hb
  have zm := hm.size
  have hdl : ∀ g, Has' d' g → wr.heap.size ≤ g ∧ g < wm.heap.size := fun g hg => hd.lt hg
  have kept : ∀ k, k < wm.heap.size → k ≠ p → qv.ownBlock ≠ some k → w'.heap[k]? = wm.heap[k]? := fun k hk h2 h3 => hT.block k hk fun hs => hs.elim h2 h3
  have hq' : ∀ g, qv'.ownBlock = some g → qv.ownBlock = some g ∨ wm.heap.size ≤ g := fun g hg => by
    rcases hq with hq | hq
    · exact .inl (hq ▸ hg)
    · exact .inr (hq g hg)
  refine ⟨qv', ⟨hL, ?_, ?_, h.isIn, ?_, ?_, ?_, h.hp, Nat.le_trans h1.hb hT.size⟩, fun g hgl hf => ⟨hf.p, fun e => ?_, hf.i, fun d hd2 hg => ?_⟩⟩
  · refine (h1.dups.same fun d hd2 g hg => kept g (h1.lt hd2 hg).2 (by have := (h.lt hd2 hg).1; have := h.hp; omega) (h.sep2 d hd2 g hg).2).snoc ((hd.same fun g hg => kept g (hdl g hg).2 (by have := (hdl g hg).1; have := h.hp; omega) fun e => by have := (hqlt g e).2; have := (hdl g hg).1; omega).less zb) hbl
  · exact h1.ins.same hT.size fun g hg => kept g (h1.ins.lt hg).2 (by have := (h1.ins.lt hg).1; have := h.hp; omega) (h.sep1 g hg)
  · intro g hg e
    rcases hq' g e with e | e
    · exact h.sep1 g hg e
    · have := (h.ins.lt hg).2; omega
  · intro d hd2 g hg
    rcases List.mem_append.1 hd2 with hd2 | hd2
    · refine ⟨(h.sep2 d hd2 g hg).1, fun e => ?_⟩
      rcases hq' g e with e | e
      · exact (h.sep2 d hd2 g hg).2 e
      · have := (h.lt hd2 hg).2; omega
    · simp at hd2
      subst hd2
      refine ⟨fun e => ?_, fun e => ?_⟩
      · have := (h.ins.lt e).2; have := (hdl g hg).1; omega
      · rcases hq' g e with e | e
        · have := (hqlt g e).2; have := (hdl g hg).1; omega
        · have := (hdl g hg).2; omega
  · exact h1.below.trans (hT.below (fun k hk => by rcases hk with rfl | hk; exact hw; have := (hqlt k hk).1; have := h.hp; omega) h1.below.size)
  · rcases hq' g e with e | e
    · exact hf.q e
    · omega
  · rcases List.mem_append.1 hd2 with hd2 | hd2
    · exact hf.d d hd2 hg
    · simp at hd2
      subst hd2
      have := (hdl g hg).1
      omega
/-- The first one is taken. -/
theorem LSt.pop {it : Itm} {d : DG} {qv' : Value} (h : LSt w base p qv vin I (it :: J) (d :: D) wr) (hL : LAt w' base p qv' D) (hT : Touch (fun k => k = p) wr w') (hq : qv'.ownBlock = qv.ownBlock) (hw : w.heap.size ≤ p) :
    LSt w base p qv' vin I J D w' ∧ Dup w' base it d := by
  obtain ⟨h1, h2⟩ := h.dups.tail
  have hk : ∀ k, k < wr.heap.size → k ≠ p → w'.heap[k]? = wr.heap[k]? := fun k hk hne => hT.block k hk hne
  have hne : ∀ {d2 : DG} (hd2 : d2 ∈ d :: D) {g : Nat}, Has' d2 g → w'.heap[g]? = wr.heap[g]? := fun hd2 g hg => hk g (h.lt hd2 hg).2 (by have := (h.lt hd2 hg).1; have := h.hp; omega)
  exact ⟨⟨hL, h1.same fun d2 hd2 g hg => hne (by simp [hd2]) hg, h.ins.same hT.size fun g hg => hk g (h.ins.lt hg).2 (by have := (h.ins.lt hg).1; have := h.hp; omega), h.isIn, fun g hg => by rw [hq]; exact h.sep1 g hg,
    fun d2 hd2 g hg => by rw [hq]; exact h.sep2 d2 (by simp [hd2]) g hg, h.below.trans (hT.below (fun k hk => by subst hk; exact hw) h.below.size), h.hp, Nat.le_trans h.hb hT.size⟩, h2.same fun g hg => hne (by simp) hg⟩
/-- One is put behind those that were taken in. -/
theorem LSt.app {it : Itm} {vin' : Value} (h : LSt w base p qv vin I J D wr) (hi : it.In w) (hq : QS w' base vin' (I.map (·.e) ++ [it.e])) (hg : wr.grownBy w' vin.ownBlock) (hv : vin'.ownBlock = vin.ownBlock ∨ ∀ g, vin'.ownBlock = some g → wr.heap.size ≤ g) (hw : w.heap.size ≤ base) :
    LSt w base p qv vin' (I ++ [it]) J D w' := by
  have hk : ∀ k, k < wr.heap.size → vin.ownBlock ≠ some k → w'.heap[k]? = wr.heap[k]? := fun k hk hne => hg.block k hk fun e => hne e.symm
  have hv' : ∀ g, g < wr.heap.size → vin'.ownBlock = some g → vin.ownBlock = some g := fun g hgl e => by
    rcases hv with hv | hv
    · exact hv ▸ e
    · have := hv g e; omega
  refine ⟨⟨(hk p h.line.1.lt fun e => by have := (h.ins.lt e).1; have := h.hp; omega).trans h.line.1, h.line.2.same hg.size fun g hg2 => hk g (h.line.2.lt hg2).2 fun e => h.sep1 g e hg2⟩,
    h.dups.same fun d hd g hg2 => hk g (h.lt hd hg2).2 (h.sep2 d hd g hg2).1, by simpa using hq, fun x hx => ?_, fun g hg2 e => ?_, fun d hd g hg2 => ⟨fun e => ?_, (h.sep2 d hd g hg2).2⟩, ?_, h.hp, Nat.le_trans h.hb hg.size⟩
  · rcases List.mem_append.1 hx with hx | hx
    · exact h.isIn x hx
    · simp at hx; subst hx; exact hi
  · exact h.sep1 g (hv' g (h.line.2.lt e).2 hg2) e
  · exact (h.sep2 d hd g hg2).1 (hv' g (h.lt hd hg2).2 e)
  · exact h.below.trans (((Below.refl _ _).grown hg h.below.size fun k hk2 => Nat.le_trans hw (h.ins.lt hk2).1))
end
end Go.Proofs.Ytbhdojpgjmbogaa
