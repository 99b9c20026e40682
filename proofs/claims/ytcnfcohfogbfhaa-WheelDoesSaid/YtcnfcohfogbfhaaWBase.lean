/- Words of memory that serve any seat: rows of the call's own, boxed blocks, what a call touches. -/
import Derived.Test.YtcnfcohfogbfhaaProg
import Derived.WalkKit
import Derived.WalkSpells
import Derived.WalkLawsBesides
import Derived.Lib.SliceRun
import Derived.Maps.AppendAt
import Derived.Deep.AppendLies
import Derived.Deep.Draws
import Derived.Deep.MidRow
import Derived.Deep.RegionLaw
import Derived.Lib.Hide
import Derived.Deep.DeepCutAuto
import Derived.Shelf.Abstract
import Derived.Test.YtcnfcohfogbfhaaDrawn2
namespace Go.Proofs.Ytcnfcohfogbfhaa
open Go.RowKit Go.Shelf
theorem add_block (a : Addr) (n : Nat) : (a.add n).block = a.block := by unfold Addr.add; split <;> rfl
theorem add_add_eq (a : Addr) (i j : Nat) : (a.add i).add j = a.add (i + j) := by
  unfold Addr.add
  by_cases hi : i = 0 <;> by_cases hj : j = 0 <;> simp [hi, hj, Nat.add_assoc]

theorem add_lit (b o j : Nat) : (Addr.mk b o none).add j = ⟨b, o + j, none⟩ := by unfold Addr.add; split <;> simp_all
theorem owns_block_lt {w : World} {base : Nat} {e : TypeId} {size n : Nat} {v : Value} {xs : List Value} (h : w.ownsRow base e size v n xs) {g : Nat} (hg : v.ownBlock = some g) : base ≤ g ∧ g < w.heap.size :=
  h.lt g hg
theorem owns_same {w w' : World} {base : Nat} {e : TypeId} {size n : Nat} {v : Value} {xs : List Value} (h : w.ownsRow base e size v n xs)
    (hb : ∀ g, v.ownBlock = some g → w'.heap[g]? = w.heap[g]?) : w'.ownsRow base e size v n xs := by
  obtain ⟨h1, h2⟩ := h
  refine ⟨h1, ?_⟩
  rcases h2 with h2 | ⟨g, cap, cur, hv, hg, hh, r⟩
  · exact Or.inl h2
  · exact Or.inr ⟨g, cap, cur, hv, hg, by rw [hb g (by rw [hv]; rfl)]; exact hh, r⟩
theorem owns_mono {w w' : World} {base : Nat} {e : TypeId} {size n : Nat} {v : Value} {xs : List Value} (h : w.ownsRow base e size v n xs) (hb : Below w.heap.size w w') : w'.ownsRow base e size v n xs :=
  owns_same h fun g hg => hb.block g (owns_block_lt h hg).2
theorem owns_base {w : World} {base base' : Nat} {e : TypeId} {size n : Nat} {v : Value} {xs : List Value} (h : w.ownsRow base e size v n xs) (hb : base' ≤ base) : w.ownsRow base' e size v n xs := by
  obtain ⟨h1, h2⟩ := h
  refine ⟨h1, ?_⟩
  rcases h2 with h2 | ⟨g, cap, cur, hv, hg, hh, r⟩
  · exact Or.inl h2
  · exact Or.inr ⟨g, cap, cur, hv, Nat.le_trans hb hg, hh, r⟩
/-- What an append onto an owned row from B on leaves below B. -/
theorem below_app {w w' : World} {B base : Nat} {e : TypeId} {size n : Nat} {v : Value} {xs : List Value} (h : w.ownsRow base e size v n xs) (hg : w.grownBy w' v.ownBlock) (hB : B ≤ base) (hBw : B ≤ w.heap.size) : Below B w w' :=
  (Below.refl B w).grown hg hBw fun k hk => Nat.le_trans hB (h.lt k hk).1
/-- What an append has turned: the row of its own, and where the new one lies. -/
def Grew (w w' : World) (v v' : Value) : Prop := w.grownBy w' v.ownBlock ∧ (v'.ownBlock = v.ownBlock ∨ v'.ownBlock = some w.heap.size)
theorem below_alloc (w : World) (o : Obj) : Below w.heap.size w (w.alloc o) := (Below.refl _ _).alloc (Nat.le_refl _) _
/-- Behind what was kept from w on, what is kept from w1 on. -/
theorem below_step {B : Nat} {w w1 w2 : World} (h : Below B w w1) (hB : B ≤ w1.heap.size) (h2 : Below w1.heap.size w1 w2) : Below B w w2 := h.trans (h2.mono hB)

/-- A block that is known whole: a variable that was boxed. -/
def Blk (w : World) (g : Nat) (t : TypeId) (cs : Array Value) : Prop := w.heap[g]? = some (.cells cs t (0, 0))
theorem Blk.lt {w : World} {g : Nat} {t : TypeId} {cs : Array Value} (h : Blk w g t cs) : g < w.heap.size := by
  rcases Nat.lt_or_ge g w.heap.size with hlt | hge
  · exact hlt
  · unfold Blk at h; rw [Array.getElem?_eq_none hge] at h; cases h
theorem Blk.new (w : World) (t : TypeId) (cs : Array Value) (g : Nat) (hg : w.heap.size = g) : Blk (w.alloc (.cells cs t)) g t cs := by subst hg; exact heap_alloc_new w _
theorem Blk.alloc {w : World} {g : Nat} {t : TypeId} {cs : Array Value} (h : Blk w g t cs) (o : Obj) : Blk (w.alloc o) g t cs := (Below.heap_alloc w o g h.lt).trans h
theorem Blk.keep {w w' : World} {B g : Nat} {t : TypeId} {cs : Array Value} (h : Blk w g t cs) (hb : Below B w w') (hg : g < B) : Blk w' g t cs := (hb.block g hg).trans h
theorem Blk.mono {w w' : World} {g : Nat} {t : TypeId} {cs : Array Value} (h : Blk w g t cs) (hb : Below w.heap.size w w') : Blk w' g t cs := h.keep hb h.lt
theorem Blk.drew {w : World} {g : Nat} {t : TypeId} {cs : Array Value} (h : Blk w g t cs) (n : Nat) : Blk (w.drewN n) g t cs := h
theorem Blk.cell {w : World} {g : Nat} {t : TypeId} {cs : Array Value} (h : Blk w g t cs) (i : Nat) : w.cell? ⟨g, i, none⟩ = cs[i]? := cell_of_row w g i cs t (0, 0) h
theorem Blk.free {w : World} {g : Nat} {t : TypeId} {cs : Array Value} (h : Blk w g t cs) (i : Nat) : w.frozen? ⟨g, i, none⟩ = false := by
  unfold Blk at h
  simp [World.frozen?, h]
theorem Blk.set {w : World} {g : Nat} {t : TypeId} {cs : Array Value} (h : Blk w g t cs) (i : Nat) (u : Value) : Blk (w.setCell ⟨g, i, none⟩ u) g t (cs.setIfInBounds i u) := by
  unfold Blk at h ⊢
  simp [World.setCell, Array.getElem?_modify, h]
theorem Blk.far {w : World} {g : Nat} {t : TypeId} {cs : Array Value} (h : Blk w g t cs) {p : Addr} (hp : g ≠ p.block) (u : Value) : Blk (w.setCell p u) g t cs := (Below.heap_setCell w p u g hp).trans h
def aggD (d : TypeDesc) : Bool := match d with | .struct _ | .array _ _ => true | _ => false
/-- A whole variable that was boxed is loaded. -/
theorem wpList_loadB {ops : Array Oper} {rest : List Oper} {o : Oper} {a : Act} {w : World} {Q : Exit → Act → World → Prop} (hgd : o.guard = none) (ty : TypeId) (x : Operand) (ho : o.op = .load ty x)
    {g : Nat} {t : TypeId} {cs : Array Value} (hg : Blk w g t cs) (hx : a.eval x = .pointer (some ⟨g, 0, none⟩)) {d : TypeDesc}
    (hu : Try.prog.underlying ty = some d) (hd : aggD d = true) (hi : (Try.prog.info? ty).map (·.size) = some cs.size)
    (h : wpList Try.prog ops Q rest (a.put o.dst (.agg cs)) w) : wpList Try.prog ops Q (o :: rest) a w :=
  wpList_load_row hgd ty x ho g hx t cs (0, 0) d hg hu (by unfold aggD at hd; cases d <;> simp_all) hi h
/-- A look at which slot the operation writes that stands next. -/
theorem at_slot {P : Program} {ops : Array Oper} {rest : List Oper} {op : Op} {ty : TypeId} {pos : String} {af : Array Edge} {g : Option (Nat × Bool)} {a : Act} {Q : Exit → Act → World → Prop} {w : World} (n : Nat)
    (h : wpList P ops Q (⟨some n, op, ty, pos, af, g⟩ :: rest) a w) : wpList P ops Q (⟨some n, op, ty, pos, af, g⟩ :: rest) a w := h
/-- What a call may have turned. -/
structure Touch (S : Nat → Prop) (w w' : World) : Prop where
  os : w'.os = w.os
  tape : w'.tape = w.tape
  output : w'.output = w.output
  size : w.heap.size ≤ w'.heap.size
  block : ∀ k, k < w.heap.size → ¬ S k → w'.heap[k]? = w.heap[k]?
theorem Touch.refl (S : Nat → Prop) (w : World) : Touch S w w := ⟨rfl, rfl, rfl, Nat.le_refl _, fun _ _ _ => rfl⟩
theorem Touch.trans {S : Nat → Prop} {a b c : World} (h : Touch S a b) (k : Touch S b c) : Touch S a c :=
  ⟨k.os.trans h.os, k.tape.trans h.tape, k.output.trans h.output, Nat.le_trans h.size k.size, fun i hi hs => (k.block i (Nat.lt_of_lt_of_le hi h.size) hs).trans (h.block i hi hs)⟩
theorem Touch.grown {S : Nat → Prop} {w w' : World} {row : Option Nat} (h : w.grownBy w' row) (hr : ∀ r, row = some r → S r) : Touch S w w' :=
  ⟨h.os, h.tape, h.output, h.size, fun k hk hs => h.block k hk fun e => hs (hr k e.symm)⟩
theorem Touch.set {S : Nat → Prop} (w : World) {p : Addr} (hp : S p.block) (u : Value) : Touch S w (w.setCell p u) :=
  ⟨rfl, rfl, rfl, by simp [World.setCell], fun k _ hs => Below.heap_setCell w p u k fun e => hs (e ▸ hp)⟩
theorem Touch.drew {S : Nat → Prop} {w w' : World} (h : Touch S w w') : Touch S w w'.drew := ⟨h.os, h.tape, h.output, h.size, h.block⟩
theorem Touch.below {S : Nat → Prop} {w w' : World} {B : Nat} (h : Touch S w w') (hB : ∀ k, S k → B ≤ k) (hw : B ≤ w.heap.size) : Below B w w' :=
  ⟨h.os, h.tape, h.output, h.size, fun k hk => h.block k (Nat.lt_of_lt_of_le hk hw) fun hs => by have := hB k hs; omega⟩
theorem Touch.of_below {S : Nat → Prop} {w w' : World} (h : Below w.heap.size w w') : Touch S w w' := ⟨h.os, h.tape, h.output, h.size, fun k hk _ => h.block k hk⟩
theorem Touch.mono {S S' : Nat → Prop} {w w' : World} (h : Touch S w w') (hs : ∀ k, S k → S' k) : Touch S' w w' := ⟨h.os, h.tape, h.output, h.size, fun k hk hn => h.block k hk fun e => hn (hs k e)⟩
theorem Blk.touch {w w' : World} {g : Nat} {t : TypeId} {cs : Array Value} (h : Blk w g t cs) {S : Nat → Prop} (ht : Touch S w w') (hS : ¬ S g) : Blk w' g t cs := (ht.block g h.lt hS).trans h
theorem boxes_below (w : World) (x y : Obj) : Below w.heap.size w ((w.alloc x).alloc y) := ((Below.refl w.heap.size w).alloc (Nat.le_refl _) _).alloc (by simp) _
theorem ret_bool {a b : Bool} (h : a = b) : Ending.returned (.bool a) = .returned (.bool b) := by rw [h]
def InI (k : Int) : Prop := -9223372036854775808 ≤ k ∧ k ≤ 9223372036854775807
abbrev noS : Value := .slice none 0 0
/-- A whole variable that was boxed is stored into. -/
theorem wpList_storeB {ops : Array Oper} {rest : List Oper} {o : Oper} {a : Act} {w : World} {Q : Exit → Act → World → Prop} (hgd : o.guard = none) (ty : TypeId) (x y : Operand) (ho : o.op = .store ty x y) (hd : o.dst = none)
    {g : Nat} {t : TypeId} {old : Array Value} (hg : Blk w g t old) (cells : Array Value) (hx : a.eval x = .pointer (some ⟨g, 0, none⟩)) (hy : a.eval y = .agg cells) (hi : (Try.prog.info? ty).map (·.size) = some cells.size)
    (hold : old.size = cells.size) (h1 : cells.all (·.oneCell') = true)
    (h : wpList Try.prog ops Q rest a (w.setRow g cells)) : wpList Try.prog ops Q (o :: rest) a w :=
  wpList_store_row hgd ty x y ho g cells hx hy t old hg hi hold h1 (by rw [hd]; exact h)
theorem heap_setRow {w : World} {g : Nat} {t : TypeId} {old cells : Array Value} (hg : Blk w g t old) : Blk (w.setRow g cells) g t cells ∧ ∀ k, k ≠ g → (w.setRow g cells).heap[k]? = w.heap[k]? := by
  unfold Blk at *
  constructor
  · simp [World.setRow, Array.getElem?_modify, hg]
  · intro k hk
    simp [World.setRow, Array.getElem?_modify, Ne.symm hk]
theorem Blk.rowFar {w : World} {g k : Nat} {t t' : TypeId} {old cells cs : Array Value} (hg : Blk w g t old) (h : Blk w k t' cs) (hk : k ≠ g) : Blk (w.setRow g cells) k t' cs := ((heap_setRow hg).2 k hk).trans h
theorem below_setRow {B : Nat} {w w1 : World} {g : Nat} {t : TypeId} {old cells : Array Value} (h : Below B w w1) (hg : Blk w1 g t old) (hB : B ≤ g) : Below B w (w1.setRow g cells) :=
  h.trans ⟨rfl, rfl, rfl, by simp [World.setRow], fun k hk => (heap_setRow hg).2 k (by omega)⟩
theorem Touch.rowB {g : Nat} {t : TypeId} {old cells : Array Value} (w : World) (hg : Blk w g t old) : Touch (fun k => k = g) w (w.setRow g cells) :=
  ⟨rfl, rfl, rfl, by simp [World.setRow], fun k _ hs => (heap_setRow hg).2 k hs⟩
theorem Blk.rangeP {w : World} {g : Nat} {t : TypeId} {cs : Array Value} (h : Blk w g t cs) : w.rangeAt g 0 cs.toList := by
  intro j v hv
  rw [Nat.zero_add, Blk.cell h, ← Array.getElem?_toList]
  exact hv
/-- A call of a Go function as a step of a region that draws. -/
theorem step_call {P : Program} {ops : Array Oper} {o : Oper} {a : Act} {w : World} {K : Act → World → Prop} {Q : Exit → Act → World → Prop} {E : Prop} (hgd : o.guard = none) {f : FuncId} {args : Array Operand} {ts : Array TypeId}
    (ho : o.op = .call { callee := .value (.func f), args := args, argTypes := ts }) {vals : Array Value} (hE : Enters P f) {R : Ending → World → Prop} (c : Calls P f vals w R) (hv : args.toList.map a.eval = vals.toList)
    (h : ∀ e w', R e w' → ∃ v, e = .returned v ∧ K (a.put o.dst v) w') : if Region.wanted o (yielded ops a.tmps) = true then Oper.wp P o a w K Q else E := by
  have hw : Region.wanted o (yielded ops a.tmps) = true := by simp [Region.wanted, hgd]
  rw [if_pos hw]
  have hrun : (execOp a.eval o).run P w = .ok (.enter f vals) w := by
    simp [execOp, ho, resolve, invoke, Act.eval, go_sem]
    have hv' : args.map a.eval = vals := by rw [← Array.toList_inj, Array.toList_map]; exact hv
    rw [hv']
    exact hE vals w
  unfold Oper.wp
  rw [hrun, Oper.upon_enter]
  refine c.mono ?_
  intro e w' hR
  obtain ⟨v, rfl, hK⟩ := h e w' hR
  exact hK
end Go.Proofs.Ytcnfcohfogbfhaa
