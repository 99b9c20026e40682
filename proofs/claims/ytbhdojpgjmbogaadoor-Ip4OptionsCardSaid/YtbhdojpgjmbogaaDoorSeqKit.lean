/- Words for iterators that turn a variable that they have caught. -/
import Derived.Test.YtbhdojpgjmbogaaDoorSeq
import Derived.Test.YtbhdojpgjmbogaaDoorTouch
namespace Go.Proofs.YtbhdojpgjmbogaaDoor
open Go.RowKit Go.Shelf
theorem Touch.own {S : Nat → Prop} {w0 W W' : World} {row : Option Nat} {B : Nat} (h : Touch S w0 W) (hB : w0.heap.size ≤ B) (hg : W.grownBy W' row) (hr : ∀ r, row = some r → B ≤ r) : Touch S w0 W' :=
  ⟨hg.os.trans h.os, hg.tape.trans h.tape, hg.output.trans h.output, Nat.le_trans h.size hg.size, fun k hk hs => (hg.block k (Nat.lt_of_lt_of_le hk h.size) (fun e => by have := hr k e.symm; omega)).trans (h.block k hk hs)⟩
theorem Blk.own {W W' : World} {k B : Nat} {t : TypeId} {cs : Array Value} {row : Option Nat} (h : Blk W k t cs) (hk : k < B) (hg : W.grownBy W' row) (hr : ∀ r, row = some r → B ≤ r) : Blk W' k t cs :=
  (hg.block k h.lt (fun e => by have := hr k e.symm; omega)).trans h
theorem results_cellB {fn : Func} {p : Tmp} (h : fn.results = #[.cell p 4]) (tmps : Array Value) {w : World} {g : Nat} {rb : Bool} (hp : tmps.getD p undef = .pointer (some ⟨g, 0, none⟩)) (hc : w.cell? ⟨g, 0, none⟩ = some (.bool rb)) :
    (results fn tmps).run Tryd.prog w = .ok (.bool rb) w := by
  rw [Array.getD_eq_getD_getElem?] at hp
  simp [results, h, hp, hc, go_sem]
/-- What waits in the variable that was caught. -/
def lenAt (w : World) (C : Nat) : Nat := match w.cell? ⟨C, 0, none⟩ with | some (.slice _ n _) => n | _ => 0
theorem lenAt_of {w : World} {C n c : Nat} {A : Option Addr} (h : w.cell? ⟨C, 0, none⟩ = some (.slice A n c)) : lenAt w C = n := by simp [lenAt, h]
/-- What a round keeps for the teller of options. -/
def OKp (n₀ C : Nat) (W W' : World) : Prop := W.heap.size ≤ W'.heap.size ∧ W'.heap[C]? = W.heap[C]? ∧ ∀ k, k < n₀ → W'.heap[k]? = W.heap[k]?
theorem OKp.refl (n₀ C : Nat) (W : World) : OKp n₀ C W W := ⟨Nat.le_refl _, rfl, fun _ _ => rfl⟩
theorem OKp.trans {n₀ C : Nat} {A B D : World} (h : OKp n₀ C A B) (k : OKp n₀ C B D) : OKp n₀ C A D := ⟨Nat.le_trans h.1 k.1, k.2.1.trans h.2.1, fun i hi => (k.2.2 i hi).trans (h.2.2 i hi)⟩
theorem Rd.old {w w' : World} {v : Value} {l : List UInt8} (h : Rd w v l) (hs : w.heap.size ≤ w'.heap.size) (hb : ∀ k, k < w.heap.size → w'.heap[k]? = w.heap[k]?) : Rd w' v l := by
  obtain ⟨A, c, e, h1, h2, h3⟩ := h
  exact ⟨A, c, e, h1, h2, h3.same hs fun ad _ hlt => hb _ hlt⟩
theorem at_slotIn {F : Fence} {k : Nat} {P : Program} {ops : Array Oper} {rest : List Oper} {op : Op} {ty : TypeId} {pos : String} {af : Array Edge} {g : Option (Nat × Bool)} {a : Act} {Q : Exit → Act → World → Prop} {w : World} (n : Nat)
    (h : wpListIn F k P ops Q (⟨some n, op, ty, pos, af, g⟩ :: rest) a w) : wpListIn F k P ops Q (⟨some n, op, ty, pos, af, g⟩ :: rest) a w := h
theorem Rd.dropAt {w : World} {A : Option Addr} {n c : Nat} {l : List UInt8} (h : Rd w (.slice A n c) l) (k : Nat) (hk : k ≤ l.length) : Rd w (.slice (if c = k then A else A.map (·.add (k * 1))) (n - k) (c - k)) (l.drop k) := by
  obtain ⟨A', c', e, h1, h2, h3⟩ := h
  injection e with e1 e2 e3
  subst e1 e2 e3
  rw [List.length_map] at h1
  have h4 := drop_map_add A c k l.length w (l.map bv) h3 (by simp) (by rw [List.length_map]; exact h1)
  refine ⟨if c = k then A else A.map (·.add (k * 1)), c - k, by simp, by simp; omega, by omega, ?_⟩
  rw [List.map_drop]
  rwa [List.take_of_length_le (by simp)] at h4
/-- A piece of a slice of bytes is taken; the slice reads in an elder world. -/
theorem wpList_slice2 {ops : Array Oper} {rest : List Oper} {o : Oper} {a : Act} {Q : Exit → Act → World → Prop} {w Wd : World} (hgd : o.guard = none) (x : Operand) (lo hi : Option Operand)
    (ho : o.op = .slice 24 x lo hi none) {v : Value} {l : List UInt8} (hr : Rd Wd v l) (hx : a.eval x = v) (L H : Int) (hlo : IsBound a lo 0 L) (hhi : IsBound a hi l.length H) (h0 : 0 ≤ L) (h1 : L ≤ H) (h2 : H ≤ l.length)
    (h : ∀ (m : List UInt8) (A : Option Addr) (c : Nat), Hid (m = (l.take H.toNat).drop L.toNat) → m.length ≤ c → c ≤ 9223372036854775807 → Rd Wd (.slice A m.length c) m → wpList Tryd.prog ops Q rest (a.put o.dst (.slice A m.length c)) w) :
    wpList Tryd.prog ops Q (o :: rest) a w := by
  obtain ⟨i, hi', hz, hz1, hz2⟩ := info_parts byte_info
  obtain ⟨v', hrun, hr'⟩ := run_slice_any (w' := w) 24 5 i und_bytes hi' hz1 v (l.map bv) hr a lo hi L H hlo (by rw [List.length_map]; exact hhi) h0 h1 (by rw [List.length_map]; exact h2)
  refine wpList_plain hgd fun K hK => ?_
  rw [← List.map_take, ← List.map_drop] at hr'
  obtain ⟨m, hm⟩ : ∃ m, m = (l.take H.toNat).drop L.toNat := ⟨_, rfl⟩
  rw [← hm] at hr'
  obtain ⟨A, c, rfl, e1, e2⟩ := Rd.form hr'
  unfold Oper.wp
  simp only [execOp, ho, hx, Option.map_none] at hrun ⊢
  simp [hrun, Result.andThen]
  exact hK _ _ (h m A c hm e1 e2 hr')
end Go.Proofs.YtbhdojpgjmbogaaDoor
