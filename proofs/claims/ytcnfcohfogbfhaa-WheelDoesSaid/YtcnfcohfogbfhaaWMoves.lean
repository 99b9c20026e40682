/- Moves for a region that draws, once more: what is kept may be made more on the way; guarded calls; a slice is stored. -/
import Derived.Test.YtcnfcohfogbfhaaWBase
namespace Go.Proofs.Ytcnfcohfogbfhaa
open Go Go.RowKit Go.Shelf
section
variable {P : Program} {ops : Array Oper} {Q : Exit → Act → World → Prop} {md : Region.Mode} {n : Nat}
/-- From here on more is kept. -/
theorem G.more {S T : World → Prop} (hST : ∀ w, T w → S w) : ∀ {k : Nat} {listed : Array Bool} {a : Act} {w : World}, wpAnyG P md ops n Q T k listed a w → wpAnyG P md ops n Q S k listed a w
  | 0, _, _, _, h => h
  | _ + 1, _, _, _, h => ⟨h.1, fun i hi => wpOp_mono (fun _ w' h' => ⟨fun hg => hST w' (h'.1 hg), G.more hST h'.2⟩) (h.2 i hi)⟩
/-- A call of a Go function as a step of a region that draws, under a guard that holds. -/
theorem step_callG {o : Oper} {a : Act} {w : World} {K : Act → World → Prop} {E : Prop} (hw : Region.wanted o (yielded ops a.tmps) = true) {f : FuncId} {args : Array Operand} {ts : Array TypeId}
    (ho : o.op = .call { callee := .value (.func f), args := args, argTypes := ts }) {vals : Array Value} (hE : Enters P f) {R : Ending → World → Prop} (c : Calls P f vals w R) (hv : args.toList.map a.eval = vals.toList)
    (h : ∀ e w', R e w' → ∃ v, e = .returned v ∧ K (a.put o.dst v) w') : if Region.wanted o (yielded ops a.tmps) = true then Oper.wp P o a w K Q else E := by
  rw [if_pos hw]
  have h2 := step_call (P := P) (ops := #[]) (o := { o with guard := none }) (a := a) (w := w) (K := K) (Q := Q) (E := True) rfl ho hE c hv h
  rw [if_pos (by simp [Region.wanted])] at h2
  exact h2
end
/-- A slice of timers is stored, as a step of a region that draws. -/
theorem step_storeS {ops : Array Oper} {o : Oper} {a : Act} {w : World} {K : Act → World → Prop} {Q : Exit → Act → World → Prop} {E : Prop} (hgd : o.guard = none) (x y : Operand) (ho : o.op = .store 54 x y) {b off n c : Nat} {A : Option Addr} {old : Value}
    (hx : a.eval x = .pointer (some ⟨b, off, none⟩)) (hy : a.eval y = .slice A n c) (hc : w.cell? ⟨b, off, none⟩ = some old) (hf : w.frozen? ⟨b, off, none⟩ = false) (h : K (a.put o.dst undef) (w.setCell ⟨b, off, none⟩ (.slice A n c))) :
    if Region.wanted o (yielded ops a.tmps) = true then Oper.wp Try.prog o a w K Q else E := by
  have hw : Region.wanted o (yielded ops a.tmps) = true := by simp [Region.wanted, hgd]
  rw [if_pos hw]
  have e : (Instr.storeAt 54 (.pointer (some ⟨b, off, none⟩)) (.slice A n c)).run Try.prog w = .ok () (w.setCell ⟨b, off, none⟩ (.slice A n c)) := by simp [hc, hf, go_sem]
  unfold Oper.wp execOp
  simp only [ho, hx, hy, Sem.run_bind, e, Result.andThen_ok, Sem.run_pure]
  exact h
end Go.Proofs.Ytcnfcohfogbfhaa
