/- A byte is stored, as a step of a region that draws. -/
import Derived.Test.YtbhdojpgjmbogaaDoorDrawn2
import Derived.Test.YtbhdojpgjmbogaaDoorTouch
namespace Go.Proofs.YtbhdojpgjmbogaaDoor
open Go.RowKit Go.Shelf
theorem step_storeU8 {ops : Array Oper} {o : Oper} {a : Act} {w : World} {K : Act → World → Prop} {Q : Exit → Act → World → Prop} {E : Prop} (hgd : o.guard = none) (x y : Operand) (ho : o.op = .store 5 x y) {b off : Nat} {n : Int} {old : Value}
    (hx : a.eval x = .pointer (some ⟨b, off, none⟩)) (hy : a.eval y = .int .u8 n) (hc : w.cell? ⟨b, off, none⟩ = some old) (hf : w.frozen? ⟨b, off, none⟩ = false) (h : K (a.put o.dst undef) (w.setCell ⟨b, off, none⟩ (.int .u8 n))) :
    if Region.wanted o (yielded ops a.tmps) = true then Oper.wp Tryd.prog o a w K Q else E := by
  have hw : Region.wanted o (yielded ops a.tmps) = true := by simp [Region.wanted, hgd]
  rw [if_pos hw]
  have e : (Instr.storeAt 5 (.pointer (some ⟨b, off, none⟩)) (.int .u8 n)).run Tryd.prog w = .ok () (w.setCell ⟨b, off, none⟩ (.int .u8 n)) := by simp [hc, hf, go_sem]
  unfold Oper.wp execOp
  simp only [ho, hx, hy, Sem.run_bind, e, Result.andThen_ok, Sem.run_pure]
  exact h
end Go.Proofs.YtbhdojpgjmbogaaDoor
