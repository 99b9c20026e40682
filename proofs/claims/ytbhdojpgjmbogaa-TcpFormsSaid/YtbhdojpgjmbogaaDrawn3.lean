/- Drawn's moves: where two operations may come up; steps of alloc and of the store of a whole segment. -/
import Derived.Test.YtbhdojpgjmbogaaDrawn2
import Derived.Test.YtbhdojpgjmbogaaTcp2
namespace Go.Proofs.Ytbhdojpgjmbogaa
open Go Go.Shelf
section
variable {P : Program} {ops : Array Oper} {Q : Exit → Act → World → Prop} {S : World → Prop} {n : Nat}
theorem G.two {i j k : Nat} {oi oj : Oper} {listed : Array Bool} {a : Act} {w : World} (hr : Region.ready .any ops listed = [i, j]) (hi : ops[i]? = some oi) (hj : ops[j]? = some oj)
    (h1 : ∀ K : Act → World → Prop, (∀ a' w', ((listed.setIfInBounds i true).getD n false = false → S w') → wpAnyG P .any ops n Q S k (listed.setIfInBounds i true) a' w' → K a' w') → if Region.wanted oi (yielded ops a.tmps) = true then Oper.wp P oi a w K Q else K (a.put oi.dst undef) w)
    (h2 : ∀ K : Act → World → Prop, (∀ a' w', ((listed.setIfInBounds j true).getD n false = false → S w') → wpAnyG P .any ops n Q S k (listed.setIfInBounds j true) a' w' → K a' w') → if Region.wanted oj (yielded ops a.tmps) = true then Oper.wp P oj a w K Q else K (a.put oj.dst undef) w) :
    wpAnyG P .any ops n Q S (k + 1) listed a w := by
  refine ⟨fun e => (by rw [hr] at e; cases e), fun m hm => ?_⟩
  rw [hr] at hm
  have step : ∀ (x : Nat) (o : Oper), ops[x]? = some o → (∀ K : Act → World → Prop, (∀ a' w', ((listed.setIfInBounds x true).getD n false = false → S w') → wpAnyG P .any ops n Q S k (listed.setIfInBounds x true) a' w' → K a' w') → if Region.wanted o (yielded ops a.tmps) = true then Oper.wp P o a w K Q else K (a.put o.dst undef) w) →
      wpOp P ops Q x (fun a' w' => ((listed.setIfInBounds x true).getD n false = false → S w') ∧ wpAnyG P .any ops n Q S k (listed.setIfInBounds x true) a' w') a w := by
    intro x o ho h
    have h' := h (fun a' w' => ((listed.setIfInBounds x true).getD n false = false → S w') ∧ wpAnyG P .any ops n Q S k (listed.setIfInBounds x true) a' w') (fun a' w' hS hG => ⟨hS, hG⟩)
    unfold wpOp
    rw [ho]
    show if Region.wanted o (yielded ops a.tmps) = true then _ else _
    split
    · rename_i hw; rw [if_pos hw] at h'; exact .inl h'
    · rename_i hw; rw [if_neg hw] at h'; exact h'
  simp only [List.mem_cons, List.not_mem_nil, or_false] at hm
  rcases hm with rfl | rfl
  · exact step _ oi hi h1
  · exact step _ oj hj h2
end
theorem run_allocSeg (w : World) : (Instr.alloc 67 true (.tuple #[])).run Try.prog w = .ok (.pointer (some ⟨w.heap.size, 0, none⟩)) (w.alloc (.cells SG.zero.cells 67)) := by
  kernel_rfl
/-- A segment is made. -/
theorem step_allocSeg {ops : Array Oper} {o : Oper} {a : Act} {w : World} {K : Act → World → Prop} {Q : Exit → Act → World → Prop} {E : Prop} (hgd : o.guard = none) (ho : o.op = .alloc 67)
    (h : K (a.put o.dst (.pointer (some ⟨w.heap.size, 0, none⟩))) (w.alloc (.cells SG.zero.cells 67))) : if Region.wanted o (yielded ops a.tmps) = true then Oper.wp Try.prog o a w K Q else E := by
  have hw : Region.wanted o (yielded ops a.tmps) = true := by simp [Region.wanted, hgd]
  rw [if_pos hw]
  unfold Oper.wp execOp
  simp only [ho, Sem.run_bind, run_allocSeg, Result.andThen_ok, Sem.run_pure]
  exact h
/-- A whole segment is stored. -/
theorem step_storeSeg {ops : Array Oper} {o : Oper} {a : Act} {w : World} {K : Act → World → Prop} {Q : Exit → Act → World → Prop} {E : Prop} (hgd : o.guard = none) (x y : Operand) (ho : o.op = .store 67 x y)
    {g : Nat} {old : SG} (hg : Blk w g 67 old.cells) (s : SG) (hs1 : s.gt.oneCell' = true) (hs2 : s.da.oneCell' = true) (hx : a.eval x = .pointer (some ⟨g, 0, none⟩)) (hy : a.eval y = s.v)
    (h : K (a.put o.dst undef) (w.setRow g s.cells)) : if Region.wanted o (yielded ops a.tmps) = true then Oper.wp Try.prog o a w K Q else E := by
  have hw : Region.wanted o (yielded ops a.tmps) = true := by simp [Region.wanted, hgd]
  rw [if_pos hw]
  exact wp_store_row 67 x y ho g s.cells hx hy 67 old.cells hg SG.info rfl (SG.one hs1 hs2) h
end Go.Proofs.Ytbhdojpgjmbogaa
