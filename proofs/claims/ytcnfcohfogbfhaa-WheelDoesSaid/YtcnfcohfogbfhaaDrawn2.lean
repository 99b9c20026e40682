/- Drawn's moves once more, where number n may have come already. -/
import Derived.Test.YtcnfcohfogbfhaaDrawn
namespace Go.Proofs.Ytcnfcohfogbfhaa
open Go
section
variable {P : Program} {ops : Array Oper} {Q : Exit → Act → World → Prop} {S : World → Prop} {n : Nat}
theorem G.pure' {i k : Nat} {oi : Oper} {v : Value} {listed : Array Bool} {a : Act} {w : World} (hi : ops[i]? = some oi)
    (hf : (Region.noSelect ops && Region.free .any ops listed i && (Region.ready .any ops listed).contains i && decide (i ≠ n)) = true) (hQ : ∀ c a w, Q (.panic c) (a.put oi.dst v) w → Q (.panic c) a w) (hy : YieldsIf P ops (fun _ => True) oi v a) (hS : listed.getD n false = false → S w)
    (h : wpAnyG P .any ops n Q S k (listed.setIfInBounds i true) (a.put oi.dst v) w) : wpAnyG P .any ops n Q S (k + 1) listed a w := by
  simp only [Bool.and_eq_true, decide_eq_true_eq] at hf
  obtain ⟨⟨⟨h4, f1⟩, f2⟩, f3⟩ := hf
  exact wpAnyG_first hi f3 (Region.noSelect_spec h4) hQ (fun _ => True) (fun _ => True) (fun _ _ _ _ _ _ => trivial) (fun _ _ _ _ => trivial) k listed a w trivial (Region.free_spec hi f1) (by simpa using f2) hy hS h
theorem G.only' {i k : Nat} {o : Oper} {listed : Array Bool} {a : Act} {w : World} (hr : Region.ready .any ops listed = [i]) (ho : ops[i]? = some o)
    (h : ∀ K : Act → World → Prop, (∀ a' w', ((listed.setIfInBounds i true).getD n false = false → S w') → wpAnyG P .any ops n Q S k (listed.setIfInBounds i true) a' w' → K a' w') → if Region.wanted o (yielded ops a.tmps) = true then Oper.wp P o a w K Q else K (a.put o.dst undef) w) :
    wpAnyG P .any ops n Q S (k + 1) listed a w := by
  refine ⟨fun e => (by rw [hr] at e; cases e), fun j hj => ?_⟩
  rw [hr] at hj
  have hji : j = i := by simpa using hj
  subst hji
  have h' := h (fun a' w' => ((listed.setIfInBounds j true).getD n false = false → S w') ∧ wpAnyG P .any ops n Q S k (listed.setIfInBounds j true) a' w') (fun a' w' hS hG => ⟨hS, hG⟩)
  unfold wpOp
  rw [ho]
  show if Region.wanted o (yielded ops a.tmps) = true then _ else _
  split
  · rename_i hw; rw [if_pos hw] at h'; exact .inl h'
  · rename_i hw; rw [if_neg hw] at h'; exact h'
/-- The last one yields in whatever world. -/
theorem G.lastPure {i k : Nat} {oi : Oper} {v : Value} {listed : Array Bool} {a : Act} {w : World} (hr : Region.ready .any ops listed = [i]) (hr2 : Region.ready .any ops (listed.setIfInBounds i true) = []) (ho : ops[i]? = some oi)
    (hy : YieldsIf P ops (fun _ => True) oi v a) (hS : (listed.setIfInBounds i true).getD n false = false → S w) (h : Q .normal (a.put oi.dst v) w) : wpAnyG P .any ops n Q S (k + 1) listed a w := by
  refine ⟨fun e => (by rw [hr] at e; cases e), fun j hj => ?_⟩
  rw [hr] at hj
  have hji : j = i := by simpa using hj
  subst hji
  exact hy.wpOp ho trivial ⟨hS, G.done hr2 h⟩
end
section
variable {P : Program} {ops : Array Oper} {Q : Exit → Act → World → Prop} {S : World → Prop} {n : Nat}
theorem G.two {i j k : Nat} {oi oj : Oper} {listed : Array Bool} {a : Act} {w : World} (hr : Region.ready .any ops listed = [i, j]) (hi : ops[i]? = some oi) (hj : ops[j]? = some oj)
    (h1 : ∀ K : Act → World → Prop, (∀ a' w', ((listed.setIfInBounds i true).getD n false = false → S w') → wpAnyG P .any ops n Q S k (listed.setIfInBounds i true) a' w' → K a' w') → if Region.wanted oi (yielded ops a.tmps) = true then Oper.wp P oi a w K Q else K (a.put oi.dst undef) w)
    (h2 : ∀ K : Act → World → Prop, (∀ a' w', ((listed.setIfInBounds j true).getD n false = false → S w') → wpAnyG P .any ops n Q S k (listed.setIfInBounds j true) a' w' → K a' w') → if Region.wanted oj (yielded ops a.tmps) = true then Oper.wp P oj a w K Q else K (a.put oj.dst undef) w) :
    wpAnyG P .any ops n Q S (k + 1) listed a w := by
  refine ⟨fun e => (by rw [hr] at e; cases e), fun m hm => ?_⟩
  rw [hr] at hm
  have step : ∀ (x : Nat) (o : Oper), ops[x]? = some o → (∀ K : Act → World → Prop, (∀ a' w', ((listed.setIfInBounds x true).getD n false = false → S w') → wpAnyG P .any ops n Q S k (listed.setIfInBounds x true) a' w' → K a' w') → if Region.wanted o (yielded ops a.tmps) = true then Oper.wp P o a w K Q else K (a.put o.dst undef) w) →
      wpOp P ops Q x (fun a' w' => ((listed.setIfInBounds x true).getD n false = false → S w') ∧ wpAnyG P .any ops n Q S k (listed.setIfInBounds x true) a' w') a w := by
    intro x o ho h
    have h' := h (fun a' w' => ((listed.setIfInBounds x true).getD n false = false → S w') ∧ wpAnyG P .any ops n Q S k (listed.setIfInBounds x true) a' w') (fun a' w' hS hG => ⟨hS, hG⟩)
    unfold wpOp
    rw [ho]
    show if Region.wanted o (yielded ops a.tmps) = true then _ else _
    split
    · rename_i hw; rw [if_pos hw] at h'; exact .inl h'
    · rename_i hw; rw [if_neg hw] at h'; exact h'
  simp only [List.mem_cons, List.not_mem_nil, or_false] at hm
  rcases hm with rfl | rfl
  · exact step _ oi hi h1
  · exact step _ oj hj h2
end
end Go.Proofs.Ytcnfcohfogbfhaa
