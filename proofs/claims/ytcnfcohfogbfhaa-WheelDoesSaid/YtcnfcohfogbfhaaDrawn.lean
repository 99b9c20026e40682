/- A region that draws its order, within a round of a range over a function: one order serves for all, if what may be read is kept till the last operation comes, and the last one waits for all. -/
import Derived.OrdersHeld
import Derived.OrdersIn
import Derived.StillTail
import Derived.RangeFuncCalls
import Derived.OwnWalkIn
import Derived.Deep.RegionHeld
namespace Go.Proofs.Ytcnfcohfogbfhaa
open Go
section
variable {P : Program} {ops : Array Oper} {Q : Exit → Act → World → Prop} {md : Region.Mode} {S : World → Prop} {n : Nat}
/-- Whatever order is drawn from here on; S holds behind each operation till number n has come. -/
def wpAnyG (P : Program) (md : Region.Mode) (ops : Array Oper) (n : Nat) (Q : Exit → Act → World → Prop) (S : World → Prop) : Nat → Array Bool → Act → World → Prop
  | 0, listed, a, w => Region.ready md ops listed = [] ∧ Q .normal a w
  | k + 1, listed, a, w => (Region.ready md ops listed = [] → Q .normal a w) ∧
    ∀ i ∈ Region.ready md ops listed, wpOp P ops Q i (fun a' w' => ((listed.setIfInBounds i true).getD n false = false → S w') ∧ wpAnyG P md ops n Q S k (listed.setIfInBounds i true) a' w') a w
theorem wpAny_of_G : ∀ (k : Nat) (listed : Array Bool) (a : Act) (w : World), wpAnyG P md ops n Q S k listed a w → wpAny P md ops Q k listed a w
  | 0, _, _, _, h => h
  | k + 1, _, _, _, h => ⟨h.1, fun i hi => wpOp_mono (fun a' w' h' => wpAny_of_G k _ a' w' h'.2) (h.2 i hi)⟩
theorem ready_ne {i : Nat} {listed : Array Bool} (h : i ∈ Region.ready md ops listed) : Region.ready md ops listed ≠ [] := fun e => by rw [e] at h; cases h
theorem getD_off {listed : Array Bool} {i : Nat} (h : listed.getD i true = false) : listed.getD i false = false := by
  rcases Nat.lt_or_ge i listed.size with h' | h'
  · simp [h'] at h ⊢; exact h
  · simp [Array.getElem?_eq_none h'] at h
/-- An operation that yields in all worlds of T, and is apart from all that may come ahead of it, may be taken first. -/
theorem wpAnyG_first {i : Nat} {oi : Oper} {v : Value} (hi : ops[i]? = some oi) (hin : i ≠ n) (hsel : ∀ (j : Nat) (o : Oper) cs b, ops[j]? = some o → o.op ≠ .select cs b) (hQ : ∀ c a w, Q (.panic c) (a.put oi.dst v) w → Q (.panic c) a w) (T : World → Prop) (Inv : Array Bool → Prop)
    (hInv : ∀ listed j, Inv listed → i ∈ Region.ready md ops listed → j ∈ Region.ready md ops listed → j ≠ i → Inv (listed.setIfInBounds j true)) (hT : ∀ (listed : Array Bool) w', Inv listed → (listed.getD n false = false → S w') → T w') :
    ∀ (k : Nat) (listed : Array Bool) (a : Act) (w : World), Inv listed →
      (∀ j oj, ops[j]? = some oj → j ≠ i → listed.getD j true = false → (∀ e ∈ oj.after, Region.binds md e = true → e.on ≠ i) → oi.apart ops oj = true) →
      i ∈ Region.ready md ops listed → YieldsIf P ops T oi v a → (listed.getD n false = false → S w) → wpAnyG P md ops n Q S k (listed.setIfInBounds i true) (a.put oi.dst v) w → wpAnyG P md ops n Q S (k + 1) listed a w := by
  intro k
  induction k with
  | zero =>
    intro listed a w inv _ hr hy hS H
    refine ⟨fun h => absurd h (ready_ne hr), fun j hj => ?_⟩
    have hji : j = i := Classical.byContradiction fun hne => by
      have := ready_mono hj hne
      rw [H.1] at this
      cases this
    subst hji
    exact hy.wpOp hi (hT listed w inv hS) ⟨fun h => hS (by rwa [getD_set_ne false hin] at h), H⟩
  | succ k ih =>
    intro listed a w inv hfree hr hy hS H
    refine ⟨fun h => absurd h (ready_ne hr), fun j hj => ?_⟩
    by_cases hji : j = i
    · subst hji
      exact hy.wpOp hi (hT listed w inv hS) ⟨fun h => hS (by rwa [getD_set_ne false hin] at h), H⟩
    · obtain ⟨hjun, oj, hoj, hall⟩ := mem_ready.1 hj
      have hnot : ∀ e ∈ oj.after, Region.binds md e = true → e.on ≠ i := fun e he hb heq => by
        have h1 := hall e he hb
        rw [heq, getD_off (mem_ready.1 hr).1] at h1
        cases h1
      have h2 := wpOp_putIf hoj (hfree j oj hoj hji hjun hnot) (fun cs b => hsel i oi cs b hi) (fun cs b => hsel j oj cs b hoj) hQ hy (H.2 j (ready_mono hj hji))
      have hri : i ∈ Region.ready md ops (listed.setIfInBounds j true) := ready_mono hr (Ne.symm hji)
      have hfree' : ∀ m om, ops[m]? = some om → m ≠ i → (listed.setIfInBounds j true).getD m true = false → (∀ e ∈ om.after, Region.binds md e = true → e.on ≠ i) → oi.apart ops om = true := fun m om hm hmi hun hno => by
        refine hfree m om hm hmi ?_ hno
        by_cases hjm : j = m
        · subst hjm; exact hjun
        · rw [getD_set_ne true hjm] at hun; exact hun
      refine wpOp_mono (fun a' w' h3 => ?_) h2
      obtain ⟨hy', hS', hG'⟩ := h3
      rw [Array.setIfInBounds_comm _ _ (Ne.symm hji)] at hS' hG'
      have hS'' : (listed.setIfInBounds j true).getD n false = false → S w' := fun h => hS' (by rw [getD_set_ne false hin]; exact h)
      exact ⟨hS'', ih _ a' w' (hInv listed j inv hr hj hji) hfree' hri hy' hS'' hG'⟩
theorem waits_ne {i j : Nat} {listed : Array Bool} (hw : Region.waitsFor md ops n i = true) (hr : i ∈ Region.ready md ops listed) (hj : j ∈ Region.ready md ops listed) : j ≠ n := by
  rintro rfl
  obtain ⟨oj, hoj, e, he, hb, hon⟩ := Region.waitsFor_spec hw
  obtain ⟨_, oj', hoj', hall⟩ := mem_ready.1 hj
  obtain rfl : oj = oj' := Option.some.inj (hoj.symm.trans hoj')
  have h1 := hall e he hb
  rw [hon, getD_off (mem_ready.1 hr).1] at h1
  cases h1
/-- A load is taken first: number n waits for it. -/
theorem G.load {i k : Nat} {oi : Oper} {v : Value} {listed : Array Bool} {a : Act} {w : World} (hi : ops[i]? = some oi)
    (hf : (Region.noSelect ops && Region.free .any ops listed i && (Region.ready .any ops listed).contains i && decide (i ≠ n) && Region.waitsFor .any ops n i && !(listed.getD n true)) = true) (hQ : ∀ c a w, Q (.panic c) (a.put oi.dst v) w → Q (.panic c) a w) (hy : YieldsIf P ops S oi v a) (hS : S w)
    (h : wpAnyG P .any ops n Q S k (listed.setIfInBounds i true) (a.put oi.dst v) w) : wpAnyG P .any ops n Q S (k + 1) listed a w := by
  simp only [Bool.and_eq_true, decide_eq_true_eq, Bool.not_eq_true'] at hf
  obtain ⟨⟨⟨⟨⟨h4, f1⟩, f2⟩, f3⟩, f4⟩, f5⟩ := hf
  exact wpAnyG_first hi f3 (Region.noSelect_spec h4) hQ S (fun listed => listed.getD n true = false) (fun l j hl hr hj _ => by rw [getD_set_ne true (waits_ne f4 hr hj)]; exact hl) (fun l w' hl hs => hs (getD_off hl)) k listed a w f5 (Region.free_spec hi f1) (by simpa using f2) hy (fun _ => hS) h
/-- What yields in whatever world is taken first. -/
theorem G.pure {i k : Nat} {oi : Oper} {v : Value} {listed : Array Bool} {a : Act} {w : World} (hi : ops[i]? = some oi)
    (hf : (Region.noSelect ops && Region.free .any ops listed i && (Region.ready .any ops listed).contains i && decide (i ≠ n)) = true) (hQ : ∀ c a w, Q (.panic c) (a.put oi.dst v) w → Q (.panic c) a w) (hy : YieldsIf P ops (fun _ => True) oi v a) (hS : S w)
    (h : wpAnyG P .any ops n Q S k (listed.setIfInBounds i true) (a.put oi.dst v) w) : wpAnyG P .any ops n Q S (k + 1) listed a w := by
  simp only [Bool.and_eq_true, decide_eq_true_eq] at hf
  obtain ⟨⟨⟨h4, f1⟩, f2⟩, f3⟩ := hf
  exact wpAnyG_first hi f3 (Region.noSelect_spec h4) hQ (fun _ => True) (fun _ => True) (fun _ _ _ _ _ _ => trivial) (fun _ _ _ _ => trivial) k listed a w trivial (Region.free_spec hi f1) (by simpa using f2) hy (fun _ => hS) h
/-- The only operation that may come up; S is to be shown anew behind it, if number n has not come. -/
theorem G.only {i k : Nat} {o : Oper} {listed : Array Bool} {a : Act} {w : World} (hr : Region.ready .any ops listed = [i]) (ho : ops[i]? = some o)
    (h : ∀ K : Act → World → Prop, (∀ a' w', (i ≠ n → S w') → wpAnyG P .any ops n Q S k (listed.setIfInBounds i true) a' w' → K a' w') → if Region.wanted o (yielded ops a.tmps) = true then Oper.wp P o a w K Q else K (a.put o.dst undef) w) :
    wpAnyG P .any ops n Q S (k + 1) listed a w := by
  refine ⟨fun e => (by rw [hr] at e; cases e), fun j hj => ?_⟩
  have hjr := hj
  rw [hr] at hj
  have hji : j = i := by simpa using hj
  subst hji
  have h' := h (fun a' w' => ((listed.setIfInBounds j true).getD n false = false → S w') ∧ wpAnyG P .any ops n Q S k (listed.setIfInBounds j true) a' w') (fun a' w' hS hG => ⟨fun h => hS (fun e => by
    subst e
    have hlt : j < listed.size := by
      rcases Nat.lt_or_ge j listed.size with h' | h'
      · exact h'
      · have := (mem_ready.1 hjr).1
        simp [Array.getElem?_eq_none h'] at this
    simp [Array.getD, hlt] at h), hG⟩)
  unfold wpOp
  rw [ho]
  show if Region.wanted o (yielded ops a.tmps) = true then _ else _
  split
  · rename_i hw; rw [if_pos hw] at h'; exact .inl h'
  · rename_i hw; rw [if_neg hw] at h'; exact h'
theorem G.done {k : Nat} {listed : Array Bool} {a : Act} {w : World} (hr : Region.ready .any ops listed = []) (h : Q .normal a w) : wpAnyG P .any ops n Q S k listed a w := by
  cases k with
  | zero => exact ⟨hr, h⟩
  | succ k => exact ⟨fun _ => h, by rw [hr]; simp⟩
/-- What an operation does outside a round it does within one. -/
theorem wpIn_of_wp {l m : Nat} {o : Oper} {a : Act} {w : World} {K : Act → World → Prop} (hd : ∀ c, o.op ≠ .defer c) (h : o.wp P a w K Q) : o.wpIn (Fence.wide.inRound l) m P a w K Q := by
  unfold Oper.wpIn
  refine ⟨fun _ _ => trivial, ?_⟩
  rw [Oper.semAt_plain _ _ _ hd]
  unfold Oper.wp at h
  generalize (execOp a.eval o).run P w = r at h
  have hn : ∀ x : Nat, ((Fence.wide.inRound l).depth.isSome = true → 1 ≤ x) := fun _ e => (by simp [Fence.wide] at e)
  cases r with
  | ok x w' =>
    cases x <;> simp only [Oper.upon, Oper.uponIn] at h ⊢ <;> first
      | exact h
      | exact ⟨hn _, CallsIn.inRound l (callsIn_wide.2 h)⟩
      | exact ⟨hn _, fun c cs _ => let ⟨v, w1, r, s⟩ := h c cs; ⟨v, w1, r, stepsIn_wide.2 s⟩⟩
  | halt x w' => cases x <;> simp only [Oper.upon, Oper.uponIn] at h ⊢ <;> exact h
theorem wpAnyIn_of_wpAny {l m : Nat} (hd : ∀ (j : Nat) (o : Oper), ops[j]? = some o → ∀ c, o.op ≠ .defer c) (hL : ¬ LetsOut Q) :
    ∀ (k : Nat) (listed : Array Bool) (a : Act) (w : World), wpAny P md ops Q k listed a w → wpAnyIn (Fence.wide.inRound l) m P md ops Q k listed a w
  | 0, _, _, _, h => h
  | k + 1, listed, a, w, h => ⟨h.1, fun i hi => by
    have h' : wpOp P ops Q i (wpAnyIn (Fence.wide.inRound l) m P md ops Q k (listed.setIfInBounds i true)) a w := wpOp_mono (fun a' w' h' => wpAnyIn_of_wpAny hd hL k _ a' w' h') (h.2 i hi)
    unfold wpOp at h'
    unfold wpOpIn
    cases ho : ops[i]? with
    | none => simpa [ho] using h'
    | some o =>
      simp only [ho] at h' ⊢
      split
      · rename_i hw
        rw [if_pos hw] at h'
        rcases h' with h' | h'
        · exact wpIn_of_wp (hd i o ho) h'
        · exact absurd h'.2 hL
      · rename_i hw
        rw [if_neg hw] at h'
        exact ⟨fun _ _ => trivial, h'⟩⟩
def noDefer (ops : Array Oper) : Bool := ops.all fun o => match o.op with | .defer _ => false | _ => true
/-- A region that draws its order, within a round. -/
theorem wpIn_region_G {id l m : Nat} {a : Act} {w : World} (n : Nat) (S : World → Prop) (hm : P.follows .mixedOrders = true) (hd : noDefer ops = true) (hL : ¬ LetsOut Q)
    (h : wpAnyG P .any ops n Q S ops.size (Array.replicate ops.size false) a w.drew) : (Code.region id ops true).wpIn (Fence.wide.inRound l) m P Q a w := by
  refine wpIn_region_any hm (wpAnyIn_of_wpAny (fun j o ho c hc => ?_) hL _ _ _ _ (wpAny_of_G _ _ _ _ h))
  obtain ⟨hj, e⟩ := Array.getElem?_eq_some_iff.1 ho
  have := Array.all_eq_true.1 hd j hj
  rw [e, hc] at this
  cases this
end
end Go.Proofs.Ytcnfcohfogbfhaa
