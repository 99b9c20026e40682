/- The wheel: a timer is taken out; one is armed, cancelled, looked up. -/
import Derived.Test.YtcnfcohfogbfhaaWPlain
import Derived.Test.YtcnfcohfogbfhaaWMoves
namespace Go.Proofs.Ytcnfcohfogbfhaa
open Go.RowKit Go.Shelf
theorem owT_form {w : World} {base : Nat} {v : Value} {l : List Tm} (h : OwT w base v l) (hn : 0 < l.length) :
    ∃ g cap, v = .slice (some ⟨g, 0, none⟩) l.length cap ∧ base ≤ g ∧ g < w.heap.size ∧ l.length ≤ cap ∧ cap ≤ 9223372036854775807 := by
  obtain ⟨g, cap, rfl, hb, hlt⟩ := World.ownsRow.form h hn
  obtain ⟨A, c, e, h1, h2⟩ := h.form
  injection e with e1 e2 e3
  exact ⟨g, cap, rfl, hb, hlt, by omega, by omega⟩
/-- One slot's row is another one now. -/
theorem WAt.put {w w' : World} {B p : Nat} {V : Nat → Value} {now now' : Int} {A A' : List Tm} {ord ord' : Int} (h : WAt w B p V now A ord) {s : Nat} (hs : s < 32) {nv : Value}
    (ht : Touch (fun k => k = p ∨ (V s).ownBlock = some k) w w') (hb : Blk w' p 57 (wcells now' (fun r => if r = s then nv else V r) A'.length ord')) (hr : OwT w' B nv (slotL A' s)) (ho : ∀ r, r ≠ s → slotL A' r = slotL A r)
    (hn : ∀ g, nv.ownBlock = some g → (V s).ownBlock = some g ∨ w.heap.size ≤ g) :
    WAt w' B p (fun r => if r = s then nv else V r) now' A' ord' ∧ Touch (Ft p V) w w' ∧ ∀ k, Ft p (fun r => if r = s then nv else V r) k → Ft p V k ∨ w.heap.size ≤ k := by
  have hps := h.blk.lt
  have hfar : ∀ r, r < 32 → r ≠ s → ∀ g, (V r).ownBlock = some g → ¬ (g = p ∨ (V s).ownBlock = some g) := by
    intro r hr hrs g hg hk
    rcases hk with rfl | hk
    · exact h.own r hr hg
    · exact hrs (h.apart r s g hr hs hg hk)
  refine ⟨⟨hb, h.base, fun r hr' => ?_, fun r hr' => ?_, fun r q g hr' hq => ?_⟩, ht.mono fun k hk => ?_, fun k hk => ?_⟩
  · by_cases e : r = s
    · subst e
      simp only [if_true]
      exact hr
    · simp only [if_neg e, ho r e]
      exact (h.row r hr').touch ht (hfar r hr' e)
  · by_cases e : r = s
    · subst e
      simp only [if_true]
      intro hp
      rcases hn p hp with h1 | h1
      · exact h.own r hr' h1
      · omega
    · simp only [if_neg e]
      exact h.own r hr'
  · have hx : ∀ x, x < 32 → x ≠ s → (V x).ownBlock = some g → nv.ownBlock = some g → False := by
      intro x hx hxs hg hnv
      rcases hn g hnv with h1 | h1
      · exact hxs (h.apart x s g hx hs hg h1)
      · have := ((h.row x hx).lt hg).2
        omega
    by_cases e : r = s
    · by_cases e2 : q = s
      · intro _ _
        rw [e, e2]
      · simp only [if_pos e, if_neg e2]
        intro h1 h2
        exact (hx q hq e2 h2 h1).elim
    · by_cases e2 : q = s
      · simp only [if_neg e, if_pos e2]
        intro h1 h2
        exact (hx r hr' e h1 h2).elim
      · simp only [if_neg e, if_neg e2]
        exact h.apart r q g hr' hq
  · rcases hk with rfl | hk
    · exact .inl rfl
    · exact .inr ⟨s, hs, hk⟩
  · rcases hk with rfl | ⟨r, hr', hg⟩
    · exact .inl (.inl rfl)
    · by_cases e : r = s
      · subst e
        simp only [if_true] at hg
        rcases hn k hg with h1 | h1
        · exact .inl (.inr ⟨r, hr', h1⟩)
        · exact .inr h1
      · simp only [if_neg e] at hg
        exact .inl (.inr ⟨r, hr', hg⟩)
/-- How a wheel's call leaves it. -/
def WEnd (w : World) (B p : Nat) (V : Nat → Value) (now : Int) (A : List Tm) (ord : Int) (w' : World) : Prop :=
  ∃ V', WAt w' B p V' now A ord ∧ Touch (Ft p V) w w' ∧ ∀ k, Ft p V' k → Ft p V k ∨ w.heap.size ≤ k
theorem WEnd.below {w w' : World} {B p : Nat} {V : Nat → Value} {now : Int} {A : List Tm} {ord : Int} (h : WAt w B p V now A ord) (hb : Below w.heap.size w w') : WEnd w B p V now A ord w' := ⟨V, h.mono hb, Touch.of_below hb, fun _ hk => .inl hk⟩
set_option maxRecDepth 100000 in
set_option maxHeartbeats 4000000 in
theorem tdrop {w : World} {B p : Nat} {V : Nat → Value} {now : Int} {A : List Tm} {ord : Int} (h : WAt w B p V now A ord) (hu : Uniq A) (h64 : A.length ≤ 64) (id : Int) :
    Calls Try.prog 24 #[.pointer (some ⟨p, 0, none⟩), .int .i64 id] w fun e w' => e = .returned (.bool (has A id)) ∧ WEnd w B p V now (rid A id) ord w' := by
  go_enter Try.func24, Try.ntmps24
  go_wp2_with fail
  refine (tfind h id).mono ?_
  rintro e w1 ⟨⟨s, k, hk, hs, hid, rfl⟩ | ⟨hno, rfl⟩, hb1⟩
  rotate_left
  · go_wp2
    go_ret
    refine ⟨ret_bool (a := false) (has_false hno).symm, ?_⟩
    rw [rid_none hno]
    exact .below h hb1
  · obtain ⟨q1, q2, q3, q4⟩ := slot_hit hu s k hk
    rw [hid] at q1 q2 q3 q4
    have h1 := h.mono hb1
    have hrow := h1.row s hs
    obtain ⟨g, cap, eV, hg1, hg2, hc1, hc2⟩ := owT_form hrow (by omega)
    have cs := h1.cs s hs
    rw [eV] at cs hrow
    have hgp : g ≠ p := fun e => h1.own s hs (by rw [eV, e]; rfl)
    have hdel := tdel (w := w1.drew) hrow hk
    have hcast : ((k + 1 : Nat) : Int) = (k : Int) + 1 := by omega
    rw [hcast] at hdel
    obtain ⟨n, hn⟩ : ∃ n, n = (slotL A s).length := ⟨_, rfl⟩
    rw [← hn] at cs hdel hk hc1
    have HDEL := Lib.hid hdel
    have HEV := Lib.hid eV
    have HQ := Lib.hid (And.intro q1 (And.intro q2 (And.intro q3 q4)))
    have HN := Lib.hid hn
    clear hdel eV q1 q2 q3 q4 hn hrow hid
    have hs' : (s : Int) < 32 := by omega
    have hk' : k + 1 ≤ 9223372036854775807 := by omega
    go_upto_region 3 with (fail)
    rename_i K3 hK3
    have hS0 : w1.drew.cell? ⟨p, 1 + s, none⟩ = some (.slice (some ⟨g, 0, none⟩) n cap) := cs
    refine wp_region_any (by kernel_rfl) (wpAny_of_G (n := 15) (S := fun w' => w'.cell? ⟨p, 1 + s, none⟩ = some (.slice (some ⟨g, 0, none⟩) n cap)) _ _ _ _ ?_)
    refine G.pure' (i := 0) (v := .pointer (some ⟨p, 0, none⟩)) rfl (by kernel_rfl) (fun _ _ _ h => h) (.inl ⟨rfl, fun w' _ => ?_⟩) (fun _ => hS0) ?_
    · simp [execOp, Act.eval, go_sem]
    simp only [Act.put, List.getElem_toArray, List.getElem_cons_zero, List.setIfInBounds_toArray, List.set_cons_zero, List.set_cons_succ]
    refine G.pure' (i := 1) (v := .int .i64 s) rfl (by kernel_rfl) (fun _ _ _ h => h) (.inl ⟨rfl, fun w' _ => ?_⟩) (fun _ => hS0) ?_
    · simp [execOp, Act.eval, go_sem]
    simp only [Act.put, List.getElem_toArray, List.getElem_cons_zero, List.getElem_cons_succ, List.setIfInBounds_toArray, List.set_cons_zero, List.set_cons_succ]
    refine G.pure' (i := 2) (v := .pointer (some ⟨p, 0, none⟩)) rfl (by kernel_rfl) (fun _ _ _ h => h) (.inl ⟨rfl, fun w' _ => ?_⟩) (fun _ => hS0) ?_
    · simp [execOp, Act.eval, go_sem]
    simp only [Act.put, List.getElem_toArray, List.getElem_cons_zero, List.getElem_cons_succ, List.setIfInBounds_toArray, List.set_cons_zero, List.set_cons_succ]
    refine G.pure' (i := 3) (v := .int .i64 s) rfl (by kernel_rfl) (fun _ _ _ h => h) (.inl ⟨rfl, fun w' _ => ?_⟩) (fun _ => hS0) ?_
    · simp [execOp, Act.eval, go_sem]
    simp only [Act.put, List.getElem_toArray, List.getElem_cons_zero, List.getElem_cons_succ, List.setIfInBounds_toArray, List.set_cons_zero, List.set_cons_succ]
    refine G.pure' (i := 4) (v := .pointer (some ⟨p, 0, none⟩)) rfl (by kernel_rfl) (fun _ _ _ h => h) (.inl ⟨rfl, fun w' _ => ?_⟩) (fun _ => hS0) ?_
    · simp [execOp, Act.eval, go_sem]
    simp only [Act.put, List.getElem_toArray, List.getElem_cons_zero, List.getElem_cons_succ, List.setIfInBounds_toArray, List.set_cons_zero, List.set_cons_succ]
    refine G.pure' (i := 5) (v := .pointer (some ⟨p, 1, none⟩)) rfl (by kernel_rfl) (fun _ _ _ h => h) (.inl ⟨rfl, fun w' _ => ?_⟩) (fun _ => hS0) ?_
    · simp [execOp, Act.eval, go_sem]
    simp only [Act.put, List.getElem_toArray, List.getElem_cons_zero, List.getElem_cons_succ, List.setIfInBounds_toArray, List.set_cons_zero, List.set_cons_succ]
    refine G.pure' (i := 6) (v := .pointer (some ⟨p, 1 + s, none⟩)) rfl (by kernel_rfl) (fun _ _ _ h => h) (.inl ⟨rfl, fun w' _ => ?_⟩) (fun _ => hS0) ?_
    · simp [execOp, Act.eval, hs', go_sem]
    simp only [Act.put, List.getElem_toArray, List.getElem_cons_zero, List.getElem_cons_succ, List.setIfInBounds_toArray, List.set_cons_zero, List.set_cons_succ]
    refine G.load (i := 7) (v := .slice (some ⟨g, 0, none⟩) n cap) rfl (by kernel_rfl) (fun _ _ _ h => h) (.inl ⟨rfl, fun w' hS => ?_⟩) (hS0) ?_
    · simp [execOp, Act.eval, hS, go_sem]
    simp only [Act.put, List.getElem_toArray, List.getElem_cons_zero, List.getElem_cons_succ, List.setIfInBounds_toArray, List.set_cons_zero, List.set_cons_succ]
    refine G.pure' (i := 8) (v := .int .i64 k) rfl (by kernel_rfl) (fun _ _ _ h => h) (.inl ⟨rfl, fun w' _ => ?_⟩) (fun _ => hS0) ?_
    · simp [execOp, Act.eval, go_sem]
    simp only [Act.put, List.getElem_toArray, List.getElem_cons_zero, List.getElem_cons_succ, List.setIfInBounds_toArray, List.set_cons_zero, List.set_cons_succ]
    refine G.pure' (i := 9) (v := .int .i64 k) rfl (by kernel_rfl) (fun _ _ _ h => h) (.inl ⟨rfl, fun w' _ => ?_⟩) (fun _ => hS0) ?_
    · simp [execOp, Act.eval, go_sem]
    simp only [Act.put, List.getElem_toArray, List.getElem_cons_zero, List.getElem_cons_succ, List.setIfInBounds_toArray, List.set_cons_zero, List.set_cons_succ]
    refine G.pure' (i := 10) (v := .int .i64 ((k : Int) + 1)) rfl (by kernel_rfl) (fun _ _ _ h => h) (.inl ⟨rfl, fun w' _ => ?_⟩) (fun _ => hS0) ?_
    · simp [execOp, Act.eval, go_sem, IntKind.wrap_i64]; omega
    simp only [Act.put, List.getElem_toArray, List.getElem_cons_zero, List.getElem_cons_succ, List.setIfInBounds_toArray, List.set_cons_zero, List.set_cons_succ]
    refine G.pure' (i := 12) (v := .pointer (some ⟨p, 0, none⟩)) rfl (by kernel_rfl) (fun _ _ _ h => h) (.inl ⟨rfl, fun w' _ => ?_⟩) (fun _ => hS0) ?_
    · simp [execOp, Act.eval, go_sem]
    simp only [Act.put, List.getElem_toArray, List.getElem_cons_zero, List.getElem_cons_succ, List.setIfInBounds_toArray, List.set_cons_zero, List.set_cons_succ]
    refine G.pure' (i := 13) (v := .pointer (some ⟨p, 1, none⟩)) rfl (by kernel_rfl) (fun _ _ _ h => h) (.inl ⟨rfl, fun w' _ => ?_⟩) (fun _ => hS0) ?_
    · simp [execOp, Act.eval, go_sem]
    simp only [Act.put, List.getElem_toArray, List.getElem_cons_zero, List.getElem_cons_succ, List.setIfInBounds_toArray, List.set_cons_zero, List.set_cons_succ]
    refine G.only' (i := 11) ?r11 rfl ?o11
    case r11 => kernel_rfl
    intro K hK
    refine step_call rfl rfl (enters_of Try.func29 (by kernel_rfl) rfl) HDEL.out rfl ?_
    rintro e w2 ⟨rfl, ho2, ht2⟩
    have hb2 := (show Blk w1.drew p 57 (wcells now V A.length ord) from h1.blk).touch ht2 (fun e => hgp e.symm)
    have hS2 : w2.cell? ⟨p, 1 + s, none⟩ = some (V s) := by rw [hb2.cell, wcells_s _ _ _ _ s hs]
    rw [HEV.out, ← HN.out] at hS2
    refine ⟨_, rfl, hK _ _ (fun _ => hS2) ?_⟩
    clear hK K
    simp only [Act.put, List.getElem_toArray, List.getElem_cons_zero, List.getElem_cons_succ, List.setIfInBounds_toArray, List.set_cons_zero, List.set_cons_succ]
    refine G.pure' (i := 14) (v := .pointer (some ⟨p, 1 + s, none⟩)) rfl (by kernel_rfl) (fun _ _ _ h => h) (.inl ⟨rfl, fun w' _ => ?_⟩) (fun _ => hS2) ?_
    · simp [execOp, Act.eval, hs', go_sem]
    simp only [Act.put, List.getElem_toArray, List.getElem_cons_zero, List.getElem_cons_succ, List.setIfInBounds_toArray, List.set_cons_zero, List.set_cons_succ]
    refine G.only' (i := 15) ?r15 rfl ?o15
    case r15 => kernel_rfl
    intro K hK
    refine step_storeS (A := some ⟨g, 0, none⟩) (n := n - 1) (c := cap) rfl (.tmp 30) (.tmp 27) rfl ?q1 ?q2 hS2 (hb2.free _) ?_
    case q1 => simp [Act.eval]
    case q2 => simp [Act.eval]
    refine hK _ _ (fun e => Bool.noConfusion (show true = false from e)) (G.done (by kernel_rfl) ?_)
    clear hK K
    simp only [Act.put, List.getElem_toArray, List.getElem_cons_zero, List.getElem_cons_succ]
    simp only [Exit.then]
    refine hK3 _ _ ?_
    clear hK3 K3
    have hb3 : Blk (w2.setCell ⟨p, 1 + s, none⟩ (.slice (some ⟨g, 0, none⟩) (n - 1) cap)) p 57 (wcells now (fun r => if r = s then (.slice (some ⟨g, 0, none⟩) (n - 1) cap) else V r) A.length ord) := by
      rw [← wcells_sets _ _ _ _ s hs]
      exact hb2.set (1 + s) _
    have hr3 : OwT (w2.setCell ⟨p, 1 + s, none⟩ (.slice (some ⟨g, 0, none⟩) (n - 1) cap)) B (.slice (some ⟨g, 0, none⟩) (n - 1) cap) ((slotL A s).eraseIdx k) := ho2.same fun x hx => Below.heap_setCell w2 ⟨p, 1 + s, none⟩ _ x (by
      intro e
      injection hx with hx
      exact hgp (hx.trans e))
    have ht3 : Touch (fun x => x = p ∨ (V s).ownBlock = some x) w (w2.setCell ⟨p, 1 + s, none⟩ (.slice (some ⟨g, 0, none⟩) (n - 1) cap)) :=
      (((Touch.of_below hb1).drew).trans (ht2.mono fun x hx => .inr (by rw [HEV.out, hx]; rfl))).trans (Touch.set w2 (p := ⟨p, 1 + s, none⟩) (.inl rfl) _)
    change Code.wp Try.prog _ _ _ (w2.setCell ⟨p, 1 + s, none⟩ (.slice (some ⟨g, 0, none⟩) (n - 1) cap))
    generalize w2.setCell ⟨p, 1 + s, none⟩ (.slice (some ⟨g, 0, none⟩) (n - 1) cap) = w3 at *
    have c33 : w3.cell? ⟨p, 33, none⟩ = some (.int .i64 A.length) := by rw [hb3.cell, wcells_33]
    have f33 := hb3.free 33
    clear ho2 ht2 hb2 hS2 cs hS0
    go_wp2
    go_ret
    have hb4 := hb3.set 33 (.int .i64 ((A.length : Int) - 1))
    rw [wcells_set33] at hb4
    have e4 : ((A.length : Int) - 1) = ((rid A id).length : Int) := by have := HQ.out.2.2.2; omega
    rw [e4] at hb4 ⊢
    have hr4 : OwT (w3.setCell ⟨p, 33, none⟩ (.int .i64 (rid A id).length)) B (.slice (some ⟨g, 0, none⟩) (n - 1) cap) (slotL (rid A id) s) := by
      rw [HQ.out.1]
      exact hr3.same fun x hx => Below.heap_setCell w3 ⟨p, 33, none⟩ _ x (by
        intro e
        injection hx with hx
        exact hgp (hx.trans e))
    obtain ⟨a1, a2, a3⟩ := h.put hs (ht3.trans (Touch.set w3 (p := ⟨p, 33, none⟩) (.inl rfl) _)) hb4 hr4 HQ.out.2.1 (fun x hx => .inl (by rw [HEV.out]; exact hx))
    exact ⟨ret_bool (a := true) HQ.out.2.2.1.symm, _, a1, a2, a3⟩
end Go.Proofs.Ytcnfcohfogbfhaa
