/- WheelDoes: the walk: it answers true. -/
import Derived.Test.YtcnfcohfogbfhaaWBoth
import Derived.BigQuiet
namespace Go.Proofs.Ytcnfcohfogbfhaa
open Go.RowKit Go.Shelf
set_option maxRecDepth 100000 in
set_option maxHeartbeats 40000000 in
theorem law_does (now : Int) (v : Value) (l : List Ocl) (w : World) (hr : RdC w v l) (hl : l.length ≤ 140737488351232) (_ : ∀ o ∈ l, InI o.kind ∧ InI o.id ∧ InI o.tk) :
    Calls Try.prog 5 #[.int .i64 now, v] w fun e w' => e = .returned (.bool true) ∧ Below w.heap.size w w' := by
  obtain ⟨Al, cl, rfl, _, _⟩ := hr.form
  obtain ⟨n, hn⟩ : ∃ n, n = l.length := ⟨_, rfl⟩
  rw [← hn] at hr hl ⊢
  have HN := Lib.hid hn
  clear hn
  by_cases ht : tickB now = true
  rotate_left
  · have hf : tickB now = false := by simpa using ht
    clear ht hr
    go_enter Try.func5, Try.ntmps5
    go_wp2_with fail
    refine (wawake w).mono ?_
    rintro e w1 ⟨rfl, hb1⟩
    go_wp2_with fail
    refine (tnew_no now hf w1).mono ?_
    rintro e w2 ⟨rfl, rfl⟩
    go_wp2_with fail
    refine (rfnew_no now hf w1).mono ?_
    rintro e w3 ⟨rfl, rfl⟩
    go_wp2
    go_ret
    exact ⟨rfl, hb1⟩
  have hn0 : 0 ≤ now ∧ now ≤ 1099511627776 := by simp [tickB] at ht; omega
  go_enter Try.func5, Try.ntmps5
  go_wp2_with fail
  refine (wawake w).mono ?_
  rintro e w1 ⟨rfl, hb1⟩
  go_wp2_with fail
  refine (tnew now ht w1 w.heap.size hb1.size).mono ?_
  rintro e w2 ⟨rfl, h2, hb2⟩
  obtain ⟨p, hp⟩ : ∃ p, p = w1.heap.size := ⟨_, rfl⟩
  rw [← hp] at h2 ⊢
  have hB2 := below_step hb1 hb1.size hb2
  clear hb1 hb2 hp
  go_wp2_with fail
  refine (rfnew now ht w2 w.heap.size hB2.size).mono ?_
  rintro e w3 ⟨rfl, h3, hb3⟩
  obtain ⟨q, hq⟩ : ∃ q, q = w2.heap.size := ⟨_, rfl⟩
  rw [← hq] at h3 ⊢
  have hft : ∀ (p k : Nat), Ft p (fun _ => noS) k → k = p := fun p k h => h.elim id fun ⟨_, _, e⟩ => by cases e
  have hS : BothAt w w3 p q (fun _ => noS) noS now now [] [] 0 := ⟨h2.mono hb3, h3, (fun k h1 hk => by
    have e1 := hft _ _ h1
    have := h2.blk.lt
    rcases hk with e2 | e2
    · omega
    · cases e2), below_step hB2 hB2.size hb3⟩
  have ok0 : WOk now [] 0 := .new hn0.1
  clear h2 h3 hb3 hB2 hq hft ht
  go_wp2
  go_loopw [10, 11, 12, 13, 14, 15, 16, 17, 18, 19, 20, 21, 22, 23, 24, 25] (fun i _ _ _ _ _ _ _ _ _ _ _ _ _ _ _ wr => ∃ (k : Nat) (A : List Tm) (ord nw : Int) (V : Nat → Value) (rv : Value), i = .int .i64 k ∧ k ≤ n ∧ BothAt w wr p q V rv nw nw A A ord ∧ Hid (WOk nw A ord ∧ nw ≤ 1099511627776 ∧ ord ≤ k)) (fun i _ _ _ _ _ _ _ _ _ _ _ _ _ _ _ _ => n - (intOf i).toNat)
  case atStart => exact ⟨0, [], 0, now, _, _, rfl, Nat.zero_le _, hS, ⟨ok0, hn0.2, by omega⟩⟩
  case round =>
    obtain ⟨k, A, ord, nw, V, rv, rfl, hk, h, hH⟩ := hrel
    clear hS ok0 hn0
    have hok := hH.out.1
    have hnw := hH.out.2.1
    have hord := hH.out.2.2
    clear hH
    by_cases hkl : k < n
    · have hki : k < l.length := by rw [← HN.out]; exact hkl
      obtain ⟨b0, o0, rfl, hb0, hc⟩ := hr.at_ o_len (by omega)
      obtain ⟨⟨kd, id, tk0, nr⟩, ho⟩ : ∃ o, o = l[k] := ⟨_, rfl⟩
      have HCL : Hid (∀ W, Below w.heap.size w W → W.cell? ⟨b0, o0 + k * 4, none⟩ = some (.int .i64 kd) ∧ W.cell? ⟨b0, o0 + k * 4 + 1, none⟩ = some (.int .i64 id) ∧ W.cell? ⟨b0, o0 + k * 4 + 2, none⟩ = some (.int .i64 tk0) ∧ W.cell? ⟨b0, o0 + k * 4 + 3, none⟩ = some (.bool nr)) := fun W hW => by
        have e0 := hc k hki 0 (.int .i64 kd) (by rw [← ho]; rfl)
        have e1 := hc k hki 1 (.int .i64 id) (by rw [← ho]; rfl)
        have e2 := hc k hki 2 (.int .i64 tk0) (by rw [← ho]; rfl)
        have e3 := hc k hki 3 (.bool nr) (by rw [← ho]; rfl)
        rw [Nat.add_zero] at e0
        exact ⟨(hW.cell (p := ⟨b0, o0 + k * 4, none⟩) hb0).trans e0, (hW.cell (p := ⟨b0, o0 + k * 4 + 1, none⟩) hb0).trans e1, (hW.cell (p := ⟨b0, o0 + k * 4 + 2, none⟩) hb0).trans e2, (hW.cell (p := ⟨b0, o0 + k * 4 + 3, none⟩) hb0).trans e3⟩
      have hkl' : (k : Int) < n := by omega
      have q0 : decide ((k : Int) < n) = true := by simpa using hkl'
      clear hc ho hki
      have HS11 : Hid (∀ W, BothAt w W p q V rv nw nw A A ord → W.cell? ⟨q, 0, none⟩ = some (.int .i64 nw) ∧ W.cell? ⟨b0, o0 + k * 4, none⟩ = some (.int .i64 kd) ∧ W.cell? ⟨b0, o0 + k * 4 + 1, none⟩ = some (.int .i64 id) ∧ W.cell? ⟨b0, o0 + k * 4 + 2, none⟩ = some (.int .i64 tk0) ∧ W.cell? ⟨b0, o0 + k * 4 + 3, none⟩ = some (.bool nr)) :=
        fun W hW => ⟨hW.at2.c0, HCL.out W hW.below⟩
      go_upto_region 11 with (fail)
      rename_i K11 hK11
      refine wp_region_any (by kernel_rfl) (wpAny_of_G (n := 9) (S := fun w' => w'.cell? ⟨q, 0, none⟩ = some (.int .i64 nw) ∧ w'.cell? ⟨b0, o0 + k * 4, none⟩ = some (.int .i64 kd) ∧ w'.cell? ⟨b0, o0 + k * 4 + 1, none⟩ = some (.int .i64 id) ∧ w'.cell? ⟨b0, o0 + k * 4 + 2, none⟩ = some (.int .i64 tk0) ∧ w'.cell? ⟨b0, o0 + k * 4 + 3, none⟩ = some (.bool nr)) _ _ _ _ ?_)
      have hS11 := HS11.out wr.drew h.drew
      refine G.pure' (i := 0) (v := .pointer (some ⟨q, 0, none⟩)) rfl (by kernel_rfl) (fun _ _ _ h => h) (.inl ⟨rfl, fun w' _ => ?_⟩) (fun _ => hS11) ?_
      · simp [execOp, Act.eval, go_sem]
      simp only [Act.put, List.getElem_toArray, List.getElem_cons_zero, List.setIfInBounds_toArray, List.set_cons_zero, List.set_cons_succ]
      refine G.pure' (i := 1) (v := .pointer (some ⟨q, 0, none⟩)) rfl (by kernel_rfl) (fun _ _ _ h => h) (.inl ⟨rfl, fun w' _ => ?_⟩) (fun _ => hS11) ?_
      · simp [execOp, Act.eval, go_sem]
      simp only [Act.put, List.getElem_toArray, List.getElem_cons_zero, List.getElem_cons_succ, List.setIfInBounds_toArray, List.set_cons_zero, List.set_cons_succ]
      refine G.pure' (i := 2) (v := .pointer (some ⟨q, 0, none⟩)) rfl (by kernel_rfl) (fun _ _ _ h => h) (.inl ⟨rfl, fun w' _ => ?_⟩) (fun _ => hS11) ?_
      · simp [execOp, Act.eval, go_sem]
      simp only [Act.put, List.getElem_toArray, List.getElem_cons_zero, List.getElem_cons_succ, List.setIfInBounds_toArray, List.set_cons_zero, List.set_cons_succ]
      refine G.load (i := 3) (v := .int .i64 nw) rfl (by kernel_rfl) (fun _ _ _ h => h) (.inl ⟨rfl, fun w' hS => ?_⟩) (hS11) ?_
      · simp [execOp, Act.eval, hS, go_sem]
      simp only [Act.put, List.getElem_toArray, List.getElem_cons_zero, List.getElem_cons_succ, List.setIfInBounds_toArray, List.set_cons_zero, List.set_cons_succ]
      refine G.pure' (i := 4) (v := .slice (some ⟨b0, o0, none⟩) n cl) rfl (by kernel_rfl) (fun _ _ _ h => h) (.inl ⟨rfl, fun w' _ => ?_⟩) (fun _ => hS11) ?_
      · simp [execOp, Act.eval, go_sem]
      simp only [Act.put, List.getElem_toArray, List.getElem_cons_zero, List.getElem_cons_succ, List.setIfInBounds_toArray, List.set_cons_zero, List.set_cons_succ]
      refine G.pure' (i := 5) (v := .int .i64 k) rfl (by kernel_rfl) (fun _ _ _ h => h) (.inl ⟨rfl, fun w' _ => ?_⟩) (fun _ => hS11) ?_
      · simp [execOp, Act.eval, go_sem]
      simp only [Act.put, List.getElem_toArray, List.getElem_cons_zero, List.getElem_cons_succ, List.setIfInBounds_toArray, List.set_cons_zero, List.set_cons_succ]
      refine G.pure' (i := 6) (v := .pointer (some ⟨b0, o0 + k * 4, none⟩)) rfl (by kernel_rfl) (fun _ _ _ h => h) (.inl ⟨rfl, fun w' _ => ?_⟩) (fun _ => hS11) ?_
      · simp [execOp, Act.eval, hkl', go_sem]
      simp only [Act.put, List.getElem_toArray, List.getElem_cons_zero, List.getElem_cons_succ, List.setIfInBounds_toArray, List.set_cons_zero, List.set_cons_succ]
      refine G.load (i := 7) (v := .agg #[.int .i64 kd, .int .i64 id, .int .i64 tk0, .bool nr]) rfl (by kernel_rfl) (fun _ _ _ h => h) (.inl ⟨rfl, fun w' hS => ?_⟩) (hS11) ?_
      · simp [execOp, Act.eval, hS, go_sem]
      simp only [Act.put, List.getElem_toArray, List.getElem_cons_zero, List.getElem_cons_succ, List.setIfInBounds_toArray, List.set_cons_zero, List.set_cons_succ]
      refine G.only' (i := 8) ?r8 rfl ?o8
      case r8 => kernel_rfl
      intro K hK
      refine step_call rfl rfl (enters_of Try.func15 (by kernel_rfl) rfl) (kwhen nw ⟨kd, id, tk0, nr⟩ hok.now0 hnw wr.drew) rfl ?_
      rintro e w3 ⟨rfl, hb3⟩
      refine ⟨_, rfl, hK _ _ (fun _ => HS11.out w3 (h.drew.mono hb3)) ?_⟩
      clear hK K
      simp only [Act.put, List.getElem_toArray, List.getElem_cons_zero, List.getElem_cons_succ, List.setIfInBounds_toArray, List.set_cons_zero, List.set_cons_succ]
      refine G.lastPure (i := 9) (v := .int .i64 (whenI nw ⟨kd, id, tk0, nr⟩)) (by kernel_rfl) (by kernel_rfl) rfl (.inl ⟨rfl, fun w' _ => ?_⟩) (fun e => Bool.noConfusion (show true = false from e)) ?_
      · simp [execOp, Act.eval, go_sem]
      simp only [Act.put, List.getElem_toArray, List.getElem_cons_zero, List.getElem_cons_succ, List.setIfInBounds_toArray, List.set_cons_zero, List.set_cons_succ]
      simp only [Exit.then]
      refine hK11 _ _ ?_
      clear hK11 K11
      have h3 := h.drew.mono hb3
      obtain ⟨tk, htk⟩ : ∃ tk, tk = whenI nw ⟨kd, id, tk0, nr⟩ := ⟨_, rfl⟩
      rw [← htk]
      have hord62 : ord ≤ 4611686018427387904 := by omega
      have HSL : Hid (∀ W, Below w.heap.size w W → W.cell? ⟨b0, o0 + k * 4 + 1, none⟩ = some (.int .i64 id)) := fun W hW => (HCL.out W hW).2.1
      clear h hb3 hS11 HS11 htk
      have hc3 := HCL.out w3 h3.below
      obtain ⟨c0, c1, -, -⟩ := hc3
      by_cases z0 : kd = 0
      · subst z0
        obtain ⟨E, hE⟩ : ∃ E, armE nw A id tk = E := ⟨_, rfl⟩
        have HE := Lib.hid hE
        have hok2 := hok.arm id tk
        have hOle := armO_le nw A ord id tk
        clear hE
        go_upto_region 15 with (fail)
        rename_i K15 hK15
        refine wp_region_any (by kernel_rfl) (wpAny_of_G (n := 17) (S := fun w' => w'.cell? ⟨b0, o0 + k * 4 + 1, none⟩ = some (.int .i64 id)) _ _ _ _ ?_)
        have hS15 := HSL.out w3.drew h3.drew.below
        refine G.pure' (i := 0) (v := .pointer (some ⟨p, 0, none⟩)) rfl (by kernel_rfl) (fun _ _ _ h => h) (.inl ⟨rfl, fun w' _ => ?_⟩) (fun _ => hS15) ?_
        · simp [execOp, Act.eval, go_sem]
        simp only [Act.put, List.getElem_toArray, List.getElem_cons_zero, List.setIfInBounds_toArray, List.set_cons_zero, List.set_cons_succ]
        refine G.pure' (i := 1) (v := .slice (some ⟨b0, o0, none⟩) n cl) rfl (by kernel_rfl) (fun _ _ _ h => h) (.inl ⟨rfl, fun w' _ => ?_⟩) (fun _ => hS15) ?_
        · simp [execOp, Act.eval, go_sem]
        simp only [Act.put, List.getElem_toArray, List.getElem_cons_zero, List.getElem_cons_succ, List.setIfInBounds_toArray, List.set_cons_zero, List.set_cons_succ]
        refine G.pure' (i := 2) (v := .int .i64 k) rfl (by kernel_rfl) (fun _ _ _ h => h) (.inl ⟨rfl, fun w' _ => ?_⟩) (fun _ => hS15) ?_
        · simp [execOp, Act.eval, go_sem]
        simp only [Act.put, List.getElem_toArray, List.getElem_cons_zero, List.getElem_cons_succ, List.setIfInBounds_toArray, List.set_cons_zero, List.set_cons_succ]
        refine G.pure' (i := 3) (v := .pointer (some ⟨b0, o0 + k * 4, none⟩)) rfl (by kernel_rfl) (fun _ _ _ h => h) (.inl ⟨rfl, fun w' _ => ?_⟩) (fun _ => hS15) ?_
        · simp [execOp, Act.eval, hkl', go_sem]
        simp only [Act.put, List.getElem_toArray, List.getElem_cons_zero, List.getElem_cons_succ, List.setIfInBounds_toArray, List.set_cons_zero, List.set_cons_succ]
        refine G.pure' (i := 4) (v := .pointer (some ⟨b0, o0 + k * 4 + 1, none⟩)) rfl (by kernel_rfl) (fun _ _ _ h => h) (.inl ⟨rfl, fun w' _ => ?_⟩) (fun _ => hS15) ?_
        · simp [execOp, Act.eval, go_sem]
        simp only [Act.put, List.getElem_toArray, List.getElem_cons_zero, List.getElem_cons_succ, List.setIfInBounds_toArray, List.set_cons_zero, List.set_cons_succ]
        refine G.load (i := 5) (v := .int .i64 id) rfl (by kernel_rfl) (fun _ _ _ h => h) (.inl ⟨rfl, fun w' hS => ?_⟩) (hS15) ?_
        · simp [execOp, Act.eval, hS, go_sem]
        simp only [Act.put, List.getElem_toArray, List.getElem_cons_zero, List.getElem_cons_succ, List.setIfInBounds_toArray, List.set_cons_zero, List.set_cons_succ]
        refine G.pure' (i := 6) (v := .int .i64 tk) rfl (by kernel_rfl) (fun _ _ _ h => h) (.inl ⟨rfl, fun w' _ => ?_⟩) (fun _ => hS15) ?_
        · simp [execOp, Act.eval, go_sem]
        simp only [Act.put, List.getElem_toArray, List.getElem_cons_zero, List.getElem_cons_succ, List.setIfInBounds_toArray, List.set_cons_zero, List.set_cons_succ]
        refine G.pure' (i := 8) (v := .pointer (some ⟨q, 0, none⟩)) rfl (by kernel_rfl) (fun _ _ _ h => h) (.inl ⟨rfl, fun w' _ => ?_⟩) (fun _ => hS15) ?_
        · simp [execOp, Act.eval, go_sem]
        simp only [Act.put, List.getElem_toArray, List.getElem_cons_zero, List.getElem_cons_succ, List.setIfInBounds_toArray, List.set_cons_zero, List.set_cons_succ]
        refine G.pure' (i := 9) (v := .slice (some ⟨b0, o0, none⟩) n cl) rfl (by kernel_rfl) (fun _ _ _ h => h) (.inl ⟨rfl, fun w' _ => ?_⟩) (fun _ => hS15) ?_
        · simp [execOp, Act.eval, go_sem]
        simp only [Act.put, List.getElem_toArray, List.getElem_cons_zero, List.getElem_cons_succ, List.setIfInBounds_toArray, List.set_cons_zero, List.set_cons_succ]
        refine G.pure' (i := 10) (v := .int .i64 k) rfl (by kernel_rfl) (fun _ _ _ h => h) (.inl ⟨rfl, fun w' _ => ?_⟩) (fun _ => hS15) ?_
        · simp [execOp, Act.eval, go_sem]
        simp only [Act.put, List.getElem_toArray, List.getElem_cons_zero, List.getElem_cons_succ, List.setIfInBounds_toArray, List.set_cons_zero, List.set_cons_succ]
        refine G.pure' (i := 11) (v := .pointer (some ⟨b0, o0 + k * 4, none⟩)) rfl (by kernel_rfl) (fun _ _ _ h => h) (.inl ⟨rfl, fun w' _ => ?_⟩) (fun _ => hS15) ?_
        · simp [execOp, Act.eval, hkl', go_sem]
        simp only [Act.put, List.getElem_toArray, List.getElem_cons_zero, List.getElem_cons_succ, List.setIfInBounds_toArray, List.set_cons_zero, List.set_cons_succ]
        refine G.pure' (i := 12) (v := .pointer (some ⟨b0, o0 + k * 4 + 1, none⟩)) rfl (by kernel_rfl) (fun _ _ _ h => h) (.inl ⟨rfl, fun w' _ => ?_⟩) (fun _ => hS15) ?_
        · simp [execOp, Act.eval, go_sem]
        simp only [Act.put, List.getElem_toArray, List.getElem_cons_zero, List.getElem_cons_succ, List.setIfInBounds_toArray, List.set_cons_zero, List.set_cons_succ]
        refine G.load (i := 13) (v := .int .i64 id) rfl (by kernel_rfl) (fun _ _ _ h => h) (.inl ⟨rfl, fun w' hS => ?_⟩) (hS15) ?_
        · simp [execOp, Act.eval, hS, go_sem]
        simp only [Act.put, List.getElem_toArray, List.getElem_cons_zero, List.getElem_cons_succ, List.setIfInBounds_toArray, List.set_cons_zero, List.set_cons_succ]
        refine G.pure' (i := 14) (v := .int .i64 tk) rfl (by kernel_rfl) (fun _ _ _ h => h) (.inl ⟨rfl, fun w' _ => ?_⟩) (fun _ => hS15) ?_
        · simp [execOp, Act.eval, go_sem]
        simp only [Act.put, List.getElem_toArray, List.getElem_cons_zero, List.getElem_cons_succ, List.setIfInBounds_toArray, List.set_cons_zero, List.set_cons_succ]
        refine G.only' (i := 7) ?r7 rfl ?o7
        case r7 => kernel_rfl
        intro K hK
        refine step_call rfl rfl (enters_of Try.func10 (by kernel_rfl) rfl) (tarm h3.drew.at1 hok.uniq hok.len hok.now0 hok.ord0 hord62 id tk) rfl ?_
        rintro e w4 ⟨rfl, V', a1, a2, a3⟩
        have h4 := h3.drew.one a1 a2 a3
        rw [HE.out]
        clear a1 a2 a3
        refine ⟨_, rfl, hK _ _ (fun _ => HSL.out w4 h4.below) ?_⟩
        clear hK K
        simp only [Act.put, List.getElem_toArray, List.getElem_cons_zero, List.getElem_cons_succ, List.setIfInBounds_toArray, List.set_cons_zero, List.set_cons_succ]
        refine G.only' (i := 15) ?r15 rfl ?o15
        case r15 => kernel_rfl
        intro K hK
        refine step_call rfl rfl (enters_of Try.func16 (by kernel_rfl) rfl) (rfarm h4.at2 hok.len ord id tk) rfl ?_
        rintro e w5 ⟨rfl, rv', a1, a2, a3⟩
        have h5 := h4.two a1 a2 a3
        rw [HE.out]
        clear a1 a2 a3
        refine ⟨_, rfl, hK _ _ (fun _ => HSL.out w5 h5.below) ?_⟩
        clear hK K
        simp only [Act.put, List.getElem_toArray, List.getElem_cons_zero, List.getElem_cons_succ, List.setIfInBounds_toArray, List.set_cons_zero, List.set_cons_succ]
        refine G.pure' (i := 16) (v := .bool true) rfl (by kernel_rfl) (fun _ _ _ h => h) (.inl ⟨rfl, fun w' _ => ?_⟩) (fun _ => HSL.out w5 h5.below) ?_
        · simp [execOp, Act.eval, go_sem]
        simp only [Act.put, List.getElem_toArray, List.getElem_cons_zero, List.getElem_cons_succ, List.setIfInBounds_toArray, List.set_cons_zero, List.set_cons_succ]
        refine G.lastPure (i := 17) (v := .bool true) (by kernel_rfl) (by kernel_rfl) rfl (.inl ⟨rfl, fun w' _ => ?_⟩) (fun e => Bool.noConfusion (show true = false from e)) ?_
        · simp [execOp, Act.eval, go_sem]
        simp only [Act.put, List.getElem_toArray, List.getElem_cons_zero, List.getElem_cons_succ, List.setIfInBounds_toArray, List.set_cons_zero, List.set_cons_succ]
        simp only [Exit.inBlock, Exit.then]
        refine hK15 _ _ ?_
        clear hK15 K15 hS15 c0 c1
        have HK := Lib.hid (And.intro hok2 (And.intro hnw (show armO nw A ord id tk ≤ ((k + 1 : Nat) : Int) by omega)))
        obtain ⟨A', hA'⟩ : ∃ A', A' = armL nw A ord id tk := ⟨_, rfl⟩
        obtain ⟨o', ho'⟩ : ∃ o', o' = armO nw A ord id tk := ⟨_, rfl⟩
        rw [← hA', ← ho'] at h5 hok2 HK
        clear h3 h4 hA' ho' HE hOle hok hord hord62 hnw HSL HCL
        go_wp2_with fail
        refine (tnext h5.at1).mono ?_
        rintro e w8 ⟨⟨x1, y1, rfl, hN1⟩, hb8⟩
        have h8 := h5.mono hb8
        clear h5 hb8
        go_wp2_with fail
        refine (rfnext h8.at2 hok2.len).mono ?_
        rintro e w9 ⟨⟨x2, y2, rfl, hN2⟩, rfl⟩
        obtain ⟨rfl, rfl⟩ := hN1.one hN2
        have hl9 : (A'.map ctl).length = A'.length := List.length_map _
        obtain ⟨Ar9, cr9, e9, _, _⟩ := h8.at2.own.form
        rw [hl9] at e9
        have d0 := h8.at2.c0
        have d1 := h8.at2.c1
        rw [e9] at d1
        have HQ9 := Lib.hid (fun m => h8.qlen m)
        have HQ8 := Lib.hid (fun m => h8.qnow m)
        have HH8 := Lib.hid h8
        obtain ⟨m9, hm9⟩ : ∃ m9, m9 = A'.length := ⟨_, rfl⟩
        rw [← hm9] at HQ9 d1
        clear hN1 hN2 e9 hl9 h8 hm9 hok2
        go_upto_region 29 with (fail)
        go_quiet (first | (go_at_call 23; exact HQ8.out _) | (go_at_call 12; exact HQ9.out _))
        have h9 := HH8.out.drewN nq
        clear d0 d1 HQ9 HQ8 HH8
        go_wp2
        go_roundw
        case rel => exact ⟨k + 1, A', o', nw, V', rv', by go_num, by omega, h9, HK.out⟩
        case measure => simp [intOf]; omega
      by_cases z1 : kd = 1
      · subst z1
        obtain ⟨E, hE⟩ : ∃ E : Int, (if has A id = true then (0 : Int) else 7) = E := ⟨_, rfl⟩
        have HE := Lib.hid hE
        have hok2 := hok.rid id
        clear hE z0
        go_upto_region 17 with (fail)
        rename_i K17 hK17
        refine wp_region_any (by kernel_rfl) (wpAny_of_G (n := 15) (S := fun w' => w'.cell? ⟨b0, o0 + k * 4 + 1, none⟩ = some (.int .i64 id)) _ _ _ _ ?_)
        have hS17 := HSL.out w3.drew h3.drew.below
        refine G.pure' (i := 0) (v := .pointer (some ⟨p, 0, none⟩)) rfl (by kernel_rfl) (fun _ _ _ h => h) (.inl ⟨rfl, fun w' _ => ?_⟩) (fun _ => hS17) ?_
        · simp [execOp, Act.eval, go_sem]
        simp only [Act.put, List.getElem_toArray, List.getElem_cons_zero, List.setIfInBounds_toArray, List.set_cons_zero, List.set_cons_succ]
        refine G.pure' (i := 1) (v := .slice (some ⟨b0, o0, none⟩) n cl) rfl (by kernel_rfl) (fun _ _ _ h => h) (.inl ⟨rfl, fun w' _ => ?_⟩) (fun _ => hS17) ?_
        · simp [execOp, Act.eval, go_sem]
        simp only [Act.put, List.getElem_toArray, List.getElem_cons_zero, List.getElem_cons_succ, List.setIfInBounds_toArray, List.set_cons_zero, List.set_cons_succ]
        refine G.pure' (i := 2) (v := .int .i64 k) rfl (by kernel_rfl) (fun _ _ _ h => h) (.inl ⟨rfl, fun w' _ => ?_⟩) (fun _ => hS17) ?_
        · simp [execOp, Act.eval, go_sem]
        simp only [Act.put, List.getElem_toArray, List.getElem_cons_zero, List.getElem_cons_succ, List.setIfInBounds_toArray, List.set_cons_zero, List.set_cons_succ]
        refine G.pure' (i := 3) (v := .pointer (some ⟨b0, o0 + k * 4, none⟩)) rfl (by kernel_rfl) (fun _ _ _ h => h) (.inl ⟨rfl, fun w' _ => ?_⟩) (fun _ => hS17) ?_
        · simp [execOp, Act.eval, hkl', go_sem]
        simp only [Act.put, List.getElem_toArray, List.getElem_cons_zero, List.getElem_cons_succ, List.setIfInBounds_toArray, List.set_cons_zero, List.set_cons_succ]
        refine G.pure' (i := 4) (v := .pointer (some ⟨b0, o0 + k * 4 + 1, none⟩)) rfl (by kernel_rfl) (fun _ _ _ h => h) (.inl ⟨rfl, fun w' _ => ?_⟩) (fun _ => hS17) ?_
        · simp [execOp, Act.eval, go_sem]
        simp only [Act.put, List.getElem_toArray, List.getElem_cons_zero, List.getElem_cons_succ, List.setIfInBounds_toArray, List.set_cons_zero, List.set_cons_succ]
        refine G.load (i := 5) (v := .int .i64 id) rfl (by kernel_rfl) (fun _ _ _ h => h) (.inl ⟨rfl, fun w' hS => ?_⟩) (hS17) ?_
        · simp [execOp, Act.eval, hS, go_sem]
        simp only [Act.put, List.getElem_toArray, List.getElem_cons_zero, List.getElem_cons_succ, List.setIfInBounds_toArray, List.set_cons_zero, List.set_cons_succ]
        refine G.pure' (i := 7) (v := .pointer (some ⟨q, 0, none⟩)) rfl (by kernel_rfl) (fun _ _ _ h => h) (.inl ⟨rfl, fun w' _ => ?_⟩) (fun _ => hS17) ?_
        · simp [execOp, Act.eval, go_sem]
        simp only [Act.put, List.getElem_toArray, List.getElem_cons_zero, List.getElem_cons_succ, List.setIfInBounds_toArray, List.set_cons_zero, List.set_cons_succ]
        refine G.pure' (i := 8) (v := .slice (some ⟨b0, o0, none⟩) n cl) rfl (by kernel_rfl) (fun _ _ _ h => h) (.inl ⟨rfl, fun w' _ => ?_⟩) (fun _ => hS17) ?_
        · simp [execOp, Act.eval, go_sem]
        simp only [Act.put, List.getElem_toArray, List.getElem_cons_zero, List.getElem_cons_succ, List.setIfInBounds_toArray, List.set_cons_zero, List.set_cons_succ]
        refine G.pure' (i := 9) (v := .int .i64 k) rfl (by kernel_rfl) (fun _ _ _ h => h) (.inl ⟨rfl, fun w' _ => ?_⟩) (fun _ => hS17) ?_
        · simp [execOp, Act.eval, go_sem]
        simp only [Act.put, List.getElem_toArray, List.getElem_cons_zero, List.getElem_cons_succ, List.setIfInBounds_toArray, List.set_cons_zero, List.set_cons_succ]
        refine G.pure' (i := 10) (v := .pointer (some ⟨b0, o0 + k * 4, none⟩)) rfl (by kernel_rfl) (fun _ _ _ h => h) (.inl ⟨rfl, fun w' _ => ?_⟩) (fun _ => hS17) ?_
        · simp [execOp, Act.eval, hkl', go_sem]
        simp only [Act.put, List.getElem_toArray, List.getElem_cons_zero, List.getElem_cons_succ, List.setIfInBounds_toArray, List.set_cons_zero, List.set_cons_succ]
        refine G.pure' (i := 11) (v := .pointer (some ⟨b0, o0 + k * 4 + 1, none⟩)) rfl (by kernel_rfl) (fun _ _ _ h => h) (.inl ⟨rfl, fun w' _ => ?_⟩) (fun _ => hS17) ?_
        · simp [execOp, Act.eval, go_sem]
        simp only [Act.put, List.getElem_toArray, List.getElem_cons_zero, List.getElem_cons_succ, List.setIfInBounds_toArray, List.set_cons_zero, List.set_cons_succ]
        refine G.load (i := 12) (v := .int .i64 id) rfl (by kernel_rfl) (fun _ _ _ h => h) (.inl ⟨rfl, fun w' hS => ?_⟩) (hS17) ?_
        · simp [execOp, Act.eval, hS, go_sem]
        simp only [Act.put, List.getElem_toArray, List.getElem_cons_zero, List.getElem_cons_succ, List.setIfInBounds_toArray, List.set_cons_zero, List.set_cons_succ]
        refine G.only' (i := 6) ?r6 rfl ?o6
        case r6 => kernel_rfl
        intro K hK
        refine step_call rfl rfl (enters_of Try.func9 (by kernel_rfl) rfl) (tcancel h3.drew.at1 hok.uniq hok.len id) rfl ?_
        rintro e w4 ⟨rfl, V', a1, a2, a3⟩
        have h4 := h3.drew.one a1 a2 a3
        rw [HE.out]
        clear a1 a2 a3
        refine ⟨_, rfl, hK _ _ (fun _ => HSL.out w4 h4.below) ?_⟩
        clear hK K
        simp only [Act.put, List.getElem_toArray, List.getElem_cons_zero, List.getElem_cons_succ, List.setIfInBounds_toArray, List.set_cons_zero, List.set_cons_succ]
        refine G.only' (i := 13) ?r13 rfl ?o13
        case r13 => kernel_rfl
        intro K hK
        refine step_call rfl rfl (enters_of Try.func17 (by kernel_rfl) rfl) (rfcancel h4.at2 hok.len id) rfl ?_
        rintro e w5 ⟨rfl, rv', a1, a2, a3⟩
        have h5 := h4.two a1 a2 a3
        rw [HE.out]
        clear a1 a2 a3
        refine ⟨_, rfl, hK _ _ (fun _ => HSL.out w5 h5.below) ?_⟩
        clear hK K
        simp only [Act.put, List.getElem_toArray, List.getElem_cons_zero, List.getElem_cons_succ, List.setIfInBounds_toArray, List.set_cons_zero, List.set_cons_succ]
        refine G.pure' (i := 14) (v := .bool true) rfl (by kernel_rfl) (fun _ _ _ h => h) (.inl ⟨rfl, fun w' _ => ?_⟩) (fun _ => HSL.out w5 h5.below) ?_
        · simp [execOp, Act.eval, go_sem]
        simp only [Act.put, List.getElem_toArray, List.getElem_cons_zero, List.getElem_cons_succ, List.setIfInBounds_toArray, List.set_cons_zero, List.set_cons_succ]
        refine G.lastPure (i := 15) (v := .bool true) (by kernel_rfl) (by kernel_rfl) rfl (.inl ⟨rfl, fun w' _ => ?_⟩) (fun e => Bool.noConfusion (show true = false from e)) ?_
        · simp [execOp, Act.eval, go_sem]
        simp only [Act.put, List.getElem_toArray, List.getElem_cons_zero, List.getElem_cons_succ, List.setIfInBounds_toArray, List.set_cons_zero, List.set_cons_succ]
        simp only [Exit.inBlock, Exit.then]
        refine hK17 _ _ ?_
        clear hK17 K17 hS17 c0 c1
        have HK := Lib.hid (And.intro hok2 (And.intro hnw (show ord ≤ ((k + 1 : Nat) : Int) by omega)))
        clear h3 h4 HE hok hord hord62 hnw HSL HCL
        go_wp2_with fail
        refine (tnext h5.at1).mono ?_
        rintro e w8 ⟨⟨x1, y1, rfl, hN1⟩, hb8⟩
        have h8 := h5.mono hb8
        clear h5 hb8
        go_wp2_with fail
        refine (rfnext h8.at2 hok2.len).mono ?_
        rintro e w9 ⟨⟨x2, y2, rfl, hN2⟩, rfl⟩
        obtain ⟨rfl, rfl⟩ := hN1.one hN2
        have hl9 : ((rid A id).map ctl).length = (rid A id).length := List.length_map _
        obtain ⟨Ar9, cr9, e9, _, _⟩ := h8.at2.own.form
        rw [hl9] at e9
        have d0 := h8.at2.c0
        have d1 := h8.at2.c1
        rw [e9] at d1
        have HQ9 := Lib.hid (fun m => h8.qlen m)
        have HQ8 := Lib.hid (fun m => h8.qnow m)
        have HH8 := Lib.hid h8
        obtain ⟨m9, hm9⟩ : ∃ m9, m9 = (rid A id).length := ⟨_, rfl⟩
        rw [← hm9] at HQ9 d1
        clear hN1 hN2 e9 hl9 h8 hm9 hok2
        go_upto_region 29 with (fail)
        go_quiet (first | (go_at_call 23; exact HQ8.out _) | (go_at_call 12; exact HQ9.out _))
        have h9 := HH8.out.drewN nq
        clear d0 d1 HQ9 HQ8 HH8
        go_wp2
        go_roundw
        case rel => exact ⟨k + 1, (rid A id), ord, nw, V', rv', by go_num, by omega, h9, HK.out⟩
        case measure => simp [intOf]; omega
      have p0 : (kd == 0) = false := by simpa using z0
      have p1 : (kd == 1) = false := by simpa using z1
      clear z0 z1
      by_cases z2 : kd = 2
      · subst z2
        obtain ⟨du, hdu⟩ : ∃ du, dueOf A id = du := ⟨_, rfl⟩
        obtain ⟨hx, hhx⟩ : ∃ hx, has A id = hx := ⟨_, rfl⟩
        have HDU := Lib.hid (And.intro hdu hhx)
        clear hdu hhx p0 p1
        go_wp2_with fail
        refine (tdue h3.at1 hok.uniq id).mono ?_
        rintro e w4 ⟨rfl, hb4⟩
        rw [HDU.out.1, HDU.out.2]
        have h4 := h3.mono hb4
        obtain ⟨c0, c1, -, -⟩ := HCL.out w4 h4.below
        clear hb4
        go_wp2_with fail
        refine (rfdue h4.at2 hok.uniq hok.len id).mono ?_
        rintro e w5 ⟨rfl, rfl⟩
        rw [HDU.out.1, HDU.out.2]
        have HK := Lib.hid (And.intro hok (And.intro hnw (show ord ≤ ((k + 1 : Nat) : Int) by omega)))
        have hok2 := hok
        clear h3 HDU hok hord hord62 hnw HSL HCL c0 c1
        go_wp2_with fail
        refine (tnext h4.at1).mono ?_
        rintro e w8 ⟨⟨x1, y1, rfl, hN1⟩, hb8⟩
        have h8 := h4.mono hb8
        clear h4 hb8
        go_wp2_with fail
        refine (rfnext h8.at2 hok2.len).mono ?_
        rintro e w9 ⟨⟨x2, y2, rfl, hN2⟩, rfl⟩
        obtain ⟨rfl, rfl⟩ := hN1.one hN2
        have hl9 : (A.map ctl).length = A.length := List.length_map _
        obtain ⟨Ar9, cr9, e9, _, _⟩ := h8.at2.own.form
        rw [hl9] at e9
        have d0 := h8.at2.c0
        have d1 := h8.at2.c1
        rw [e9] at d1
        have HQ9 := Lib.hid (fun m => h8.qlen m)
        have HQ8 := Lib.hid (fun m => h8.qnow m)
        have HH8 := Lib.hid h8
        obtain ⟨m9, hm9⟩ : ∃ m9, m9 = A.length := ⟨_, rfl⟩
        rw [← hm9] at HQ9 d1
        clear hN1 hN2 e9 hl9 h8 hm9 hok2
        go_upto_region 29 with (fail)
        go_quiet (first | (go_at_call 23; exact HQ8.out _) | (go_at_call 12; exact HQ9.out _))
        have h9 := HH8.out.drewN nq
        clear d0 d1 HQ9 HQ8 HH8
        go_wp2
        go_roundw
        case rel => exact ⟨k + 1, A, ord, nw, V, rv, by go_num, by omega, h9, HK.out⟩
        case measure => simp [intOf]; omega
      by_cases z3 : kd = 3
      · subst z3
        clear p0 p1 z2
        by_cases hno : tk < nw ∨ 1099511627776 < tk
        · go_wp2_with fail
          refine (tadv_no h3.at1 tk hno).mono ?_
          rintro e w4 ⟨rfl, rfl⟩
          go_wp2_with fail
          refine (rfadv_no h3.at2 tk hno).mono ?_
          rintro e w5 ⟨rfl, rfl⟩
          go_wp2_with fail
          refine (rfsame (B := w3.heap.size) (va := noS) (vb := noS) (l := []) (OwE.nil _ _) (RdE.nil _) (fun g hg => by cases hg) (by simp)).mono ?_
          rintro e w6 ⟨rfl, ht6⟩
          have h6 := h3.off ht6 (fun k hk => by cases hk) (fun k hk => by cases hk) (fun k hk => by cases hk)
          have HK := Lib.hid (And.intro hok (And.intro hnw (show ord ≤ ((k + 1 : Nat) : Int) by omega)))
          have hok2 := hok
          clear h3 hok hord hord62 hnw HSL HCL c0 c1 hno ht6
          go_wp2_with fail
          refine (tnext h6.at1).mono ?_
          rintro e w8 ⟨⟨x1, y1, rfl, hN1⟩, hb8⟩
          have h8 := h6.mono hb8
          clear h6 hb8
          go_wp2_with fail
          refine (rfnext h8.at2 hok2.len).mono ?_
          rintro e w9 ⟨⟨x2, y2, rfl, hN2⟩, rfl⟩
          obtain ⟨rfl, rfl⟩ := hN1.one hN2
          have hl9 : (A.map ctl).length = A.length := List.length_map _
          obtain ⟨Ar9, cr9, e9, _, _⟩ := h8.at2.own.form
          rw [hl9] at e9
          have d0 := h8.at2.c0
          have d1 := h8.at2.c1
          rw [e9] at d1
          have HQ9 := Lib.hid (fun m => h8.qlen m)
          have HQ8 := Lib.hid (fun m => h8.qnow m)
          have HH8 := Lib.hid h8
          obtain ⟨m9, hm9⟩ : ∃ m9, m9 = A.length := ⟨_, rfl⟩
          rw [← hm9] at HQ9 d1
          clear hN1 hN2 e9 hl9 h8 hm9 hok2
          go_upto_region 29 with (fail)
          go_quiet (first | (go_at_call 23; exact HQ8.out _) | (go_at_call 12; exact HQ9.out _))
          have h9 := HH8.out.drewN nq
          clear d0 d1 HQ9 HQ8 HH8
          go_wp2
          go_roundw
          case rel => exact ⟨k + 1, A, ord, nw, V, rv, by go_num, by omega, h9, HK.out⟩
          case measure => simp [intOf]; omega
        · have k1 : nw ≤ tk := by omega
          have k2 : tk ≤ 1099511627776 := by omega
          have hok2 := hok.adv k1
          clear hno
          go_wp2_with fail
          refine (tadv h3.at1 hok.len (hok.sm hord62) tk k1 k2).mono ?_
          rintro e w4 ⟨va, F, V', rfl, hF1, hF2, hF3, hF4, a1, a2, a3⟩
          have h4 := h3.one a1 a2 a3
          have hva : ∀ g, va.ownBlock = some g → w3.heap.size ≤ g ∧ g < w4.heap.size := fun g hg => hF3.lt hg
          obtain ⟨Aa, ca, rfl, _, _⟩ := hF3.form
          obtain ⟨ma, hma⟩ : ∃ ma, ma = (F.map ctl).length := ⟨_, rfl⟩
          rw [← hma] at hF3 hF4 hva ⊢
          have HMA := Lib.hid hma
          clear a1 a2 a3 hma c0 c1
          go_wp2_with fail
          refine (rfadv h4.at2 hok tk k1 k2).mono ?_
          rintro e w5 ⟨vb, G, rfl, hG1, hG2, hG3, rv', a1, a2, a3⟩
          have h5 := h4.two a1 a2 a3
          obtain rfl : F = G := come_one hok hF1 hG1 hF2 hG2
          have hFb : OwF w5 w3.heap.size (.slice Aa ma ca) (F.map ctl) := hF3.touch a2 (fun g hg hk => by
            have := (hva g hg).1
            have := (h3.at2.lt hk).2
            omega)
          have hvb : ∀ g, vb.ownBlock = some g → w4.heap.size ≤ g := fun g hg => (hG3.lt hg).1
          have hoff1 : ∀ g, (Value.slice Aa ma ca).ownBlock = some g → ¬ Ft p V' g := hF4
          have hoff2 : ∀ g, (Value.slice Aa ma ca).ownBlock = some g → ¬ Rf q rv' g := fun g hg hk => by
            have g1 := hva g hg
            rcases a3 g hk with hk | hk
            · have := (h3.at2.lt hk).2
              omega
            · omega
          have hGr := hG3.rd
          obtain ⟨Ab, cb, rfl, _, _⟩ := hG3.form
          have hF64 : (F.map ctl).length ≤ 64 := by
            have q1 := hok.len
            have q2 : (A.filter fun t => decide (t.due ≤ tk)).length ≤ A.length := List.length_filter_le _ _
            rw [List.length_map, hF1.length_eq]
            omega
          rw [← HMA.out] at hGr hvb ⊢
          clear a1 a2 a3 hF1 hF2 hG1 hG2 hF3 hG3 hF4
          go_wp2_with fail
          refine (rfsame hFb hGr (fun g hg hg2 => by have := hvb g hg2; have := (hva g hg).2; omega) hF64).mono ?_
          rintro e w6 ⟨rfl, ht6⟩
          have h6 := h5.off ht6 hoff1 hoff2 (fun g hg => by have := (hva g hg).1; have := h3.below.size; omega)
          have HK := Lib.hid (And.intro hok2 (And.intro k2 (show ord ≤ ((k + 1 : Nat) : Int) by omega)))
          obtain ⟨A', hA'⟩ : ∃ A', A' = stL A tk := ⟨_, rfl⟩
          rw [← hA'] at h6 hok2 HK
          clear h3 h4 h5 hok hord hord62 hnw HSL HCL ht6 hoff1 hoff2 hFb hGr hF64 hva hvb hA' k1 k2 HMA
          go_wp2_with fail
          refine (tnext h6.at1).mono ?_
          rintro e w8 ⟨⟨x1, y1, rfl, hN1⟩, hb8⟩
          have h8 := h6.mono hb8
          clear h6 hb8
          go_wp2_with fail
          refine (rfnext h8.at2 hok2.len).mono ?_
          rintro e w9 ⟨⟨x2, y2, rfl, hN2⟩, rfl⟩
          obtain ⟨rfl, rfl⟩ := hN1.one hN2
          have hl9 : (A'.map ctl).length = A'.length := List.length_map _
          obtain ⟨Ar9, cr9, e9, _, _⟩ := h8.at2.own.form
          rw [hl9] at e9
          have d0 := h8.at2.c0
          have d1 := h8.at2.c1
          rw [e9] at d1
          have HQ9 := Lib.hid (fun m => h8.qlen m)
          have HQ8 := Lib.hid (fun m => h8.qnow m)
          have HH8 := Lib.hid h8
          obtain ⟨m9, hm9⟩ : ∃ m9, m9 = A'.length := ⟨_, rfl⟩
          rw [← hm9] at HQ9 d1
          clear hN1 hN2 e9 hl9 h8 hm9 hok2
          go_upto_region 29 with (fail)
          go_quiet (first | (go_at_call 23; exact HQ8.out _) | (go_at_call 12; exact HQ9.out _))
          have h9 := HH8.out.drewN nq
          clear d0 d1 HQ9 HQ8 HH8
          go_wp2
          go_roundw
          case rel => exact ⟨k + 1, A', ord, tk, V', rv', by go_num, by omega, h9, HK.out⟩
          case measure => simp [intOf]; omega
      have p2 : (kd == 2) = false := by simpa using z2
      have p3 : (kd == 3) = false := by simpa using z3
      have HK := Lib.hid (And.intro hok (And.intro hnw (show ord ≤ ((k + 1 : Nat) : Int) by omega)))
      have hok2 := hok
      clear z2 z3 hok hord hord62 hnw HSL HCL c1
      go_wp2_with fail
      refine (tnext h3.at1).mono ?_
      rintro e w8 ⟨⟨x1, y1, rfl, hN1⟩, hb8⟩
      have h8 := h3.mono hb8
      clear h3 hb8
      go_wp2_with fail
      refine (rfnext h8.at2 hok2.len).mono ?_
      rintro e w9 ⟨⟨x2, y2, rfl, hN2⟩, rfl⟩
      obtain ⟨rfl, rfl⟩ := hN1.one hN2
      have hl9 : (A.map ctl).length = A.length := List.length_map _
      obtain ⟨Ar9, cr9, e9, _, _⟩ := h8.at2.own.form
      rw [hl9] at e9
      have d0 := h8.at2.c0
      have d1 := h8.at2.c1
      rw [e9] at d1
      have HQ9 := Lib.hid (fun m => h8.qlen m)
      have HQ8 := Lib.hid (fun m => h8.qnow m)
      have HH8 := Lib.hid h8
      obtain ⟨m9, hm9⟩ : ∃ m9, m9 = A.length := ⟨_, rfl⟩
      rw [← hm9] at HQ9 d1
      clear hN1 hN2 e9 hl9 h8 hm9 hok2
      go_upto_region 29 with (fail)
      go_quiet (first | (go_at_call 23; exact HQ8.out _) | (go_at_call 12; exact HQ9.out _))
      have h9 := HH8.out.drewN nq
      clear d0 d1 HQ9 HQ8 HH8
      go_wp2
      go_roundw
      case rel => exact ⟨k + 1, A, ord, nw, V, rv, by go_num, by omega, h9, HK.out⟩
      case measure => simp [intOf]; omega
    · obtain rfl : k = n := by omega
      have hb := h.below
      clear h
      go_wp2
      go_ret
      exact ⟨rfl, hb⟩
end Go.Proofs.Ytcnfcohfogbfhaa
