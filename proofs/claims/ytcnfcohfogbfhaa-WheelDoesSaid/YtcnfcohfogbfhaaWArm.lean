/- The wheel: a timer is armed. -/
import Derived.Test.YtcnfcohfogbfhaaWUse
import Derived.Great.BuildSlice
namespace Go.Proofs.Ytcnfcohfogbfhaa
open Go.RowKit Go.Shelf
theorem step_appT {ops : Array Oper} {o : Oper} {a : Act} {w : World} {K : Act → World → Prop} {Q : Exit → Act → World → Prop} {E' : Prop} (hgd : o.guard = none) (s x : Operand)
    (ho : o.op = .call { callee := .builtin .append, args := #[s, x], argTypes := #[54, 54] })
    (base : Nat) {v u : Value} {l m : List Tm} (hown : OwT w base v l) (hr : RdT w u m) (hs : a.eval s = v) (hx : a.eval x = u)
    (hbytes : (l.length + m.length) * 24 ≤ 140737488355328) (hbase : base ≤ w.heap.size)
    (h : ∀ v' w', OwT w' base v' (l ++ m) → Below base w w' → Grew w w' v v' → K (a.put o.dst v') w') : if Region.wanted o (yielded ops a.tmps) = true then Oper.wp Try.prog o a w K Q else E' := by
  have hw : Region.wanted o (yielded ops a.tmps) = true := by simp [Region.wanted, hgd]
  rw [if_pos hw]
  exact wp_appT s x ho base hown hr hs hx hbytes hbase h
/-- A slice of one timer is built. -/
theorem step_buildT {ops : Array Oper} {o : Oper} {a : Act} {w : World} {K : Act → World → Prop} {Q : Exit → Act → World → Prop} {E : Prop} (hgd : o.guard = none) (x : Operand) (ho : o.op = .buildSlice 54 1 #[(0, x)]) (t : Tm)
    (hx : a.eval x = .agg #[.int .i64 t.id, .int .i64 t.due, .int .i64 t.ord]) (h : K (a.put o.dst (.slice (some ⟨w.heap.size, 0, none⟩) 1 1)) (w.alloc (.cells #[.int .i64 t.id, .int .i64 t.due, .int .i64 t.ord] 60))) :
    if Region.wanted o (yielded ops a.tmps) = true then Oper.wp Try.prog o a w K Q else E := by
  have hw : Region.wanted o (yielded ops a.tmps) = true := by simp [Region.wanted, hgd]
  rw [if_pos hw]
  obtain ⟨i, hi, hz, hz1, hz2⟩ := info_parts tm_info
  refine wp_buildSlice 54 60 1 #[(0, x)] ho #[.int .i64 t.id, .int .i64 t.due, .int .i64 t.ord] i _ Try.underlying54 hi hz (by rw [hz1]; decide) (by rw [hz1]; decide) ?_ h
  rw [hz1]
  simp only [List.map_toArray, List.map_cons, List.map_nil, hx]
  kernel_rfl
theorem Touch.alloc {S : Nat → Prop} {w w' : World} (h : Touch S w w') (o : Obj) : Touch S w (w'.alloc o) :=
  h.trans (Touch.of_below (below_alloc w' o))
/-- Which error Arm tells. -/
def armE (now : Int) (A : List Tm) (id tk : Int) : Int := if id < 0 ∨ tk ≤ now ∨ 1099511627776 < tk then 1 else if has A id = false ∧ A.length = 64 then 6 else 0
/-- What is armed behind it. -/
def armL (now : Int) (A : List Tm) (ord id tk : Int) : List Tm := if armE now A id tk = 0 then rid A id ++ [⟨id, tk, ord + 1⟩] else A
def armO (now : Int) (A : List Tm) (ord id tk : Int) : Int := if armE now A id tk = 0 then ord + 1 else ord
/-- One thing behind another. -/
theorem Touch.after {S T : Nat → Prop} {w w1 w2 : World} (h1 : Touch S w w1) (hf : ∀ k, T k → S k ∨ w.heap.size ≤ k) (h2 : Touch T w1 w2) : Touch S w w2 :=
  ⟨h2.os.trans h1.os, h2.tape.trans h1.tape, h2.output.trans h1.output, Nat.le_trans h1.size h2.size, fun k hk hn => (h2.block k (Nat.lt_of_lt_of_le hk h1.size) fun ht => by
    rcases hf k ht with h | h
    · exact hn h
    · omega).trans (h1.block k hk hn)⟩
theorem WEnd.after {w w1 w2 : World} {B p : Nat} {V : Nat → Value} {now1 : Int} {A1 : List Tm} {ord1 : Int} {V1 : Nat → Value} (ht1 : Touch (Ft p V) w w1) (hf1 : ∀ k, Ft p V1 k → Ft p V k ∨ w.heap.size ≤ k) (h2 : WEnd w1 B p V1 now1 A1 ord1 w2) : WEnd w B p V now1 A1 ord1 w2 := by
  obtain ⟨V2, a1, a2, a3⟩ := h2
  refine ⟨V2, a1, ht1.after hf1 a2, fun k hk => ?_⟩
  rcases a3 k hk with h | h
  · exact hf1 k h
  · exact .inr (Nat.le_trans ht1.size h)
theorem slotL_app (A C : List Tm) (s : Nat) : slotL (A ++ C) s = slotL A s ++ slotL C s := by simp [slotL]
theorem slotL_one (t : Tm) (s : Nat) : slotL [t] s = if t.due % 32 = (s : Int) then [t] else [] := by
  by_cases h : t.due % 32 = (s : Int) <;> simp [slotL, h]
theorem slotL_len (A : List Tm) (s : Nat) : (slotL A s).length ≤ A.length := List.length_filter_le _ _
set_option maxRecDepth 100000 in
set_option maxHeartbeats 8000000 in
/-- .. where it is armed. -/
theorem tarm_ok {w : World} {B p : Nat} {V : Nat → Value} {now : Int} {A : List Tm} {ord : Int} (h : WAt w B p V now A ord) (hu : Uniq A) (h64 : A.length ≤ 64) (hnow : 0 ≤ now) (ho0 : 0 ≤ ord) (ho1 : ord ≤ 4611686018427387904)
    (id tk : Int) (k1 : 0 ≤ id) (k2 : now < tk) (k3 : tk ≤ 1099511627776) (k4 : has A id = true ∨ A.length < 64) :
    Calls Try.prog 10 #[.pointer (some ⟨p, 0, none⟩), .int .i64 id, .int .i64 tk] w fun e w' => e = .returned (.int .i64 0) ∧ WEnd w B p V now (rid A id ++ [⟨id, tk, ord + 1⟩]) (ord + 1) w' := by
  have q1 : decide (id < 0) = false := by simpa using k1
  have q2 : decide (tk ≤ now) = false := by simpa using k2
  have q3 : decide (1099511627776 < tk) = false := by simpa using k3
  have c0 := h.c0
  have hlen : (rid A id).length ≤ A.length := List.length_filter_le _ _
  have hdr := tdrop h hu h64 id
  obtain ⟨s, hs, hsd⟩ := slot_of ⟨id, tk, ord + 1⟩
  have hsd' : tk % 32 = (s : Int) := hsd
  have etm : tk.tmod 32 = (s : Int) := by rw [Int.tmod_eq_emod_of_nonneg (by omega)]; exact hsd
  have HS := Lib.hid hsd'
  have hs' : (s : Int) < 32 := by omega
  have hroom : has A id = false → ¬ (rid A id).length = 64 := by
    intro hx
    rcases k4 with k4 | k4
    · rw [hx] at k4; cases k4
    · omega
  have HL := Lib.hid (And.intro hlen (And.intro h64 hroom))
  obtain ⟨x, hx⟩ : ∃ x, x = has A id := ⟨_, rfl⟩
  rw [← hx] at hdr
  have HX := Lib.hid hx
  clear k1 k2 k3 k4 hnow hsd hsd' hlen h64 hroom hx
  go_enter Try.func10, Try.ntmps10
  go_wp2_with fail
  refine hdr.mono ?_
  rintro e w1 ⟨rfl, V1, h1, ht1, hf1⟩
  have c33 := h1.c33
  have c34 := h1.c34
  have f34 := h1.blk.free 34
  have q5 : x = false → (((rid A id).length : Int) == 64) = false := by
    intro hx
    have h := HL.out.2.2 (by rw [← HX.out, hx])
    simp only [beq_eq_false_iff_ne, ne_eq]
    omega
  have q6 : ((rid A id).length : Int) ≤ 64 := by have := HL.out; omega
  clear c0 hdr
  cases x with
  | false =>
    have q7 := q5 rfl
    clear q5
    go_upto_region 6 with (fail)
    have hb2 : Blk (w1.setCell ⟨p, 34, none⟩ (.int .i64 (ord + 1))) p 57 (wcells now V1 (rid A id).length (ord + 1)) := by
      rw [← wcells_set34 _ _ _ ord]
      exact h1.blk.set 34 _
    have ht2 : Touch (fun k => k = p) w1 (w1.setCell ⟨p, 34, none⟩ (.int .i64 (ord + 1))) := Touch.set (S := fun k => k = p) w1 (p := ⟨p, 34, none⟩) rfl _
    change Code.wp Try.prog _ _ _ (w1.setCell ⟨p, 34, none⟩ (.int .i64 (ord + 1)))
    generalize w1.setCell ⟨p, 34, none⟩ (.int .i64 (ord + 1)) = w2 at *
    clear c33 c34 f34
    have c33 : w2.cell? ⟨p, 33, none⟩ = some (.int .i64 (rid A id).length) := by rw [hb2.cell, wcells_33]
    have f33 := hb2.free 33
    go_upto_region 7 with (fail)
    rename_i K3 hK3
    have hb3 : Blk (w2.setCell ⟨p, 33, none⟩ (.int .i64 (((rid A id).length : Int) + 1))) p 57 (wcells now V1 (((rid A id).length : Int) + 1) (ord + 1)) := by
      rw [← wcells_set33 _ _ ((rid A id).length : Int)]
      exact hb2.set 33 _
    have ht3 : Touch (fun k => k = p) w1 (w2.setCell ⟨p, 33, none⟩ (.int .i64 (((rid A id).length : Int) + 1))) := ht2.trans (Touch.set (S := fun k => k = p) w2 (p := ⟨p, 33, none⟩) rfl _)
    change Code.wp Try.prog _ _ _ (w2.setCell ⟨p, 33, none⟩ (.int .i64 (((rid A id).length : Int) + 1)))
    generalize w2.setCell ⟨p, 33, none⟩ (.int .i64 (((rid A id).length : Int) + 1)) = w3 at *
    clear c33 f33 hb2 ht2
    have hrow := (h1.row s hs).touch ht3 (fun g hg e => h1.own s hs (by rw [hg, e]))
    have cs : w3.cell? ⟨p, 1 + s, none⟩ = some (V1 s) := by rw [hb3.cell, wcells_s _ _ _ _ s hs]
    have co : w3.cell? ⟨p, 34, none⟩ = some (.int .i64 (ord + 1)) := by rw [hb3.cell, wcells_34]
    obtain ⟨As, cc, eV, _, _⟩ := hrow.form
    have hnp : (V1 s).ownBlock ≠ some p := h1.own s hs
    rw [eV] at cs hrow hnp
    have hls : (slotL (rid A id) s).length ≤ 64 := by have h1 := slotL_len (rid A id) s; have h2 := HL.out; omega
    obtain ⟨n, hn⟩ : ∃ n, n = (slotL (rid A id) s).length := ⟨_, rfl⟩
    rw [← hn] at cs hrow hnp eV
    have HEV := Lib.hid eV
    clear eV
    have hS0 : w3.drew.cell? ⟨p, 1 + s, none⟩ = some (.slice As n cc) ∧ w3.drew.cell? ⟨p, 34, none⟩ = some (.int .i64 (ord + 1)) := ⟨cs, co⟩
    have hS1 : (w3.drew.alloc (.cells #[.int .i64 id, .int .i64 tk, .int .i64 (ord + 1)] 60)).cell? ⟨p, 1 + s, none⟩ = some (.slice As n cc) ∧ (w3.drew.alloc (.cells #[.int .i64 id, .int .i64 tk, .int .i64 (ord + 1)] 60)).cell? ⟨p, 34, none⟩ = some (.int .i64 (ord + 1)) := by
      have hbx : Blk (w3.drew.alloc (.cells #[.int .i64 id, .int .i64 tk, .int .i64 (ord + 1)] 60)) p 57 (wcells now V1 (((rid A id).length : Int) + 1) (ord + 1)) := (show Blk w3.drew p 57 (wcells now V1 (((rid A id).length : Int) + 1) (ord + 1)) from hb3).alloc _
      refine ⟨?_, ?_⟩
      · rw [hbx.cell, wcells_s _ _ _ _ s hs, HEV.out]
      · rw [hbx.cell, wcells_34]
    have hown1 : OwT (w3.drew.alloc (.cells #[.int .i64 id, .int .i64 tk, .int .i64 (ord + 1)] 60)) B (.slice As n cc) (slotL (rid A id) s) := (show OwT w3.drew B (.slice As n cc) (slotL (rid A id) s) from hrow).mono (below_alloc _ _)
    have hrd1 : RdT (w3.drew.alloc (.cells #[.int .i64 id, .int .i64 tk, .int .i64 (ord + 1)] 60)) (.slice (some ⟨w3.drew.heap.size, 0, none⟩) 1 1) [⟨id, tk, ord + 1⟩] := rdT_one (Blk.new w3.drew 60 _ _ rfl)
    have hBz : B ≤ (w3.drew.alloc (.cells #[.int .i64 id, .int .i64 tk, .int .i64 (ord + 1)] 60)).heap.size := by have h1 := h1.base; have h2 := hb3.lt; simp; omega
    refine wp_region_any (by kernel_rfl) (wpAny_of_G (n := 22) (S := fun w' => w'.cell? ⟨p, 1 + s, none⟩ = some (.slice As n cc) ∧ w'.cell? ⟨p, 34, none⟩ = some (.int .i64 (ord + 1))) _ _ _ _ ?_)
    refine G.pure' (i := 0) (v := .pointer (some ⟨p, 0, none⟩)) rfl (by kernel_rfl) (fun _ _ _ h => h) (.inl ⟨rfl, fun w' _ => ?_⟩) (fun _ => hS0) ?_
    · simp [execOp, Act.eval, go_sem]
    simp only [Act.put, List.getElem_toArray, List.getElem_cons_zero, List.setIfInBounds_toArray, List.set_cons_zero, List.set_cons_succ]
    refine G.pure' (i := 1) (v := .int .i64 tk) rfl (by kernel_rfl) (fun _ _ _ h => h) (.inl ⟨rfl, fun w' _ => ?_⟩) (fun _ => hS0) ?_
    · simp [execOp, Act.eval, go_sem]
    simp only [Act.put, List.getElem_toArray, List.getElem_cons_zero, List.getElem_cons_succ, List.setIfInBounds_toArray, List.set_cons_zero, List.set_cons_succ]
    refine G.pure' (i := 2) (v := .int .i64 s) rfl (by kernel_rfl) (fun _ _ _ h => h) (.inl ⟨rfl, fun w' _ => ?_⟩) (fun _ => hS0) ?_
    · simp [execOp, Act.eval, go_sem, etm]
    simp only [Act.put, List.getElem_toArray, List.getElem_cons_zero, List.getElem_cons_succ, List.setIfInBounds_toArray, List.set_cons_zero, List.set_cons_succ]
    refine G.pure' (i := 3) (v := .pointer (some ⟨p, 0, none⟩)) rfl (by kernel_rfl) (fun _ _ _ h => h) (.inl ⟨rfl, fun w' _ => ?_⟩) (fun _ => hS0) ?_
    · simp [execOp, Act.eval, go_sem]
    simp only [Act.put, List.getElem_toArray, List.getElem_cons_zero, List.getElem_cons_succ, List.setIfInBounds_toArray, List.set_cons_zero, List.set_cons_succ]
    refine G.pure' (i := 4) (v := .int .i64 tk) rfl (by kernel_rfl) (fun _ _ _ h => h) (.inl ⟨rfl, fun w' _ => ?_⟩) (fun _ => hS0) ?_
    · simp [execOp, Act.eval, go_sem]
    simp only [Act.put, List.getElem_toArray, List.getElem_cons_zero, List.getElem_cons_succ, List.setIfInBounds_toArray, List.set_cons_zero, List.set_cons_succ]
    refine G.pure' (i := 5) (v := .int .i64 s) rfl (by kernel_rfl) (fun _ _ _ h => h) (.inl ⟨rfl, fun w' _ => ?_⟩) (fun _ => hS0) ?_
    · simp [execOp, Act.eval, go_sem, etm]
    simp only [Act.put, List.getElem_toArray, List.getElem_cons_zero, List.getElem_cons_succ, List.setIfInBounds_toArray, List.set_cons_zero, List.set_cons_succ]
    refine G.pure' (i := 6) (v := .pointer (some ⟨p, 0, none⟩)) rfl (by kernel_rfl) (fun _ _ _ h => h) (.inl ⟨rfl, fun w' _ => ?_⟩) (fun _ => hS0) ?_
    · simp [execOp, Act.eval, go_sem]
    simp only [Act.put, List.getElem_toArray, List.getElem_cons_zero, List.getElem_cons_succ, List.setIfInBounds_toArray, List.set_cons_zero, List.set_cons_succ]
    refine G.pure' (i := 7) (v := .pointer (some ⟨p, 1, none⟩)) rfl (by kernel_rfl) (fun _ _ _ h => h) (.inl ⟨rfl, fun w' _ => ?_⟩) (fun _ => hS0) ?_
    · simp [execOp, Act.eval, go_sem]
    simp only [Act.put, List.getElem_toArray, List.getElem_cons_zero, List.getElem_cons_succ, List.setIfInBounds_toArray, List.set_cons_zero, List.set_cons_succ]
    refine G.pure' (i := 8) (v := .pointer (some ⟨p, 1 + s, none⟩)) rfl (by kernel_rfl) (fun _ _ _ h => h) (.inl ⟨rfl, fun w' _ => ?_⟩) (fun _ => hS0) ?_
    · simp [execOp, Act.eval, hs', go_sem]
    simp only [Act.put, List.getElem_toArray, List.getElem_cons_zero, List.getElem_cons_succ, List.setIfInBounds_toArray, List.set_cons_zero, List.set_cons_succ]
    refine G.load (i := 9) (v := .slice As n cc) rfl (by kernel_rfl) (fun _ _ _ h => h) (.inl ⟨rfl, fun w' hS => ?_⟩) (hS0) ?_
    · simp [execOp, Act.eval, hS, go_sem]
    simp only [Act.put, List.getElem_toArray, List.getElem_cons_zero, List.getElem_cons_succ, List.setIfInBounds_toArray, List.set_cons_zero, List.set_cons_succ]
    refine G.pure' (i := 10) (v := .int .i64 id) rfl (by kernel_rfl) (fun _ _ _ h => h) (.inl ⟨rfl, fun w' _ => ?_⟩) (fun _ => hS0) ?_
    · simp [execOp, Act.eval, go_sem]
    simp only [Act.put, List.getElem_toArray, List.getElem_cons_zero, List.getElem_cons_succ, List.setIfInBounds_toArray, List.set_cons_zero, List.set_cons_succ]
    refine G.pure' (i := 11) (v := .int .i64 tk) rfl (by kernel_rfl) (fun _ _ _ h => h) (.inl ⟨rfl, fun w' _ => ?_⟩) (fun _ => hS0) ?_
    · simp [execOp, Act.eval, go_sem]
    simp only [Act.put, List.getElem_toArray, List.getElem_cons_zero, List.getElem_cons_succ, List.setIfInBounds_toArray, List.set_cons_zero, List.set_cons_succ]
    refine G.pure' (i := 12) (v := .pointer (some ⟨p, 0, none⟩)) rfl (by kernel_rfl) (fun _ _ _ h => h) (.inl ⟨rfl, fun w' _ => ?_⟩) (fun _ => hS0) ?_
    · simp [execOp, Act.eval, go_sem]
    simp only [Act.put, List.getElem_toArray, List.getElem_cons_zero, List.getElem_cons_succ, List.setIfInBounds_toArray, List.set_cons_zero, List.set_cons_succ]
    refine G.pure' (i := 13) (v := .pointer (some ⟨p, 0, none⟩)) rfl (by kernel_rfl) (fun _ _ _ h => h) (.inl ⟨rfl, fun w' _ => ?_⟩) (fun _ => hS0) ?_
    · simp [execOp, Act.eval, go_sem]
    simp only [Act.put, List.getElem_toArray, List.getElem_cons_zero, List.getElem_cons_succ, List.setIfInBounds_toArray, List.set_cons_zero, List.set_cons_succ]
    refine G.pure' (i := 14) (v := .pointer (some ⟨p, 34, none⟩)) rfl (by kernel_rfl) (fun _ _ _ h => h) (.inl ⟨rfl, fun w' _ => ?_⟩) (fun _ => hS0) ?_
    · simp [execOp, Act.eval, go_sem]
    simp only [Act.put, List.getElem_toArray, List.getElem_cons_zero, List.getElem_cons_succ, List.setIfInBounds_toArray, List.set_cons_zero, List.set_cons_succ]
    refine G.load (i := 15) (v := .int .i64 (ord + 1)) rfl (by kernel_rfl) (fun _ _ _ h => h) (.inl ⟨rfl, fun w' hS => ?_⟩) (hS0) ?_
    · simp [execOp, Act.eval, hS, go_sem]
    simp only [Act.put, List.getElem_toArray, List.getElem_cons_zero, List.getElem_cons_succ, List.setIfInBounds_toArray, List.set_cons_zero, List.set_cons_succ]
    refine G.pure' (i := 16) (v := .agg #[.int .i64 id, .int .i64 tk, .int .i64 (ord + 1)]) rfl (by kernel_rfl) (fun _ _ _ h => h) (.inl ⟨rfl, fun w' _ => ?_⟩) (fun _ => hS0) ?_
    · simp [execOp, Act.eval, go_sem]
    simp only [Act.put, List.getElem_toArray, List.getElem_cons_zero, List.getElem_cons_succ, List.setIfInBounds_toArray, List.set_cons_zero, List.set_cons_succ]
    refine G.pure' (i := 19) (v := .pointer (some ⟨p, 0, none⟩)) rfl (by kernel_rfl) (fun _ _ _ h => h) (.inl ⟨rfl, fun w' _ => ?_⟩) (fun _ => hS0) ?_
    · simp [execOp, Act.eval, go_sem]
    simp only [Act.put, List.getElem_toArray, List.getElem_cons_zero, List.getElem_cons_succ, List.setIfInBounds_toArray, List.set_cons_zero, List.set_cons_succ]
    refine G.pure' (i := 20) (v := .pointer (some ⟨p, 1, none⟩)) rfl (by kernel_rfl) (fun _ _ _ h => h) (.inl ⟨rfl, fun w' _ => ?_⟩) (fun _ => hS0) ?_
    · simp [execOp, Act.eval, go_sem]
    simp only [Act.put, List.getElem_toArray, List.getElem_cons_zero, List.getElem_cons_succ, List.setIfInBounds_toArray, List.set_cons_zero, List.set_cons_succ]
    refine G.only' (i := 17) ?r17 rfl ?o17
    case r17 => kernel_rfl
    intro K hK
    refine step_buildT rfl (.tmp 62) rfl ⟨id, tk, ord + 1⟩ ?p17 ?_
    case p17 => simp [Act.eval]
    refine hK _ _ (fun _ => hS1) ?_
    clear hK K
    simp only [Act.put, List.getElem_toArray, List.getElem_cons_zero, List.getElem_cons_succ]
    refine G.only' (i := 18) ?r18 rfl ?o18
    case r18 => kernel_rfl
    intro K hK
    refine step_appT (l := slotL (rid A id) s) (m := [⟨id, tk, ord + 1⟩]) rfl (.tmp 55) (.tmp 63) rfl B (v := .slice As n cc) hown1 hrd1 ?p18 ?q18 (by simp; omega) hBz ?_
    case p18 => simp [Act.eval]
    case q18 => simp [Act.eval]
    intro v5 w5 ho5 hb5 hg5
    have hb5' : Blk w5 p 57 (wcells now V1 (((rid A id).length : Int) + 1) (ord + 1)) := ((show Blk w3.drew p 57 (wcells now V1 (((rid A id).length : Int) + 1) (ord + 1)) from hb3).alloc _).touch (Touch.grown (S := fun k => (Value.slice As n cc).ownBlock = some k) hg5.1 (fun r e => e)) hnp
    obtain ⟨A5, c5, e5, _, _⟩ := ho5.form
    subst e5
    have hS5 : w5.cell? ⟨p, 1 + s, none⟩ = some (.slice As n cc) ∧ w5.cell? ⟨p, 34, none⟩ = some (.int .i64 (ord + 1)) := by refine ⟨?_, ?_⟩; rw [hb5'.cell, wcells_s _ _ _ _ s hs, HEV.out]; rw [hb5'.cell, wcells_34]
    refine hK _ _ (fun _ => hS5) ?_
    clear hK K
    simp only [Act.put, List.getElem_toArray, List.getElem_cons_zero, List.getElem_cons_succ]
    refine G.pure' (i := 21) (v := .pointer (some ⟨p, 1 + s, none⟩)) rfl (by kernel_rfl) (fun _ _ _ h => h) (.inl ⟨rfl, fun w' _ => ?_⟩) (fun _ => hS5) ?_
    · simp [execOp, Act.eval, hs', go_sem]
    simp only [Act.put, List.getElem_toArray, List.getElem_cons_zero, List.getElem_cons_succ, List.setIfInBounds_toArray, List.set_cons_zero, List.set_cons_succ]
    refine G.only' (i := 22) ?r22 rfl ?o22
    case r22 => kernel_rfl
    intro K hK
    refine step_storeS (A := A5) (n := (slotL (rid A id) s ++ [(⟨id, tk, ord + 1⟩ : Tm)]).length) (c := c5) rfl (.tmp 67) (.tmp 64) rfl ?q1 ?q2 hS5.1 (hb5'.free _) ?_
    case q1 => simp [Act.eval]
    case q2 => simp [Act.eval]
    refine hK _ _ (fun e => Bool.noConfusion (show true = false from e)) (G.done (by kernel_rfl) ?_)
    clear hK K
    simp only [Act.put, List.getElem_toArray, List.getElem_cons_zero, List.getElem_cons_succ]
    simp only [Exit.then]
    refine hK3 _ _ ?_
    clear hK3 K3
    have hlast := ho5
    have hb6 : Blk (w5.setCell ⟨p, 1 + s, none⟩ (.slice A5 (slotL (rid A id) s ++ [(⟨id, tk, ord + 1⟩ : Tm)]).length c5)) p 57 (wcells now (fun r => if r = s then (.slice A5 (slotL (rid A id) s ++ [(⟨id, tk, ord + 1⟩ : Tm)]).length c5) else V1 r) (((rid A id).length : Int) + 1) (ord + 1)) := by
      rw [← wcells_sets _ _ _ _ s hs]
      exact hb5'.set (1 + s) _
    have hgx : Touch (fun k => (V1 s).ownBlock = some k) (w3.drew.alloc (.cells #[.int .i64 id, .int .i64 tk, .int .i64 (ord + 1)] 60)) w5 := Touch.grown hg5.1 (fun r e => by rw [HEV.out]; exact e)
    have ht6 : Touch (fun k => k = p ∨ (V1 s).ownBlock = some k) w1 (w5.setCell ⟨p, 1 + s, none⟩ (.slice A5 (slotL (rid A id) s ++ [(⟨id, tk, ord + 1⟩ : Tm)]).length c5)) :=
      ((((ht3.mono (S' := fun k => k = p ∨ (V1 s).ownBlock = some k) (fun k hk => .inl hk)).drew).alloc _).trans (hgx.mono (fun k hk => .inr hk))).trans (Touch.set w5 (p := ⟨p, 1 + s, none⟩) (.inl rfl) _)
    have hown5 : ∀ g, (Value.slice A5 (slotL (rid A id) s ++ [(⟨id, tk, ord + 1⟩ : Tm)]).length c5).ownBlock = some g → (V1 s).ownBlock = some g ∨ w1.heap.size ≤ g := by
      intro g hg
      rcases hg5.2 with e | e
      · exact .inl (by rw [HEV.out, ← e]; exact hg)
      · right
        rw [e] at hg
        injection hg with hg
        have := ht3.size
        rw [← hg]
        simp
        omega
    have hgp : ∀ g, (Value.slice A5 (slotL (rid A id) s ++ [(⟨id, tk, ord + 1⟩ : Tm)]).length c5).ownBlock = some g → g ≠ p := by
      intro g hg e
      rcases hown5 g hg with h | h
      · exact h1.own s hs (by rw [h, e])
      · have := h1.blk.lt
        omega
    have hr6 : OwT (w5.setCell ⟨p, 1 + s, none⟩ (.slice A5 (slotL (rid A id) s ++ [(⟨id, tk, ord + 1⟩ : Tm)]).length c5)) B (.slice A5 (slotL (rid A id) s ++ [(⟨id, tk, ord + 1⟩ : Tm)]).length c5) (slotL (rid A id ++ [⟨id, tk, ord + 1⟩]) s) := by
      rw [slotL_app, slotL_one, if_pos HS.out]
      exact ho5.same fun x hx => Below.heap_setCell w5 ⟨p, 1 + s, none⟩ _ x (hgp x hx)
    have hoth : ∀ r, r ≠ s → slotL (rid A id ++ [⟨id, tk, ord + 1⟩]) r = slotL (rid A id) r := by
      intro r hr
      rw [slotL_app, slotL_one, if_neg (by show ¬ tk % 32 = (r : Int); have := HS.out; omega), List.append_nil]
    have elen : (((rid A id).length : Int) + 1) = ((rid A id ++ [(⟨id, tk, ord + 1⟩ : Tm)]).length : Int) := by simp
    rw [elen] at hb6
    obtain ⟨a1, a2, a3⟩ := h1.put hs ht6 hb6 hr6 hoth hown5
    have hend := WEnd.after ht1 hf1 ⟨_, a1, a2, a3⟩
    clear a1 a2 a3 hr6 hb6 ht6 hgx hlast ho5 hS5 hb5' hb5 hg5 hown1 hrd1 hS0 hS1 cs co hrow hb3 h1 ht1 hf1 ht3 elen
    change Code.wp Try.prog _ _ _ (w5.setCell ⟨p, 1 + s, none⟩ (.slice A5 (slotL (rid A id) s ++ [(⟨id, tk, ord + 1⟩ : Tm)]).length c5))
    generalize w5.setCell ⟨p, 1 + s, none⟩ (.slice A5 (slotL (rid A id) s ++ [(⟨id, tk, ord + 1⟩ : Tm)]).length c5) = w6 at *
    go_wp2
    go_ret
    exact ⟨rfl, hend⟩
  | true =>
    clear q5
    go_upto_region 6 with (fail)
    have hb2 : Blk (w1.setCell ⟨p, 34, none⟩ (.int .i64 (ord + 1))) p 57 (wcells now V1 (rid A id).length (ord + 1)) := by
      rw [← wcells_set34 _ _ _ ord]
      exact h1.blk.set 34 _
    have ht2 : Touch (fun k => k = p) w1 (w1.setCell ⟨p, 34, none⟩ (.int .i64 (ord + 1))) := Touch.set (S := fun k => k = p) w1 (p := ⟨p, 34, none⟩) rfl _
    change Code.wp Try.prog _ _ _ (w1.setCell ⟨p, 34, none⟩ (.int .i64 (ord + 1)))
    generalize w1.setCell ⟨p, 34, none⟩ (.int .i64 (ord + 1)) = w2 at *
    clear c33 c34 f34
    have c33 : w2.cell? ⟨p, 33, none⟩ = some (.int .i64 (rid A id).length) := by rw [hb2.cell, wcells_33]
    have f33 := hb2.free 33
    go_upto_region 7 with (fail)
    rename_i K3 hK3
    have hb3 : Blk (w2.setCell ⟨p, 33, none⟩ (.int .i64 (((rid A id).length : Int) + 1))) p 57 (wcells now V1 (((rid A id).length : Int) + 1) (ord + 1)) := by
      rw [← wcells_set33 _ _ ((rid A id).length : Int)]
      exact hb2.set 33 _
    have ht3 : Touch (fun k => k = p) w1 (w2.setCell ⟨p, 33, none⟩ (.int .i64 (((rid A id).length : Int) + 1))) := ht2.trans (Touch.set (S := fun k => k = p) w2 (p := ⟨p, 33, none⟩) rfl _)
    change Code.wp Try.prog _ _ _ (w2.setCell ⟨p, 33, none⟩ (.int .i64 (((rid A id).length : Int) + 1)))
    generalize w2.setCell ⟨p, 33, none⟩ (.int .i64 (((rid A id).length : Int) + 1)) = w3 at *
    clear c33 f33 hb2 ht2
    have hrow := (h1.row s hs).touch ht3 (fun g hg e => h1.own s hs (by rw [hg, e]))
    have cs : w3.cell? ⟨p, 1 + s, none⟩ = some (V1 s) := by rw [hb3.cell, wcells_s _ _ _ _ s hs]
    have co : w3.cell? ⟨p, 34, none⟩ = some (.int .i64 (ord + 1)) := by rw [hb3.cell, wcells_34]
    obtain ⟨As, cc, eV, _, _⟩ := hrow.form
    have hnp : (V1 s).ownBlock ≠ some p := h1.own s hs
    rw [eV] at cs hrow hnp
    have hls : (slotL (rid A id) s).length ≤ 64 := by have h1 := slotL_len (rid A id) s; have h2 := HL.out; omega
    obtain ⟨n, hn⟩ : ∃ n, n = (slotL (rid A id) s).length := ⟨_, rfl⟩
    rw [← hn] at cs hrow hnp eV
    have HEV := Lib.hid eV
    clear eV
    have hS0 : w3.drew.cell? ⟨p, 1 + s, none⟩ = some (.slice As n cc) ∧ w3.drew.cell? ⟨p, 34, none⟩ = some (.int .i64 (ord + 1)) := ⟨cs, co⟩
    have hS1 : (w3.drew.alloc (.cells #[.int .i64 id, .int .i64 tk, .int .i64 (ord + 1)] 60)).cell? ⟨p, 1 + s, none⟩ = some (.slice As n cc) ∧ (w3.drew.alloc (.cells #[.int .i64 id, .int .i64 tk, .int .i64 (ord + 1)] 60)).cell? ⟨p, 34, none⟩ = some (.int .i64 (ord + 1)) := by
      have hbx : Blk (w3.drew.alloc (.cells #[.int .i64 id, .int .i64 tk, .int .i64 (ord + 1)] 60)) p 57 (wcells now V1 (((rid A id).length : Int) + 1) (ord + 1)) := (show Blk w3.drew p 57 (wcells now V1 (((rid A id).length : Int) + 1) (ord + 1)) from hb3).alloc _
      refine ⟨?_, ?_⟩
      · rw [hbx.cell, wcells_s _ _ _ _ s hs, HEV.out]
      · rw [hbx.cell, wcells_34]
    have hown1 : OwT (w3.drew.alloc (.cells #[.int .i64 id, .int .i64 tk, .int .i64 (ord + 1)] 60)) B (.slice As n cc) (slotL (rid A id) s) := (show OwT w3.drew B (.slice As n cc) (slotL (rid A id) s) from hrow).mono (below_alloc _ _)
    have hrd1 : RdT (w3.drew.alloc (.cells #[.int .i64 id, .int .i64 tk, .int .i64 (ord + 1)] 60)) (.slice (some ⟨w3.drew.heap.size, 0, none⟩) 1 1) [⟨id, tk, ord + 1⟩] := rdT_one (Blk.new w3.drew 60 _ _ rfl)
    have hBz : B ≤ (w3.drew.alloc (.cells #[.int .i64 id, .int .i64 tk, .int .i64 (ord + 1)] 60)).heap.size := by have h1 := h1.base; have h2 := hb3.lt; simp; omega
    refine wp_region_any (by kernel_rfl) (wpAny_of_G (n := 22) (S := fun w' => w'.cell? ⟨p, 1 + s, none⟩ = some (.slice As n cc) ∧ w'.cell? ⟨p, 34, none⟩ = some (.int .i64 (ord + 1))) _ _ _ _ ?_)
    refine G.pure' (i := 0) (v := .pointer (some ⟨p, 0, none⟩)) rfl (by kernel_rfl) (fun _ _ _ h => h) (.inl ⟨rfl, fun w' _ => ?_⟩) (fun _ => hS0) ?_
    · simp [execOp, Act.eval, go_sem]
    simp only [Act.put, List.getElem_toArray, List.getElem_cons_zero, List.setIfInBounds_toArray, List.set_cons_zero, List.set_cons_succ]
    refine G.pure' (i := 1) (v := .int .i64 tk) rfl (by kernel_rfl) (fun _ _ _ h => h) (.inl ⟨rfl, fun w' _ => ?_⟩) (fun _ => hS0) ?_
    · simp [execOp, Act.eval, go_sem]
    simp only [Act.put, List.getElem_toArray, List.getElem_cons_zero, List.getElem_cons_succ, List.setIfInBounds_toArray, List.set_cons_zero, List.set_cons_succ]
    refine G.pure' (i := 2) (v := .int .i64 s) rfl (by kernel_rfl) (fun _ _ _ h => h) (.inl ⟨rfl, fun w' _ => ?_⟩) (fun _ => hS0) ?_
    · simp [execOp, Act.eval, go_sem, etm]
    simp only [Act.put, List.getElem_toArray, List.getElem_cons_zero, List.getElem_cons_succ, List.setIfInBounds_toArray, List.set_cons_zero, List.set_cons_succ]
    refine G.pure' (i := 3) (v := .pointer (some ⟨p, 0, none⟩)) rfl (by kernel_rfl) (fun _ _ _ h => h) (.inl ⟨rfl, fun w' _ => ?_⟩) (fun _ => hS0) ?_
    · simp [execOp, Act.eval, go_sem]
    simp only [Act.put, List.getElem_toArray, List.getElem_cons_zero, List.getElem_cons_succ, List.setIfInBounds_toArray, List.set_cons_zero, List.set_cons_succ]
    refine G.pure' (i := 4) (v := .int .i64 tk) rfl (by kernel_rfl) (fun _ _ _ h => h) (.inl ⟨rfl, fun w' _ => ?_⟩) (fun _ => hS0) ?_
    · simp [execOp, Act.eval, go_sem]
    simp only [Act.put, List.getElem_toArray, List.getElem_cons_zero, List.getElem_cons_succ, List.setIfInBounds_toArray, List.set_cons_zero, List.set_cons_succ]
    refine G.pure' (i := 5) (v := .int .i64 s) rfl (by kernel_rfl) (fun _ _ _ h => h) (.inl ⟨rfl, fun w' _ => ?_⟩) (fun _ => hS0) ?_
    · simp [execOp, Act.eval, go_sem, etm]
    simp only [Act.put, List.getElem_toArray, List.getElem_cons_zero, List.getElem_cons_succ, List.setIfInBounds_toArray, List.set_cons_zero, List.set_cons_succ]
    refine G.pure' (i := 6) (v := .pointer (some ⟨p, 0, none⟩)) rfl (by kernel_rfl) (fun _ _ _ h => h) (.inl ⟨rfl, fun w' _ => ?_⟩) (fun _ => hS0) ?_
    · simp [execOp, Act.eval, go_sem]
    simp only [Act.put, List.getElem_toArray, List.getElem_cons_zero, List.getElem_cons_succ, List.setIfInBounds_toArray, List.set_cons_zero, List.set_cons_succ]
    refine G.pure' (i := 7) (v := .pointer (some ⟨p, 1, none⟩)) rfl (by kernel_rfl) (fun _ _ _ h => h) (.inl ⟨rfl, fun w' _ => ?_⟩) (fun _ => hS0) ?_
    · simp [execOp, Act.eval, go_sem]
    simp only [Act.put, List.getElem_toArray, List.getElem_cons_zero, List.getElem_cons_succ, List.setIfInBounds_toArray, List.set_cons_zero, List.set_cons_succ]
    refine G.pure' (i := 8) (v := .pointer (some ⟨p, 1 + s, none⟩)) rfl (by kernel_rfl) (fun _ _ _ h => h) (.inl ⟨rfl, fun w' _ => ?_⟩) (fun _ => hS0) ?_
    · simp [execOp, Act.eval, hs', go_sem]
    simp only [Act.put, List.getElem_toArray, List.getElem_cons_zero, List.getElem_cons_succ, List.setIfInBounds_toArray, List.set_cons_zero, List.set_cons_succ]
    refine G.load (i := 9) (v := .slice As n cc) rfl (by kernel_rfl) (fun _ _ _ h => h) (.inl ⟨rfl, fun w' hS => ?_⟩) (hS0) ?_
    · simp [execOp, Act.eval, hS, go_sem]
    simp only [Act.put, List.getElem_toArray, List.getElem_cons_zero, List.getElem_cons_succ, List.setIfInBounds_toArray, List.set_cons_zero, List.set_cons_succ]
    refine G.pure' (i := 10) (v := .int .i64 id) rfl (by kernel_rfl) (fun _ _ _ h => h) (.inl ⟨rfl, fun w' _ => ?_⟩) (fun _ => hS0) ?_
    · simp [execOp, Act.eval, go_sem]
    simp only [Act.put, List.getElem_toArray, List.getElem_cons_zero, List.getElem_cons_succ, List.setIfInBounds_toArray, List.set_cons_zero, List.set_cons_succ]
    refine G.pure' (i := 11) (v := .int .i64 tk) rfl (by kernel_rfl) (fun _ _ _ h => h) (.inl ⟨rfl, fun w' _ => ?_⟩) (fun _ => hS0) ?_
    · simp [execOp, Act.eval, go_sem]
    simp only [Act.put, List.getElem_toArray, List.getElem_cons_zero, List.getElem_cons_succ, List.setIfInBounds_toArray, List.set_cons_zero, List.set_cons_succ]
    refine G.pure' (i := 12) (v := .pointer (some ⟨p, 0, none⟩)) rfl (by kernel_rfl) (fun _ _ _ h => h) (.inl ⟨rfl, fun w' _ => ?_⟩) (fun _ => hS0) ?_
    · simp [execOp, Act.eval, go_sem]
    simp only [Act.put, List.getElem_toArray, List.getElem_cons_zero, List.getElem_cons_succ, List.setIfInBounds_toArray, List.set_cons_zero, List.set_cons_succ]
    refine G.pure' (i := 13) (v := .pointer (some ⟨p, 0, none⟩)) rfl (by kernel_rfl) (fun _ _ _ h => h) (.inl ⟨rfl, fun w' _ => ?_⟩) (fun _ => hS0) ?_
    · simp [execOp, Act.eval, go_sem]
    simp only [Act.put, List.getElem_toArray, List.getElem_cons_zero, List.getElem_cons_succ, List.setIfInBounds_toArray, List.set_cons_zero, List.set_cons_succ]
    refine G.pure' (i := 14) (v := .pointer (some ⟨p, 34, none⟩)) rfl (by kernel_rfl) (fun _ _ _ h => h) (.inl ⟨rfl, fun w' _ => ?_⟩) (fun _ => hS0) ?_
    · simp [execOp, Act.eval, go_sem]
    simp only [Act.put, List.getElem_toArray, List.getElem_cons_zero, List.getElem_cons_succ, List.setIfInBounds_toArray, List.set_cons_zero, List.set_cons_succ]
    refine G.load (i := 15) (v := .int .i64 (ord + 1)) rfl (by kernel_rfl) (fun _ _ _ h => h) (.inl ⟨rfl, fun w' hS => ?_⟩) (hS0) ?_
    · simp [execOp, Act.eval, hS, go_sem]
    simp only [Act.put, List.getElem_toArray, List.getElem_cons_zero, List.getElem_cons_succ, List.setIfInBounds_toArray, List.set_cons_zero, List.set_cons_succ]
    refine G.pure' (i := 16) (v := .agg #[.int .i64 id, .int .i64 tk, .int .i64 (ord + 1)]) rfl (by kernel_rfl) (fun _ _ _ h => h) (.inl ⟨rfl, fun w' _ => ?_⟩) (fun _ => hS0) ?_
    · simp [execOp, Act.eval, go_sem]
    simp only [Act.put, List.getElem_toArray, List.getElem_cons_zero, List.getElem_cons_succ, List.setIfInBounds_toArray, List.set_cons_zero, List.set_cons_succ]
    refine G.pure' (i := 19) (v := .pointer (some ⟨p, 0, none⟩)) rfl (by kernel_rfl) (fun _ _ _ h => h) (.inl ⟨rfl, fun w' _ => ?_⟩) (fun _ => hS0) ?_
    · simp [execOp, Act.eval, go_sem]
    simp only [Act.put, List.getElem_toArray, List.getElem_cons_zero, List.getElem_cons_succ, List.setIfInBounds_toArray, List.set_cons_zero, List.set_cons_succ]
    refine G.pure' (i := 20) (v := .pointer (some ⟨p, 1, none⟩)) rfl (by kernel_rfl) (fun _ _ _ h => h) (.inl ⟨rfl, fun w' _ => ?_⟩) (fun _ => hS0) ?_
    · simp [execOp, Act.eval, go_sem]
    simp only [Act.put, List.getElem_toArray, List.getElem_cons_zero, List.getElem_cons_succ, List.setIfInBounds_toArray, List.set_cons_zero, List.set_cons_succ]
    refine G.only' (i := 17) ?r17b rfl ?o17b
    case r17b => kernel_rfl
    intro K hK
    refine step_buildT rfl (.tmp 62) rfl ⟨id, tk, ord + 1⟩ ?p17b ?_
    case p17b => simp [Act.eval]
    refine hK _ _ (fun _ => hS1) ?_
    clear hK K
    simp only [Act.put, List.getElem_toArray, List.getElem_cons_zero, List.getElem_cons_succ]
    refine G.only' (i := 18) ?r18b rfl ?o18b
    case r18b => kernel_rfl
    intro K hK
    refine step_appT (l := slotL (rid A id) s) (m := [⟨id, tk, ord + 1⟩]) rfl (.tmp 55) (.tmp 63) rfl B (v := .slice As n cc) hown1 hrd1 ?p18b ?q18b (by simp; omega) hBz ?_
    case p18b => simp [Act.eval]
    case q18b => simp [Act.eval]
    intro v5 w5 ho5 hb5 hg5
    have hb5' : Blk w5 p 57 (wcells now V1 (((rid A id).length : Int) + 1) (ord + 1)) := ((show Blk w3.drew p 57 (wcells now V1 (((rid A id).length : Int) + 1) (ord + 1)) from hb3).alloc _).touch (Touch.grown (S := fun k => (Value.slice As n cc).ownBlock = some k) hg5.1 (fun r e => e)) hnp
    obtain ⟨A5, c5, e5, _, _⟩ := ho5.form
    subst e5
    have hS5 : w5.cell? ⟨p, 1 + s, none⟩ = some (.slice As n cc) ∧ w5.cell? ⟨p, 34, none⟩ = some (.int .i64 (ord + 1)) := by refine ⟨?_, ?_⟩; rw [hb5'.cell, wcells_s _ _ _ _ s hs, HEV.out]; rw [hb5'.cell, wcells_34]
    refine hK _ _ (fun _ => hS5) ?_
    clear hK K
    simp only [Act.put, List.getElem_toArray, List.getElem_cons_zero, List.getElem_cons_succ]
    refine G.pure' (i := 21) (v := .pointer (some ⟨p, 1 + s, none⟩)) rfl (by kernel_rfl) (fun _ _ _ h => h) (.inl ⟨rfl, fun w' _ => ?_⟩) (fun _ => hS5) ?_
    · simp [execOp, Act.eval, hs', go_sem]
    simp only [Act.put, List.getElem_toArray, List.getElem_cons_zero, List.getElem_cons_succ, List.setIfInBounds_toArray, List.set_cons_zero, List.set_cons_succ]
    refine G.only' (i := 22) ?r22b rfl ?o22b
    case r22b => kernel_rfl
    intro K hK
    refine step_storeS (A := A5) (n := (slotL (rid A id) s ++ [(⟨id, tk, ord + 1⟩ : Tm)]).length) (c := c5) rfl (.tmp 67) (.tmp 64) rfl ?q1b ?q2b hS5.1 (hb5'.free _) ?_
    case q1b => simp [Act.eval]
    case q2b => simp [Act.eval]
    refine hK _ _ (fun e => Bool.noConfusion (show true = false from e)) (G.done (by kernel_rfl) ?_)
    clear hK K
    simp only [Act.put, List.getElem_toArray, List.getElem_cons_zero, List.getElem_cons_succ]
    simp only [Exit.then]
    refine hK3 _ _ ?_
    clear hK3 K3
    have hlast := ho5
    have hb6 : Blk (w5.setCell ⟨p, 1 + s, none⟩ (.slice A5 (slotL (rid A id) s ++ [(⟨id, tk, ord + 1⟩ : Tm)]).length c5)) p 57 (wcells now (fun r => if r = s then (.slice A5 (slotL (rid A id) s ++ [(⟨id, tk, ord + 1⟩ : Tm)]).length c5) else V1 r) (((rid A id).length : Int) + 1) (ord + 1)) := by
      rw [← wcells_sets _ _ _ _ s hs]
      exact hb5'.set (1 + s) _
    have hgx : Touch (fun k => (V1 s).ownBlock = some k) (w3.drew.alloc (.cells #[.int .i64 id, .int .i64 tk, .int .i64 (ord + 1)] 60)) w5 := Touch.grown hg5.1 (fun r e => by rw [HEV.out]; exact e)
    have ht6 : Touch (fun k => k = p ∨ (V1 s).ownBlock = some k) w1 (w5.setCell ⟨p, 1 + s, none⟩ (.slice A5 (slotL (rid A id) s ++ [(⟨id, tk, ord + 1⟩ : Tm)]).length c5)) :=
      ((((ht3.mono (S' := fun k => k = p ∨ (V1 s).ownBlock = some k) (fun k hk => .inl hk)).drew).alloc _).trans (hgx.mono (fun k hk => .inr hk))).trans (Touch.set w5 (p := ⟨p, 1 + s, none⟩) (.inl rfl) _)
    have hown5 : ∀ g, (Value.slice A5 (slotL (rid A id) s ++ [(⟨id, tk, ord + 1⟩ : Tm)]).length c5).ownBlock = some g → (V1 s).ownBlock = some g ∨ w1.heap.size ≤ g := by
      intro g hg
      rcases hg5.2 with e | e
      · exact .inl (by rw [HEV.out, ← e]; exact hg)
      · right
        rw [e] at hg
        injection hg with hg
        have := ht3.size
        rw [← hg]
        simp
        omega
    have hgp : ∀ g, (Value.slice A5 (slotL (rid A id) s ++ [(⟨id, tk, ord + 1⟩ : Tm)]).length c5).ownBlock = some g → g ≠ p := by
      intro g hg e
      rcases hown5 g hg with h | h
      · exact h1.own s hs (by rw [h, e])
      · have := h1.blk.lt
        omega
    have hr6 : OwT (w5.setCell ⟨p, 1 + s, none⟩ (.slice A5 (slotL (rid A id) s ++ [(⟨id, tk, ord + 1⟩ : Tm)]).length c5)) B (.slice A5 (slotL (rid A id) s ++ [(⟨id, tk, ord + 1⟩ : Tm)]).length c5) (slotL (rid A id ++ [⟨id, tk, ord + 1⟩]) s) := by
      rw [slotL_app, slotL_one, if_pos HS.out]
      exact ho5.same fun x hx => Below.heap_setCell w5 ⟨p, 1 + s, none⟩ _ x (hgp x hx)
    have hoth : ∀ r, r ≠ s → slotL (rid A id ++ [⟨id, tk, ord + 1⟩]) r = slotL (rid A id) r := by
      intro r hr
      rw [slotL_app, slotL_one, if_neg (by show ¬ tk % 32 = (r : Int); have := HS.out; omega), List.append_nil]
    have elen : (((rid A id).length : Int) + 1) = ((rid A id ++ [(⟨id, tk, ord + 1⟩ : Tm)]).length : Int) := by simp
    rw [elen] at hb6
    obtain ⟨a1, a2, a3⟩ := h1.put hs ht6 hb6 hr6 hoth hown5
    have hend := WEnd.after ht1 hf1 ⟨_, a1, a2, a3⟩
    clear a1 a2 a3 hr6 hb6 ht6 hgx hlast ho5 hS5 hb5' hb5 hg5 hown1 hrd1 hS0 hS1 cs co hrow hb3 h1 ht1 hf1 ht3 elen
    change Code.wp Try.prog _ _ _ (w5.setCell ⟨p, 1 + s, none⟩ (.slice A5 (slotL (rid A id) s ++ [(⟨id, tk, ord + 1⟩ : Tm)]).length c5))
    generalize w5.setCell ⟨p, 1 + s, none⟩ (.slice A5 (slotL (rid A id) s ++ [(⟨id, tk, ord + 1⟩ : Tm)]).length c5) = w6 at *
    go_wp2
    go_ret
    exact ⟨rfl, hend⟩
/-- .. where it isn't. -/
theorem tarm_arg {w : World} {B p : Nat} {V : Nat → Value} {now : Int} {A : List Tm} {ord : Int} (h : WAt w B p V now A ord) (id tk : Int) (hno : id < 0 ∨ tk ≤ now ∨ 1099511627776 < tk) :
    Calls Try.prog 10 #[.pointer (some ⟨p, 0, none⟩), .int .i64 id, .int .i64 tk] w fun e w' => e = .returned (.int .i64 1) ∧ w = w' := by
  have c0 := h.c0
  by_cases h1 : id < 0
  · have q1 : decide (id < 0) = true := by simpa using h1
    clear hno h1 h
    go_enter Try.func10, Try.ntmps10
    go_wp2
    go_ret
    exact ⟨rfl, rfl⟩
  have q1 : decide (id < 0) = false := by simpa using h1
  by_cases h2 : tk ≤ now
  · have q2 : decide (tk ≤ now) = true := by simpa using h2
    clear hno h1 h2 h
    go_enter Try.func10, Try.ntmps10
    go_wp2
    go_ret
    exact ⟨rfl, rfl⟩
  have q2 : decide (tk ≤ now) = false := by simpa using h2
  have q3 : decide (1099511627776 < tk) = true := by simp; omega
  clear hno h1 h2 h
  go_enter Try.func10, Try.ntmps10
  go_wp2
  go_ret
  exact ⟨rfl, rfl⟩
theorem not_has {A : List Tm} {id : Int} (h : has A id = false) : ∀ t ∈ A, t.id ≠ id := by
  simp only [has, List.any_eq_false, beq_iff_eq] at h
  exact h
set_option maxHeartbeats 4000000 in
theorem tarm_many {w : World} {B p : Nat} {V : Nat → Value} {now : Int} {A : List Tm} {ord : Int} (h : WAt w B p V now A ord) (hu : Uniq A) (id tk : Int) (k1 : 0 ≤ id) (k2 : now < tk) (k3 : tk ≤ 1099511627776) (hx : has A id = false) (h64 : A.length = 64) :
    Calls Try.prog 10 #[.pointer (some ⟨p, 0, none⟩), .int .i64 id, .int .i64 tk] w fun e w' => e = .returned (.int .i64 6) ∧ WEnd w B p V now A ord w' := by
  have q1 : decide (id < 0) = false := by simpa using k1
  have q2 : decide (tk ≤ now) = false := by simpa using k2
  have q3 : decide (1099511627776 < tk) = false := by simpa using k3
  have c0 := h.c0
  have hdr := tdrop h hu (by omega) id
  rw [hx, rid_none (not_has hx)] at hdr
  have H64 := Lib.hid h64
  clear k1 k2 k3 hx h64
  go_enter Try.func10, Try.ntmps10
  go_wp2_with fail
  refine hdr.mono ?_
  rintro e w1 ⟨rfl, V1, h1, ht1, hf1⟩
  have c33 := h1.c33
  rw [H64.out] at c33
  clear c0 hdr
  go_wp2
  go_ret
  exact ⟨rfl, V1, h1, ht1, hf1⟩
theorem tarm {w : World} {B p : Nat} {V : Nat → Value} {now : Int} {A : List Tm} {ord : Int} (h : WAt w B p V now A ord) (hu : Uniq A) (h64 : A.length ≤ 64) (hnow : 0 ≤ now) (ho0 : 0 ≤ ord) (ho1 : ord ≤ 4611686018427387904) (id tk : Int) :
    Calls Try.prog 10 #[.pointer (some ⟨p, 0, none⟩), .int .i64 id, .int .i64 tk] w fun e w' => e = .returned (.int .i64 (armE now A id tk)) ∧ WEnd w B p V now (armL now A ord id tk) (armO now A ord id tk) w' := by
  by_cases hno : id < 0 ∨ tk ≤ now ∨ 1099511627776 < tk
  · have e : armE now A id tk = 1 := by unfold armE; rw [if_pos hno]
    rw [show armL now A ord id tk = A by unfold armL; rw [e]; rfl, show armO now A ord id tk = ord by unfold armO; rw [e]; rfl, e]
    exact (tarm_arg h id tk hno).mono fun e w' ⟨h1, h2⟩ => ⟨h1, by rw [← h2]; exact .below h (Below.refl _ _)⟩
  · by_cases hm : has A id = false ∧ A.length = 64
    · have e : armE now A id tk = 6 := by unfold armE; rw [if_neg hno, if_pos hm]
      rw [show armL now A ord id tk = A by unfold armL; rw [e]; rfl, show armO now A ord id tk = ord by unfold armO; rw [e]; rfl, e]
      exact tarm_many h hu id tk (by omega) (by omega) (by omega) hm.1 hm.2
    · have e : armE now A id tk = 0 := by unfold armE; rw [if_neg hno, if_neg hm]
      rw [show armL now A ord id tk = rid A id ++ [⟨id, tk, ord + 1⟩] by unfold armL; rw [e]; rfl, show armO now A ord id tk = ord + 1 by unfold armO; rw [e]; rfl, e]
      refine tarm_ok h hu h64 hnow ho0 ho1 id tk (by omega) (by omega) (by omega) ?_
      by_cases hx : has A id = false
      · exact .inr (by have : ¬ A.length = 64 := fun h => hm ⟨hx, h⟩; omega)
      · exact .inl (by simpa using hx)
end Go.Proofs.Ytcnfcohfogbfhaa
