/- tcp.opts: the options of a segment, told one by one. -/
import Derived.Test.YtbhdojpgjmbogaaSeq
import Derived.Sort.QuietIn
namespace Go.Proofs.Ytbhdojpgjmbogaa
open Go.RowKit Go.Shelf
attribute [local go_sem] Oper.semAt_some
/-- The options that stand in a row; an empty one: they are not right from there on. -/
def optsOf (b : List UInt8) : List (List UInt8) :=
  match b with
  | [] => []
  | x :: t =>
    if x.toNat = 0 then [] else if x.toNat = 1 then [x] :: optsOf t else
    match t with
    | [] => [[]]
    | s :: t' => if _h : s.toNat < 2 ∨ t'.length + 2 < s.toNat then [[]] else (x :: s :: t').take s.toNat :: optsOf ((x :: s :: t').drop s.toNat)
termination_by b.length
decreasing_by all_goals first | (simp; done) | (simp; omega)
theorem optsOf_nil : optsOf [] = [] := by rw [optsOf]
theorem optsOf_end {x : UInt8} {t : List UInt8} (h : x.toNat = 0) : optsOf (x :: t) = [] := by rw [optsOf.eq_def]; dsimp only; rw [if_pos h]
theorem optsOf_one {x : UInt8} {t : List UInt8} (h : x.toNat = 1) : optsOf (x :: t) = [x] :: optsOf t := by rw [optsOf.eq_def]; dsimp only; rw [if_neg (by omega), if_pos h]
theorem optsOf_short {x : UInt8} (h : 2 ≤ x.toNat) : optsOf [x] = [[]] := by rw [optsOf.eq_def]; dsimp only; rw [if_neg (by omega), if_neg (by omega)]
theorem optsOf_bad {x s : UInt8} {t : List UInt8} (h : 2 ≤ x.toNat) (hs : s.toNat < 2 ∨ t.length + 2 < s.toNat) : optsOf (x :: s :: t) = [[]] := by rw [optsOf.eq_def]; dsimp only; rw [if_neg (by omega), if_neg (by omega)]; simp only [dif_pos hs]
theorem optsOf_more {x s : UInt8} {t : List UInt8} (h : 2 ≤ x.toNat) (h2 : 2 ≤ s.toNat) (h3 : s.toNat ≤ t.length + 2) : optsOf (x :: s :: t) = (x :: s :: t).take s.toNat :: optsOf ((x :: s :: t).drop s.toNat) := by
  rw [optsOf.eq_def]; dsimp only; rw [if_neg (by omega), if_neg (by omega)]
  simp only [dif_neg (show ¬ (s.toNat < 2 ∨ t.length + 2 < s.toNat) by omega)]
/-- What waits in the variable that was caught. -/
def lenAt (w : World) (C : Nat) : Nat := match w.cell? ⟨C, 0, none⟩ with | some (.slice _ n _) => n | _ => 0
theorem lenAt_of {w : World} {C n c : Nat} {A : Option Addr} (h : w.cell? ⟨C, 0, none⟩ = some (.slice A n c)) : lenAt w C = n := by simp [lenAt, h]
/-- What a round keeps for the teller of options. -/
def OKp (n₀ C : Nat) (W W' : World) : Prop := W.heap.size ≤ W'.heap.size ∧ W'.heap[C]? = W.heap[C]? ∧ ∀ k, k < n₀ → W'.heap[k]? = W.heap[k]?
theorem OKp.refl (n₀ C : Nat) (W : World) : OKp n₀ C W W := ⟨Nat.le_refl _, rfl, fun _ _ => rfl⟩
theorem OKp.trans {n₀ C : Nat} {A B D : World} (h : OKp n₀ C A B) (k : OKp n₀ C B D) : OKp n₀ C A D := ⟨Nat.le_trans h.1 k.1, k.2.1.trans h.2.1, fun i hi => (k.2.2 i hi).trans (h.2.2 i hi)⟩
/-- An option as it is told: its value, and what it reads as. -/
abbrev Opt : Type := Value × List UInt8
/-- What the teller of options leaves. -/
def OpEnd (J Jx : List Opt → World → Prop) (b : List UInt8) (e : Ending) (W' : World) : Prop :=
  (∃ v, e = .returned v) ∧ ((∃ xs : List Opt, xs.map Prod.snd = optsOf b ∧ J xs W') ∨ (∃ pre : List Opt, pre.map Prod.snd <+: optsOf b ∧ Jx pre W'))
theorem Rd.old {w w' : World} {v : Value} {l : List UInt8} (h : Rd w v l) (hs : w.heap.size ≤ w'.heap.size) (hb : ∀ k, k < w.heap.size → w'.heap[k]? = w.heap[k]?) : Rd w' v l := by
  obtain ⟨A, c, e, h1, h2, h3⟩ := h
  exact ⟨A, c, e, h1, h2, h3.same hs fun ad _ hlt => hb _ hlt⟩
theorem at_slotIn {F : Fence} {k : Nat} {P : Program} {ops : Array Oper} {rest : List Oper} {op : Op} {ty : TypeId} {pos : String} {af : Array Edge} {g : Option (Nat × Bool)} {a : Act} {Q : Exit → Act → World → Prop} {w : World} (n : Nat)
    (h : wpListIn F k P ops Q (⟨some n, op, ty, pos, af, g⟩ :: rest) a w) : wpListIn F k P ops Q (⟨some n, op, ty, pos, af, g⟩ :: rest) a w := h
theorem drop_lt {l m : List UInt8} {k : Nat} (h : m = (l.take l.length).drop k) (hk : 1 ≤ k) (hl : 1 ≤ l.length) : m.length < l.length := by rw [h]; simp; omega
set_option maxRecDepth 100000 in
set_option maxHeartbeats 4000000 in
theorem opts1_in (n : Nat) (hn : 1 ≤ n) (l C : Nat) (b : List UInt8) (J Jx : List Opt → World → Prop) (Wd : World) (hC : Wd.heap.size ≤ C)
    (hJC : ∀ pre W u, J pre W → J pre (W.setCell ⟨C, 0, none⟩ u)) (hJD : ∀ pre W k, J pre W → J pre (W.drewN k))
    (hY : ∀ pre (x : Opt) W, J pre W → Rd Wd x.1 x.2 ∧ x.2 ∈ optsOf b → YieldAt Fence.wide (n - 1) Try.prog l #[x.1] W fun e W' =>
      (e = .returned (.bool true) ∧ J (pre ++ [x]) W' ∧ OKp Wd.heap.size C W W') ∨ (e = .returned (.bool false) ∧ Jx (pre ++ [x]) W'))
    (W : World) (v : Value) (hc : Blk W C 24 #[v]) (hv : Rd Wd v b) (hs : Wd.heap.size ≤ W.heap.size) (hold : ∀ k, k < Wd.heap.size → W.heap[k]? = Wd.heap[k]?) (h0 : J [] W) :
    CallsIn Fence.wide n Try.prog 88 #[.func (.yield l) #[] #[], .pointer (some ⟨C, 0, none⟩)] W (OpEnd J Jx b) := by
  refine callsIn_of_wp Try.func88 rfl trivial ?_ rfl
  simp only [Try.ntmps88, List.size_toArray, List.length_cons, List.length_nil, Nat.reduceAdd, Nat.reduceSub, Array.replicate_succ, Array.replicate_zero, List.push_toArray, List.append_toArray, List.nil_append, List.cons_append]
  have hinv0 : ∃ (pre : List Opt) (rest : List UInt8) (v : Value), J pre W ∧ Blk W C 24 #[v] ∧ Rd Wd v rest ∧ optsOf b = pre.map Prod.snd ++ optsOf rest ∧ Wd.heap.size ≤ W.heap.size ∧ ∀ k, k < Wd.heap.size → W.heap[k]? = Wd.heap[k]? := ⟨[], b, v, h0, hc, hv, rfl, hs, hold⟩
  clear hc hv hs hold h0
  refine wpIn_scope ?_
  gi_wp2_with (with_reducible apply wpIn_label)
  gi_loopw [3] (fun _ wr => ∃ (pre : List Opt) (rest : List UInt8) (v : Value), J pre wr ∧ Blk wr C 24 #[v] ∧ Rd Wd v rest ∧ optsOf b = pre.map Prod.snd ++ optsOf rest ∧ Wd.heap.size ≤ wr.heap.size ∧ ∀ k, k < Wd.heap.size → wr.heap[k]? = Wd.heap[k]?) (fun _ wr => lenAt wr C)
  case atStart => exact hinv0
  case round =>
    obtain ⟨pre, rest, v, hJ, hcb, hrd, hopt, hsz, hold⟩ := hrel
    clear hinv0
    have hr := hrd.old hsz hold
    have hC0 := hcb.cell 0
    have hCf := hcb.free 0
    simp only [List.getElem?_toArray, List.getElem?_cons_zero] at hC0
    cases rest with
    | nil =>
      obtain ⟨A, c, rfl, hc1, hc2⟩ := hrd.form
      rw [optsOf_nil, List.append_nil] at hopt
      have HO := Lib.hid hopt
      clear hY hopt
      gi_wp2
      go_end0
      exact ⟨⟨_, rfl⟩, .inl ⟨pre, HO.out.symm, hJ⟩⟩
    | cons x t =>
      obtain ⟨A, c, rfl, hc1, hc2⟩ := hrd.form
      obtain ⟨bb, oo, rfl, hbl, hcs⟩ := hr.at_ 0 (by simp)
      have d0 := hcs 0 (by simp)
      simp only [Nat.add_zero, List.getElem_cons_zero] at d0
      have hx := UInt8.toNat_lt x
      obtain ⟨m, hm⟩ : ∃ m, m = (x :: t).length := ⟨_, rfl⟩
      have Hcs := Lib.hid hcs
      clear hcs
      rw [← hm] at hC0 hc1 hrd hr hcb
      have hm1 : 1 ≤ m := by rw [hm]; simp
      have Hm := Lib.hid hm
      have HO := Lib.hid hopt
      clear hm hopt
      by_cases x0 : x.toNat = 0
      · have g0 : ((x.toNat : Int) == 0) = true := by simpa using x0
        clear hY
        gi_wp2
        (try rw [Exit.noGoto_normal])
        go_end0
        exact ⟨⟨_, rfl⟩, .inl ⟨pre, by rw [HO.out, optsOf_end x0]; simp, hJ⟩⟩
      · have g0 : ((x.toNat : Int) == 0) = false := by simpa using x0
        by_cases x1 : x.toNat = 1
        · have g1 : ((x.toNat : Int) == 1) = true := by simp; omega
          gi_wp2_with ((with_reducible refine at_slotIn 45 ?_); refine wpListIn_slice rfl (.tmp 43) none (some (.tmp 44)) rfl hrd rfl 0 1 IsBound.no (IsBound.yes rfl rfl) (by omega) (by omega) (by rw [← Hm.out]; omega) ?_; intro o Ao co hmo ho1 ho2 ho3 ho4 hro'; obtain ⟨fn, tmps, assign, body, hy, hR⟩ := hY pre (.slice Ao o.length co, o) wr hJ ⟨hro', by rw [HO.out, optsOf_one x1]; simp [hmo.out]⟩; clear hY)
          refine hR.mono ?_
          rintro e W3 (⟨rfl, hJ3, hk3⟩ | ⟨rfl, hJx3⟩)
          · have hcb3 : Blk W3 C 24 #[.slice (some ⟨bb, oo, none⟩) m c] := hk3.2.1.trans hcb
            have e0 := hcb3.cell 0
            have ef := hcb3.free 0
            simp only [List.getElem?_toArray, List.getElem?_cons_zero] at e0
            gi_wp2_with ((with_reducible refine at_slotIn 50 ?_); refine wpListIn_slice rfl (.tmp 48) (some (.tmp 49)) none rfl hrd rfl 1 m (IsBound.yes rfl rfl) (by rw [Hm.out]; exact IsBound.no) (by omega) (by omega) (by rw [Hm.out]; exact Int.le_refl _) ?_; intro p Ap cp hmp hp1 hp2 hp3 hp4 hrp)
            have hZ := hcb3.set 0 (.slice Ap p.length cp)
            have hpe : p = t := by rw [hmp.out, Hm.out]; simp
            have hoe : o = [x] := by rw [hmo.out]; simp
            rw [optsOf_one x1] at HO
            go_roundw
            case rel => exact ⟨pre ++ [(.slice Ao o.length co, o)], p, _, hJC _ _ _ hJ3, by simpa using hZ, hrp, by rw [HO.out, hpe, hoe]; simp, by simpa using Nat.le_trans hsz hk3.1, fun k hk => (Below.heap_setCell _ _ _ _ (by show k ≠ C; omega)).trans ((hk3.2.2 k hk).trans (hold k hk))⟩
            case measure =>
              have q1 := hZ.cell 0
              have q2 := hcb.cell 0
              simp at q1 q2
              rw [lenAt_of q1, lenAt_of q2]
              omega
          · gi_wp2
            (try rw [Exit.noGoto_normal])
            go_end0
            exact ⟨⟨_, rfl⟩, .inr ⟨_, by rw [HO.out, optsOf_one x1, List.map_append]; simp [hmo.out], hJx3⟩⟩
        · have g1 : ((x.toNat : Int) == 1) = false := by simp; omega
          have hx2 : 2 ≤ x.toNat := by omega
          cases t with
          | nil =>
            have hm2 : m = 1 := by rw [Hm.out]; rfl
            subst hm2
            gi_wp2_with fail
            gi_quiet (fail)
            obtain ⟨fn, tmps, assign, body, hy, hR⟩ := hY pre (.slice none 0 0, []) _ (hJD _ _ nq hJ) ⟨Rd.nil _, by rw [HO.out, optsOf_short hx2]; simp⟩
            clear hY
            gi_wp2
            refine hR.mono ?_
            rintro e W3 (⟨rfl, hJ3, hk3⟩ | ⟨rfl, hJx3⟩)
            · gi_wp2
              (try rw [Exit.noGoto_normal])
              go_end0
              exact ⟨⟨_, rfl⟩, .inl ⟨_, by rw [HO.out, optsOf_short hx2, List.map_append]; rfl, hJ3⟩⟩
            · gi_wp2
              (try rw [Exit.noGoto_normal])
              go_end0
              exact ⟨⟨_, rfl⟩, .inr ⟨_, by rw [HO.out, optsOf_short hx2, List.map_append]; exact List.prefix_refl _, hJx3⟩⟩
          | cons s t =>
            have hst := Hcs.out 1 (by simp)
            simp only [List.getElem_cons_succ, List.getElem_cons_zero] at hst
            have hmt : m = t.length + 2 := by rw [Hm.out]; rfl
            have Hmt := Lib.hid hmt
            have hm2 : (2 : Int) ≤ (m : Int) := by omega
            have i1 : (1 : Int) < (m : Int) := by omega
            have gl : decide ((m : Int) < 2) = false := by simp; omega
            clear hmt
            have hs := UInt8.toNat_lt s
            by_cases hbad : s.toNat < 2
            · have g2 : decide ((s.toNat : Int) < 2) = true := by simp; omega
              gi_wp2_with fail
              gi_quiet (fail)
              obtain ⟨fn, tmps, assign, body, hy, hR⟩ := hY pre (.slice none 0 0, []) _ (hJD _ _ nq hJ) ⟨Rd.nil _, by rw [HO.out, optsOf_bad hx2 (.inl hbad)]; simp⟩
              clear hY
              gi_wp2
              refine hR.mono ?_
              rintro e W3 (⟨rfl, hJ3, hk3⟩ | ⟨rfl, hJx3⟩)
              · gi_wp2
                (try rw [Exit.noGoto_normal])
                go_end0
                exact ⟨⟨_, rfl⟩, .inl ⟨_, by rw [HO.out, optsOf_bad hx2 (.inl hbad), List.map_append]; rfl, hJ3⟩⟩
              · gi_wp2
                (try rw [Exit.noGoto_normal])
                go_end0
                exact ⟨⟨_, rfl⟩, .inr ⟨_, by rw [HO.out, optsOf_bad hx2 (.inl hbad), List.map_append]; exact List.prefix_refl _, hJx3⟩⟩
            · have g2 : decide ((s.toNat : Int) < 2) = false := by simp; omega
              by_cases hbad2 : m < s.toNat
              · have g3 : decide (m < s.toNat) = true := by simpa using hbad2
                have hb2 : s.toNat < 2 ∨ t.length + 2 < s.toNat := .inr (by rw [← Hmt.out]; exact hbad2)
                clear hbad hbad2
                gi_wp2_with fail
                gi_quiet (fail)
                obtain ⟨fn, tmps, assign, body, hy, hR⟩ := hY pre (.slice none 0 0, []) _ (hJD _ _ nq hJ) ⟨Rd.nil _, by rw [HO.out, optsOf_bad hx2 hb2]; simp⟩
                clear hY
                gi_wp2
                refine hR.mono ?_
                rintro e W3 (⟨rfl, hJ3, hk3⟩ | ⟨rfl, hJx3⟩)
                · gi_wp2
                  (try rw [Exit.noGoto_normal])
                  go_end0
                  exact ⟨⟨_, rfl⟩, .inl ⟨_, by rw [HO.out, optsOf_bad hx2 hb2, List.map_append]; rfl, hJ3⟩⟩
                · gi_wp2
                  (try rw [Exit.noGoto_normal])
                  go_end0
                  exact ⟨⟨_, rfl⟩, .inr ⟨_, by rw [HO.out, optsOf_bad hx2 hb2, List.map_append]; exact List.prefix_refl _, hJx3⟩⟩
              · have g3 : decide (m < s.toNat) = false := by simpa using hbad2
                have hs2 : (2 : Int) ≤ (s.toNat : Int) := by omega
                have hs3 : (s.toNat : Int) ≤ (m : Int) := by omega
                have hopt2 := optsOf_more (x := x) (s := s) (t := t) hx2 (by omega) (by rw [← Hmt.out]; omega)
                have HO2 := Lib.hid hopt2
                clear hbad hbad2 hopt2
                gi_wp2_with fail
                gi_quiet (fail)
                have hJ' := hJD _ _ nq hJ
                gi_wp2_with ((with_reducible refine at_slotIn 45 ?_); refine wpListIn_slice rfl (.tmp 43) none (some (.tmp 44)) rfl hrd rfl 0 (s.toNat : Int) IsBound.no (IsBound.yes rfl rfl) (by omega) (by omega) (by rw [← Hm.out]; omega) ?_; intro o Ao co hmo ho1 ho2 ho3 ho4 hro'; obtain ⟨fn, tmps, assign, body, hy, hR⟩ := hY pre (.slice Ao o.length co, o) _ hJ' ⟨hro', by rw [HO.out, HO2.out]; simp [hmo.out]⟩; clear hY)
                refine hR.mono ?_
                rintro e W3 (⟨rfl, hJ3, hk3⟩ | ⟨rfl, hJx3⟩)
                · have hcb3 : Blk W3 C 24 #[.slice (some ⟨bb, oo, none⟩) m c] := hk3.2.1.trans hcb
                  have e0 := hcb3.cell 0
                  have ef := hcb3.free 0
                  simp only [List.getElem?_toArray, List.getElem?_cons_zero] at e0
                  gi_wp2_with ((with_reducible refine at_slotIn 50 ?_); refine wpListIn_slice rfl (.tmp 48) (some (.tmp 49)) none rfl hrd rfl (s.toNat : Int) m (IsBound.yes rfl rfl) (by rw [Hm.out]; exact IsBound.no) (by omega) (by omega) (by rw [Hm.out]; exact Int.le_refl _) ?_; intro p Ap cp hmp hp1 hp2 hp3 hp4 hrp)
                  have hZ := hcb3.set 0 (.slice Ap p.length cp)
                  have hpe : p = (x :: s :: t).drop s.toNat := by rw [hmp.out, Int.toNat_natCast, Int.toNat_natCast, List.take_of_length_le (by rw [← Hm.out]; exact Nat.le_refl _)]
                  have hoe : o = (x :: s :: t).take s.toNat := by rw [hmo.out]; simp
                  go_roundw
                  case rel => exact ⟨pre ++ [(.slice Ao o.length co, o)], p, _, hJC _ _ _ hJ3, by simpa using hZ, hrp, by rw [HO.out, HO2.out, hpe, hoe]; simp, by simpa using Nat.le_trans hsz hk3.1, fun k hk => (Below.heap_setCell _ _ _ _ (by show k ≠ C; omega)).trans ((hk3.2.2 k hk).trans (hold k hk))⟩
                  case measure =>
                    have q1 := hZ.cell 0
                    have q2 := hcb.cell 0
                    simp at q1 q2
                    rw [lenAt_of q1, lenAt_of q2]
                    omega
                · gi_wp2
                  (try rw [Exit.noGoto_normal])
                  go_end0
                  exact ⟨⟨_, rfl⟩, .inr ⟨_, by rw [HO.out, HO2.out, List.map_append]; simp [hmo.out], hJx3⟩⟩
/-- The teller of options, ready to be asked. -/
theorem opts_cap (n : Nat) (hn : 1 ≤ n) (C : Nat) (Wd w : World) (v : Value) (b : List UInt8) (hC : Wd.heap.size ≤ C) (hcb : Blk w C 24 #[v]) (hv : Rd Wd v b) (hs : Wd.heap.size ≤ w.heap.size) (hold : ∀ k, k < Wd.heap.size → w.heap[k]? = Wd.heap[k]?) :
    SeqCap Fence.wide n Try.prog 88 #[.pointer (some ⟨C, 0, none⟩)] (fun x : Opt => #[x.1]) (fun x => Rd Wd x.1 x.2 ∧ x.2 ∈ optsOf b) (OKp Wd.heap.size C) (fun xs => xs.map Prod.snd = optsOf b) (fun pre => pre.map Prod.snd <+: optsOf b) C w :=
  fun l J Jx W _ hsz hW hJC hJD hY h0 => opts1_in n hn l C b J Jx Wd hC hJC hJD hY W v ((hW C hcb.lt).trans hcb) hv (Nat.le_trans hs hsz) (fun k hk => (hW k (by omega)).trans (hold k hk)) h0
set_option maxHeartbeats 400000 in
theorem topts (A : Option Addr) (m c : Nat) (w : World) :
    Calls Try.prog 83 #[.slice A m c] w fun e w' => e = .returned (.func (.func 88) #[] #[.pointer (some ⟨w.heap.size, 0, none⟩)]) ∧ w.alloc (.cells #[.slice A m c] 24) = w' := by
  go_enter Try.func83, Try.ntmps83
  go_wp2
  go_ret
  exact ⟨rfl, rfl⟩
end Go.Proofs.Ytbhdojpgjmbogaa
