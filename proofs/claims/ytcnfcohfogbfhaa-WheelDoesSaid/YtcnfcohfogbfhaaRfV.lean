/- The reference's wheel: Advance. -/
import Derived.Test.YtcnfcohfogbfhaaRfA
import Derived.Test.YtcnfcohfogbfhaaWSteps
namespace Go.Proofs.Ytcnfcohfogbfhaa
open Go.RowKit Go.Shelf
theorem erase_perm {α : Type} : ∀ (l : List α) (k : Nat) (hk : k < l.length), ([l[k]] ++ l.eraseIdx k).Perm l
  | _ :: _, 0, _ => by simp
  | x :: l, k + 1, hk => by
    have ih := erase_perm l k (by simpa using hk)
    simp only [List.getElem_cons_succ, List.eraseIdx_cons_succ, List.singleton_append] at ih ⊢
    exact (List.Perm.swap x _ _).trans (List.Perm.cons x ih)
/-- How many a slice has. -/
def lenV (v : Value) : Nat := match v with | .slice _ n _ => n | _ => 0
/-- In the middle of it: O are out, C are left. -/
structure RAdv (A : List Tm) (tk : Int) (O C : List Tm) : Prop where
  perm : (O ++ C).Perm A
  sub : C.Sublist A
  due : ∀ t ∈ O, t.due ≤ tk
  srt : O.Pairwise fun x y => ¬ ltT y x
  ahead : ∀ x ∈ O, ∀ y ∈ C, ¬ ltT y x
theorem RAdv.start (A : List Tm) (tk : Int) : RAdv A tk [] A := ⟨List.Perm.refl _, List.Sublist.refl _, by simp, List.Pairwise.nil, by simp⟩
theorem RAdv.step {now ord tk : Int} {A O C : List Tm} (ok : WOk now A ord) (h : RAdv A tk O C) (k : Nat) (hk : k < C.length) (hd : C[k].due ≤ tk) (hmin : ∀ t ∈ C, C[k].due ≤ t.due) (hfst : ∀ j (hj : j < C.length), j < k → C[j].due ≠ C[k].due) :
    RAdv A tk (O ++ [C[k]]) (rid C C[k].id) := by
  have hu : Uniq C := ok.uniq.sub h.sub
  have hinc : C.Pairwise fun x y => x.ord < y.ord := ok.inc.sublist h.sub
  have e : rid C C[k].id = C.eraseIdx k := rid_erase hu k hk
  refine ⟨?_, (List.filter_sublist).trans h.sub, ?_, ?_, ?_⟩
  · rw [e, List.append_assoc]
    exact (List.Perm.append_left O (erase_perm C k hk)).trans h.perm
  · intro t ht
    rcases List.mem_append.1 ht with ht | ht
    · exact h.due t ht
    · simp only [List.mem_cons, List.not_mem_nil, or_false] at ht
      rw [ht]; exact hd
  · rw [List.pairwise_append]
    refine ⟨h.srt, List.pairwise_singleton _ _, fun x hx y hy => ?_⟩
    simp only [List.mem_cons, List.not_mem_nil, or_false] at hy
    rw [hy]
    exact h.ahead x hx _ (List.getElem_mem hk)
  · intro x hx y hy
    have hyC : y ∈ C := (List.mem_filter.1 hy).1
    rcases List.mem_append.1 hx with hx | hx
    · exact h.ahead x hx y hyC
    · simp only [List.mem_cons, List.not_mem_nil, or_false] at hx
      subst hx
      obtain ⟨j, hj, rfl⟩ := List.getElem_of_mem hyC
      have h1 := hmin _ hyC
      unfold ltT
      intro h2
      rcases h2 with h2 | ⟨h2, h3⟩
      · omega
      · have h4 : ¬ j < k := fun hjk => hfst j hj hjk h2
        by_cases h5 : j = k
        · subst h5
          omega
        · have := List.pairwise_iff_getElem.1 hinc k j hk hj (by omega)
          omega
theorem RAdv.len {A O C : List Tm} {tk : Int} (h : RAdv A tk O C) : O.length + C.length = A.length := by rw [← h.perm.length_eq, List.length_append]
theorem RAdv.fin {A O C : List Tm} {tk : Int} (h : RAdv A tk O C) (hC : ∀ t ∈ C, tk < t.due) : O.Perm (A.filter fun t => decide (t.due ≤ tk)) ∧ C = stL A tk := by
  constructor
  · have h1 := h.perm.filter (fun t => decide (t.due ≤ tk))
    rw [List.filter_append, List.filter_eq_self.2 (fun t ht => by simpa using h.due t ht), List.filter_eq_nil_iff.2 (fun t ht => by have := hC t ht; simp; omega), List.append_nil] at h1
    exact h1
  · have h1 := h.perm.filter (fun t => decide (tk < t.due))
    have h2 := h.sub.filter (fun t => decide (tk < t.due))
    rw [List.filter_append, List.filter_eq_nil_iff.2 (fun t ht => by have := h.due t ht; simp; omega), List.nil_append] at h1
    have h3 := h2.eq_of_length h1.length_eq
    rw [List.filter_eq_self.2 (fun t ht => by simpa using hC t ht)] at h3
    exact h3
/-- How it ends. -/
def RAdvEnd (w : World) (B q : Nat) (rv : Value) (A : List Tm) (tk : Int) (e : Ending) (w' : World) : Prop :=
  ∃ (v : Value) (F : List Tm), e = .returned (.tuple #[v, .int .i64 0]) ∧ F.Perm (A.filter fun t => decide (t.due ≤ tk)) ∧ F.Pairwise (fun x y => ¬ ltT y x) ∧ OwF w' w.heap.size v (F.map ctl) ∧ RfEnd w B q rv tk ((stL A tk).map ctl) w'
/-- What the loop keeps. -/
structure RMid (w : World) (B q : Nat) (rv : Value) (tk : Int) (O C : List Tm) (ov rv' : Value) (wr : World) : Prop where
  at_ : RfAt wr B q rv' tk (C.map ctl)
  out : OwF wr w.heap.size ov (O.map ctl)
  off : ∀ g, ov.ownBlock = some g → ¬ Rf q rv' g
  touch : Touch (Rf q rv) w wr
  foot : ∀ k, Rf q rv' k → Rf q rv k ∨ w.heap.size ≤ k
theorem RMid.start {w : World} {B q : Nat} {rv : Value} {now : Int} {A : List Tm} (h : RfAt w B q rv now (A.map ctl)) (tk : Int) : RMid w B q rv tk [] A noS rv (w.setCell ⟨q, 0, none⟩ (.int .i64 tk)) := by
  have ht : Touch (fun k => k = q) w (w.setCell ⟨q, 0, none⟩ (.int .i64 tk)) := Touch.set (S := fun k => k = q) w (p := ⟨q, 0, none⟩) rfl _
  exact ⟨⟨h.blk.set 0 _, h.base, h.own.touch ht (fun g hg e => h.off (e ▸ hg)), h.off⟩, OwE.nil _ _, (fun g hg => by cases hg), ht.mono fun k hk => .inl hk, fun k hk => .inl hk⟩
/-- One is put out .. -/
theorem RMid.at5 {w wi w5 : World} {B q : Nat} {rv : Value} {tk : Int} {O C : List Tm} {ov rv' : Value} (h : RMid w B q rv tk O C ov rv' wi) (ht5 : Touch (fun k => ov.ownBlock = some k) wi w5) : RfAt w5 B q rv' tk (C.map ctl) :=
  h.at_.touch ht5 fun k hk e => h.off k e hk
/-- .. and the row of the others made anew. -/
theorem RMid.step {w wi w5 w6 : World} {B q : Nat} {rv : Value} {tk : Int} {O C O' C' : List Tm} {ov rv' ov' v6 : Value} (h : RMid w B q rv tk O C ov rv' wi) (ht5 : Touch (fun k => ov.ownBlock = some k) wi w5) (h5 : OwF w5 w.heap.size ov' (O'.map ctl))
    (hg : ov'.ownBlock = ov.ownBlock ∨ ∀ g, ov'.ownBlock = some g → wi.heap.size ≤ g) (h6 : OwF w6 w5.heap.size v6 (C'.map ctl)) (hb6 : Below w5.heap.size w5 w6) : RMid w B q rv tk O' C' ov' v6 (w6.setCell ⟨q, 1, none⟩ v6) := by
  have hq := h.at_.blk.lt
  have hq5 : q < w5.heap.size := Nat.lt_of_lt_of_le hq ht5.size
  have ht : Touch (fun k => k = q) w6 (w6.setCell ⟨q, 1, none⟩ v6) := Touch.set (S := fun k => k = q) w6 (p := ⟨q, 1, none⟩) rfl _
  have hw : w.heap.size ≤ wi.heap.size := h.touch.size
  have h5b := ht5.size
  have h15 : Touch (Rf q rv) w w5 := h.touch.after (fun k hk => .inr (h.out.lt hk).1) ht5
  have hoff : ∀ g, ov'.ownBlock = some g → g ≠ q := fun g hgg e => by
    rcases hg with hg | hg
    · rw [hg] at hgg
      exact h.off g hgg (.inl e)
    · have := hg g hgg
      omega
  refine ⟨⟨?_, h.at_.base, ?_, fun hgg => ?_⟩, ?_, fun g hgg hr => ?_, h15.trans ((Touch.of_below hb6).trans (ht.mono fun k hk => .inl hk)), fun k hk => ?_⟩
  · exact ((h.at5 ht5).blk.mono hb6).set 1 v6
  · exact (h6.touch ht (fun g hg e => by have := (h6.lt hg).1; omega)).less (by have := h.at_.base; omega)
  · have := (h6.lt hgg).1; omega
  · exact (h5.mono hb6).touch ht (fun g hgg e => hoff g hgg e)
  · rcases hr with hr | hr
    · exact hoff g hgg hr
    · have := (h6.lt hr).1
      have := (h5.lt hgg).2
      omega
  · rcases hk with rfl | hk
    · exact .inl (.inl rfl)
    · have := (h6.lt hk).1
      exact .inr (by omega)
theorem rfadv_no {w : World} {B q : Nat} {rv : Value} {now : Int} {L : List (Int × Int)} (h : RfAt w B q rv now L) (tk : Int) (hno : tk < now ∨ 1099511627776 < tk) :
    Calls Try.prog 19 #[.pointer (some ⟨q, 0, none⟩), .int .i64 tk] w fun e w' => e = .returned (.tuple #[noS, .int .i64 1]) ∧ w = w' := by
  have c0 := h.c0
  by_cases h1 : tk < now
  · have q1 : decide (tk < now) = true := by simpa using h1
    clear hno h1 h
    go_enter Try.func19, Try.ntmps19
    go_wp2
    go_ret2
    exact ⟨rfl, rfl⟩
  · have q1 : decide (tk < now) = false := by simpa using h1
    have q2 : decide (1099511627776 < tk) = true := by simp; omega
    clear hno h1 h
    go_enter Try.func19, Try.ntmps19
    go_wp2
    go_ret2
    exact ⟨rfl, rfl⟩
set_option maxRecDepth 100000 in
set_option maxHeartbeats 8000000 in
theorem rfadv {w : World} {B q : Nat} {rv : Value} {now ord : Int} {A : List Tm} (h : RfAt w B q rv now (A.map ctl)) (ok : WOk now A ord) (tk : Int) (k1 : now ≤ tk) (k2 : tk ≤ 1099511627776) :
    Calls Try.prog 19 #[.pointer (some ⟨q, 0, none⟩), .int .i64 tk] w (RAdvEnd w B q rv A tk) := by
  have q1 : decide (tk < now) = false := by simpa using k1
  have q2 : decide (1099511627776 < tk) = false := by simpa using k2
  have c0 := h.c0
  have f0 := h.blk.free 0
  have hm := RMid.start h tk
  have OK := Lib.hid ok
  clear k1 k2 ok
  go_enter Try.func19, Try.ntmps19
  go_wp2
  clear h c0 f0
  go_loopw [6, 7, 8, 9, 10, 11] (fun ov _ _ _ _ _ wr => ∃ (O C : List Tm) (rv' : Value), Hid (RAdv A tk O C) ∧ RMid w B q rv tk O C ov rv' wr) (fun ov _ _ _ _ _ _ => A.length - lenV ov)
  case atStart => exact ⟨[], A, rv, RAdv.start A tk, hm⟩
  case round =>
    obtain ⟨O, C, rv', hP, hM⟩ := hrel
    obtain ⟨wi, rfl⟩ : ∃ wi, wi = wr := ⟨_, rfl⟩
    have hl := hP.out.len
    have hA64 := OK.out.len
    have hat := hM.at_
    obtain ⟨Ao, co, rfl, _, _⟩ := hM.out.form
    obtain ⟨Ar, cr, rfl, _, _⟩ := hat.own.form
    obtain ⟨m, hm⟩ : ∃ m, m = C.length := ⟨_, rfl⟩
    obtain ⟨mo, hmo⟩ : ∃ mo, mo = O.length := ⟨_, rfl⟩
    rw [List.length_map, ← hm] at hat
    rw [List.length_map, List.length_map, ← hm, ← hmo] at hM
    rw [List.length_map, ← hmo]
    rw [← hm, ← hmo] at hl
    have HM := Lib.hid hm
    have HMO := Lib.hid hmo
    clear hm hmo
    go_wp2_with fail
    refine (rfnext hat (by rw [← HM.out]; omega)).mono ?_
    rintro e w2 ⟨⟨n, b, rfl, hN⟩, rfl⟩
    by_cases hend : b = false ∨ tk < n
    · have hall : ∀ t ∈ C, tk < t.due := fun t ht => by
        rcases hN with ⟨_, _, h3⟩ | ⟨h1, _, h3⟩
        · exact absurd ht (h3 t)
        · rcases hend with h | h
          · rw [h] at h1; cases h1
          · have := h3 t ht; omega
      obtain ⟨f1, f2⟩ := hP.out.fin hall
      have hfin : RAdvEnd w B q rv A tk (.returned (.tuple #[.slice Ao mo co, .int .i64 0])) wi :=
        ⟨_, O, rfl, f1, hP.out.srt, hM.out, _, by rw [← f2]; exact hat, hM.touch, hM.foot⟩
      have key : b = false ∨ (b = true ∧ decide (tk < n) = true) := by
        rcases hend with h | h
        · exact .inl h
        · cases b
          · exact .inl rfl
          · exact .inr ⟨rfl, by simpa using h⟩
      clear hN hM hat hP hall f1 f2 hend
      rcases key with rfl | ⟨rfl, q3⟩
      all_goals
        go_wp2
        go_ret2
        exact hfin
    · obtain rfl : b = true := by cases b; exact absurd (Or.inl rfl) hend; rfl
      have hn : n ≤ tk := by omega
      have q3 : decide (tk < n) = false := by simpa using hn
      have HNN : Hid ((∃ t, t ∈ C ∧ t.due = n) ∧ ∀ t, t ∈ C → n ≤ t.due) := by
        rcases hN with ⟨h, _⟩ | ⟨_, h2, h3⟩
        · cases h
        · exact ⟨h2, h3⟩
      have hm0 : 0 < C.length := by
        obtain ⟨⟨t, ht, _⟩, _⟩ := HNN.out
        exact List.length_pos_iff.2 (List.ne_nil_of_mem ht)
      obtain ⟨b0, o0, rfl, _, hc⟩ := hat.own.rd.at_ f_len (by rw [List.length_map]; exact hm0)
      have c1 := hat.c1
      have HC := Lib.hid hc
      clear hN hend hc
      go_wp2
      go_loopw [9] (fun at_ wx => ∃ j : Nat, at_ = .int .i64 j ∧ j < m ∧ Hid (∀ i (hi : i < C.length), i < j → C[i].due ≠ n) ∧ wx = wi) (fun at_ _ => m - (intOf at_).toNat)
      case atStart => exact ⟨0, rfl, by rw [HM.out]; exact hm0, fun i _ h => by omega, rfl⟩
      case round =>
        obtain ⟨j, rfl, hj, hno, rfl⟩ := hrel
        obtain ⟨wj, rfl⟩ : ∃ wj, wj = wr := ⟨_, rfl⟩
        have hjC : j < C.length := by rw [← HM.out]; exact hj
        obtain ⟨t, ht⟩ : ∃ t, t = C[j] := ⟨_, rfl⟩
        have c2 := HC.out j (by rw [List.length_map]; exact hjC) 0 (.int .i64 t.id) (by subst ht; simp [ctl])
        have c3 := HC.out j (by rw [List.length_map]; exact hjC) 1 (.int .i64 t.due) (by subst ht; simp [ctl])
        rw [Nat.add_zero] at c2
        have HT := Lib.hid ht
        have hj' : (j : Int) < m := by omega
        clear ht
        by_cases e : t.due = n
        · have q4 : (n != n) = false := by simp
          have hP' : Hid (RAdv A tk (O ++ [t]) (rid C t.id)) := by
            have h1 := HT.out
            have h2 := hP.out.step OK.out j hjC (by rw [← h1, e]; exact hn) (fun u hu => by rw [← h1, e]; exact HNN.out.2 u hu) (fun i hi hij => by rw [← h1, e]; exact hno.out i hi hij)
            rw [← h1] at h2
            exact h2
          obtain ⟨tid, htid⟩ : ∃ x, x = t.id := ⟨_, rfl⟩
          have hctl : ctl t = (tid, n) := by rw [htid, ← e]; rfl
          rw [← htid] at c2 hP'
          rw [e] at c3
          have hTA := Touch.of_below (S := fun k => (Value.slice Ao mo co).ownBlock = some k) (below_alloc wj (.cells #[.int .i64 tid, .int .i64 n] 37))
          have hoX := hM.out.mono (below_alloc wj (.cells #[.int .i64 tid, .int .i64 n] 37))
          have hrd : RdF (wj.alloc (.cells #[.int .i64 tid, .int .i64 n] 37)) (.slice (some ⟨wj.heap.size, 0, none⟩) 1 1) [(tid, n)] := rdF_one (Blk.new wj 37 _ _ rfl)
          have hl1 : ((O.map ctl).length + 1) * 16 ≤ 140737488355328 := by rw [List.length_map, ← HMO.out]; omega
          have hbz : w.heap.size ≤ (wj.alloc (.cells #[.int .i64 tid, .int .i64 n] 37)).heap.size := Nat.le_trans hM.touch.size hTA.size
          have HCT := Lib.hid hctl
          clear hctl htid hno hn HNN e
          go_wp2_with ((with_reducible refine at_slot 60 ?_); refine wpList_appF rfl (.tmp 51) (.tmp 59) rfl w.heap.size hoX hrd rfl rfl hl1 hbz ?_; intro v5 w5 ho5 hb5 hg5
                       have hT5 := hTA.trans (Touch.grown hg5.1 (S := fun k => (Value.slice Ao mo co).ownBlock = some k) fun r hr => hr)
                       have hat5 := hM.at5 hT5
                       have d1 := hat5.c1
                       obtain ⟨b9, o9, e9, _, hc9⟩ := hat5.own.rd.at_ f_len (by rw [List.length_map]; exact hm0)
                       injection e9 with e9
                       injection e9 with e91 e92
                       subst e91 e92
                       have d2 := hc9 j (by rw [List.length_map]; exact hjC) 0 (.int .i64 tid) (by have h1 := HCT.out; have h2 := HT.out; rw [h2] at h1; simp [h1])
                       rw [Nat.add_zero] at d2
                       clear hc9)
          refine (rfwithout hat5 (by rw [← HM.out]; omega) tid).mono ?_
          rintro e w6 ⟨⟨v6, rfl, ho6⟩, hb6⟩
          have ho5' : OwF w5 w.heap.size v5 ((O ++ [t]).map ctl) := by
            rw [List.map_append, List.map_cons, List.map_nil, HCT.out]
            exact ho5
          have hM' := hM.step hT5 ho5' (by
            rcases hg5.2 with h | h
            · exact .inl h
            · refine .inr fun g hg => ?_
              rw [h] at hg
              injection hg with hg
              rw [← hg]
              exact hTA.size) ho6 hb6
          have d6 := (hat5.mono hb6).c1
          have f6 := (hat5.mono hb6).blk.free 1
          obtain ⟨A5, cc5, rfl, _, _⟩ := ho5'.form
          obtain ⟨A6, cc6, rfl, _, _⟩ := ho6.form
          have hlen5 : ((O ++ [t]).map ctl).length = mo + 1 := by rw [List.length_map, List.length_append, ← HMO.out]; rfl
          rw [hlen5] at hM' ⊢
          clear hM ho5 ho5' ho6 hb6 hat5 hT5 hg5 hb5 hoX hrd hl1 hbz hTA hat c1 c2 c3 d1 d2 hlen5
          generalize ((rid C tid).map ctl).length = m6 at *
          go_wp2
          go_roundw
          case rel => exact ⟨O ++ [t], rid C tid, _, hP', hM'⟩
          case measure => simp [lenV]; omega
        · have q4 : (t.due != n) = true := by simpa using e
          have hno' : Hid (∀ i (hi : i < C.length), i < j + 1 → C[i].due ≠ n) := fun i hi h1 => by
            by_cases h2 : i < j
            · exact hno.out i hi h2
            · obtain rfl : i = j := by omega
              rw [← HT.out]
              exact e
          have hj2 : j + 1 < m := by
            obtain ⟨⟨u, hu, eu⟩, _⟩ := HNN.out
            obtain ⟨i, hi, rfl⟩ := List.getElem_of_mem hu
            have h1 : ¬ i < j + 1 := fun h => hno'.out i hi h eu
            rw [HM.out]
            omega
          clear e hno
          go_wp2
          go_roundw
          case rel => exact ⟨j + 1, by go_num, hj2, hno', trivial⟩
          case measure => simp [intOf]; omega
end Go.Proofs.Ytcnfcohfogbfhaa
