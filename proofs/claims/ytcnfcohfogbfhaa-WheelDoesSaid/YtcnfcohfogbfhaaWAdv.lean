/- The wheel: one goes on to a tick. -/
import Derived.Test.YtcnfcohfogbfhaaWMid
import Derived.Test.YtcnfcohfogbfhaaWSort
namespace Go.Proofs.Ytcnfcohfogbfhaa
open Go.RowKit Go.Shelf
/-- What is told of a timer that has come. -/
def ctl (t : Tm) : Int × Int := (t.id, t.due)
theorem blk_range {w : World} {p : Nat} {V : Nat → Value} {now many ord : Int} (h : Blk w p 57 (wcells now V many ord)) : w.rangeAt p 1 (slotsV V) := by
  intro j v hj
  have hl : j < 32 := by
    have := (List.getElem?_eq_some_iff.1 hj).1
    simpa [slotsV] using this
  have e : V j = v := by simpa [slotsV, hl] using hj
  rw [← e, h.cell, wcells_s _ _ _ _ j hl]
/-- How Advance ends. -/
def AdvEnd (w : World) (B p : Nat) (V : Nat → Value) (A : List Tm) (tk ord : Int) (e : Ending) (w' : World) : Prop :=
  ∃ (v : Value) (F : List Tm) (V' : Nat → Value), e = .returned (.tuple #[v, .int .i64 0]) ∧ F.Perm (A.filter fun t => decide (t.due ≤ tk)) ∧ F.Pairwise (fun x y => ¬ ltT y x) ∧ OwF w' w.heap.size v (F.map ctl) ∧ (∀ g, v.ownBlock = some g → ¬ Ft p V' g) ∧
    WAt w' B p V' tk (stL A tk) ord ∧ Touch (Ft p V) w w' ∧ ∀ k, Ft p V' k → Ft p V k ∨ w.heap.size ≤ k
set_option maxRecDepth 100000 in
set_option maxHeartbeats 8000000 in
theorem tadv {w : World} {B p : Nat} {V : Nat → Value} {now : Int} {A : List Tm} {ord : Int} (h : WAt w B p V now A ord) (h64 : A.length ≤ 64) (hsm : ∀ t ∈ A, Sm t) (tk : Int) (k1 : now ≤ tk) (k2 : tk ≤ 1099511627776) :
    Calls Try.prog 11 #[.pointer (some ⟨p, 0, none⟩), .int .i64 tk] w (AdvEnd w B p V A tk ord) := by
  have q1 : decide (tk < now) = false := by simpa using k1
  have q2 : decide (1099511627776 < tk) = false := by simpa using k2
  have c0 := h.c0
  have f0 := h.blk.free 0
  have hbw : B ≤ w.heap.size := Nat.le_trans h.base (Nat.le_of_lt h.blk.lt)
  clear k1 k2
  go_enter Try.func11, Try.ntmps11
  have hb1 : Blk (w.setCell ⟨p, 0, none⟩ (.int .i64 tk)) p 57 (wcells tk V A.length ord) := by
    rw [← wcells_set0 now]
    exact h.blk.set 0 _
  have ht1 : Touch (fun k => k = p) w (w.setCell ⟨p, 0, none⟩ (.int .i64 tk)) := Touch.set (S := fun k => k = p) w (p := ⟨p, 0, none⟩) rfl _
  have hm : AdvMid w B p V A tk ord 0 noS V (w.setCell ⟨p, 0, none⟩ (.int .i64 tk)) :=
    ⟨hbw, hb1, h.wr.touch ht1 (fun k _ hne e => hne e), OwE.nil _ _, fun g hg => (by cases hg), fun _ _ _ => rfl, ht1.mono fun k hk => .inl hk, fun k hk => .inl hk⟩
  have hrg := blk_range hb1
  have hln := slots_len V
  have hix := run_slot V
  obtain ⟨vs, hvs⟩ : ∃ vs, vs = slotsV V := ⟨_, rfl⟩
  rw [← hvs] at hrg hln hix
  clear hvs hb1 ht1
  go_wp2
  go_step3
  go_wp2
  go_step3
  go_wp2_with ((with_reducible refine at_slot 32 ?_); refine wpList_load_mid rfl 55 (.tmp 31) rfl p 1 rfl _ _ hrg Try.underlying55 rfl hln ?_)
  generalize vs.toArray = arr at *
  clear hrg hln c0 f0 q1 q2
  generalize w.setCell ⟨p, 0, none⟩ (.int .i64 tk) = w1 at *
  go_loopw [6, 7, 8, 9, 11, 33] (fun c _ _ _ _ i wr => ∃ (s : Nat) (V' : Nat → Value), i = .int .i64 s ∧ s ≤ 32 ∧ AdvMid w B p V A tk ord s c V' wr) (fun _ _ _ _ _ i _ => 32 - (intOf i).toNat)
  case atStart => exact ⟨0, V, rfl, by omega, hm⟩
  case round =>
    obtain ⟨s, V', rfl, hs, hM⟩ := hrel
    clear hm
    by_cases hlt : s < 32
    · have hrow := (hM.rows.row s hlt).rd
      rw [if_neg (Nat.lt_irrefl s), hM.rest s (Nat.le_refl _) hlt] at hrow
      have hs32 : decide ((s : Int) < 32) = true := by simp; omega
      have hxs := hix s hlt
      obtain ⟨As, cc, eV, hc1, hc2⟩ := hrow.form
      rw [eV] at hxs hrow
      obtain ⟨n, hn⟩ : ∃ n, n = (slotL A s).length := ⟨_, rfl⟩
      rw [← hn] at hxs hrow hc1
      have HN := Lib.hid hn
      have hown : ∀ g, (Value.slice As n cc).ownBlock = some g → Ft p V' g := fun g hg => .inr ⟨s, hlt, by rw [hM.rest s (Nat.le_refl _) hlt, eV, ← hn]; exact hg⟩
      clear eV hn hix
      by_cases h0 : n = 0
      · subst h0
        have hM2 := hM.skip (List.eq_nil_of_length_eq_zero HN.out.symm)
        clear hM hrow
        go_wp2
        go_roundw
        case rel => exact ⟨s + 1, V', by go_num, by omega, hM2⟩
        case measure => simp [intOf]; omega
      · have hn0 : ((n : Int) == 0) = false := by simp; omega
        have hI := hM.enter
        have hls : n ≤ 64 := by rw [HN.out]; exact Nat.le_trans (slotL_len A s) h64
        have hcl := comeL_less A tk s
        have HC := Lib.hid (Nat.le_trans hcl h64)
        clear hcl
        go_wp2
        go_loopw [6, 9, 11, 42] (fun c2 st _ i wi => ∃ k : Nat, i = .int .i64 k ∧ k ≤ n ∧ AdvIn w p V' (comeL A tk s) (slotL A s) tk k c2 st wr wi) (fun _ _ _ i _ => n - (intOf i).toNat)
        case atStart => exact ⟨0, rfl, Nat.zero_le _, hI⟩
        case round =>
          obtain ⟨k, rfl, hk, hIn⟩ := hrel
          clear hI
          obtain ⟨wi, rfl⟩ : ∃ wi, wi = wr := ⟨_, rfl⟩
          by_cases hkl : k < n
          · have hki : k < (slotL A s).length := by rw [← HN.out]; exact hkl
            have hrw := hrow.touch hIn.touch (fun g hg e => e.2 (hown g hg))
            obtain ⟨b0, o0, rfl, _, hc⟩ := hrw.at_ tm_len (by omega)
            obtain ⟨t, ht⟩ : ∃ t, t = (slotL A s)[k] := ⟨_, rfl⟩
            have c0 := hc k hki 0 (.int .i64 t.id) (by subst ht; rfl)
            have c1 := hc k hki 1 (.int .i64 t.due) (by subst ht; rfl)
            have c2 := hc k hki 2 (.int .i64 t.ord) (by subst ht; rfl)
            have hkl' : (k : Int) < n := by omega
            have HT := Lib.hid ht
            clear hc hrw hrow ht
            rw [Nat.add_zero] at c0
            go_upto_region 13 with (fail)
            refine boxT (t := t) (motive := fun X => Code.wp Try.prog _ _ _ X) ?_
            intro X hBX hX hbx
            have hIX := hIn.below hBX
            have d0 : X.cell? ⟨wi.heap.size, 0, none⟩ = some (.int .i64 t.id) := hbx.cell 0
            have d1 : X.cell? ⟨wi.heap.size, 1, none⟩ = some (.int .i64 t.due) := hbx.cell 1
            have d2 : X.cell? ⟨wi.heap.size, 2, none⟩ = some (.int .i64 t.ord) := hbx.cell 2
            have hIY := hIX.alloc (.cells #[.int .i64 t.id, .int .i64 t.due, .int .i64 t.ord] 60)
            have hrd : RdT (X.alloc (.cells #[.int .i64 t.id, .int .i64 t.due, .int .i64 t.ord] 60)) (.slice (some ⟨X.heap.size, 0, none⟩) 1 1) [t] := rdT_one (Blk.new X 60 _ _ rfl)
            have hsz : w.heap.size ≤ (X.alloc (.cells #[.int .i64 t.id, .int .i64 t.due, .int .i64 t.ord] 60)).heap.size := Nat.le_trans hM.touch.size hIY.touch.size
            have hf : ∀ x, Ft p V' x → x < (X.alloc (.cells #[.int .i64 t.id, .int .i64 t.due, .int .i64 t.ord] 60)).heap.size := fun x hx => Nat.lt_of_lt_of_le (hM.rows.lt hx).2 hIY.touch.size
            have hl1 : ((comeL A tk s ++ ((slotL A s).take k).filter fun t => decide (t.due ≤ tk)).length + 1) * 24 ≤ 140737488355328 := by
              have h1 := HC.out
              have h2 : (((slotL A s).take k).filter fun t => decide (t.due ≤ tk)).length ≤ k := Nat.le_trans (List.length_filter_le _ _) (by rw [List.length_take]; omega)
              rw [List.length_append]
              omega
            have hl2 : ((((slotL A s).take k).filter fun t => decide (tk < t.due)).length + 1) * 24 ≤ 140737488355328 := by
              have h2 : (((slotL A s).take k).filter fun t => decide (tk < t.due)).length ≤ k := Nat.le_trans (List.length_filter_le _ _) (by rw [List.length_take]; omega)
              omega
            clear c0 c1 c2 hbx hBX hX hIn hIX
            by_cases hd : t.due ≤ tk
            · have p1 : decide (t.due ≤ tk) = true := by simpa using hd
              have HD := Lib.hid hd
              clear hd hl2
              go_wp2_with ((with_reducible refine at_slot 53 ?_); refine wpList_appT rfl (.tmp 50) (.tmp 52) rfl w.heap.size hIY.come hrd rfl rfl hl1 hsz ?_; intro v5 w5 ho5 hb5 hg5)
              have hIZ := hIY.goes hki (by rw [← HT.out]; exact HD.out) (by rw [← HT.out]; exact ho5) hg5 hf
              clear hIY ho5 hg5 hb5 hrd
              go_wp2
              go_roundw
              case rel => exact ⟨k + 1, by go_num, by omega, hIZ⟩
              case measure => simp [intOf]; omega
            · have p1 : decide (t.due ≤ tk) = false := by simpa using hd
              have HD := Lib.hid (show tk < t.due by omega)
              clear hd hl1
              go_wp2_with ((with_reducible refine at_slot 57 ?_); refine wpList_appT rfl (.tmp 54) (.tmp 56) rfl w.heap.size hIY.stay hrd rfl rfl hl2 hsz ?_; intro v5 w5 ho5 hb5 hg5)
              have hIZ := hIY.stays hki (by rw [← HT.out]; exact HD.out) (by rw [← HT.out]; exact ho5) hg5 hf
              clear hIY ho5 hg5 hb5 hrd
              go_wp2
              go_roundw
              case rel => exact ⟨k + 1, by go_num, by omega, hIZ⟩
              case measure => simp [intOf]; omega
          · obtain rfl : k = n := by omega
            rw [HN.out] at hIn
            have hM2 := hM.next hlt hIn
            have hbi := hM.blk.touch hIn.touch (fun e => e.2 (.inl rfl))
            have cs : wi.cell? ⟨p, 1 + s, none⟩ = some (V' s) := by rw [hbi.cell, wcells_s _ _ _ _ s hlt]
            have fs := hbi.free (1 + s)
            obtain ⟨Ast, cst, rfl, _, _⟩ := hIn.stay.form
            have hs' : (s : Int) < 32 := by omega
            clear hIn hM hrow hbi
            generalize (List.filter (fun t => decide (tk < t.due)) (List.take (slotL A s).length (slotL A s))).length = m3 at hM2 ⊢
            go_wp2
            go_roundw
            case rel => exact ⟨s + 1, _, by go_num, by omega, hM2⟩
            case measure => simp [intOf]; omega
    · obtain rfl : s = 32 := by omega
      have hrow : ∀ r, r < 32 → (if r < 32 then (slotL A r).filter (fun t => decide (tk < t.due)) else slotL A r) = slotL (stL A tk) r := fun r hr => by rw [if_pos hr, slotL_st]
      have hcome := hM.come
      have hcl := comeL_len A tk
      have hper := comeL_all A tk
      have hsmc : ∀ t ∈ comeL A tk 32, Sm t := fun t ht => hsm t (List.mem_filter.1 (hper.mem_iff.1 ht)).1
      obtain ⟨C, hC⟩ : ∃ C, C = comeL A tk 32 := ⟨_, rfl⟩
      rw [← hC] at hcome hcl hper hsmc
      obtain ⟨Ac, cc, rfl, _, _⟩ := hcome.form
      have c33 : wr.cell? ⟨p, 33, none⟩ = some (.int .i64 A.length) := by rw [hM.blk.cell, wcells_33]
      have f33 := hM.blk.free 33
      obtain ⟨m, hm⟩ : ∃ m, m = C.length := ⟨_, rfl⟩
      rw [← hm] at hcome hcl ⊢
      have hmA : (m : Int) ≤ A.length := by omega
      have hA64 : (A.length : Int) ≤ 64 := by omega
      have HCL := Lib.hid hcl
      have HM := Lib.hid hM
      have hoff := hM.off
      have hfoot := hM.foot
      have htch := hM.touch
      have hmb := hM.blk
      have hmr := hM.rows
      rw [← hm] at hoff
      have HM2 := Lib.hid hm
      clear hC hcl hM HM hm hix hsm
      have hb2 : Blk (wr.setCell ⟨p, 33, none⟩ (.int .i64 ((A.length : Int) - m))) p 57 (wcells tk V' (stL A tk).length ord) := by
        have e : ((stL A tk).length : Int) = (A.length : Int) - m := by have := HCL.out; omega
        rw [e, ← wcells_set33 _ _ (A.length : Int)]
        exact hmb.set 33 _
      have ht2 : Touch (fun k => k = p) wr (wr.setCell ⟨p, 33, none⟩ (.int .i64 ((A.length : Int) - m))) := Touch.set (S := fun k => k = p) wr (p := ⟨p, 33, none⟩) rfl _
      have hr2 := hmr.touch ht2 (fun k _ hne e => hne e)
      have hcome2 := hcome.touch ht2 (fun g hg e => hoff g hg (.inl e))
      have ht12 : Touch (Ft p V) w (wr.setCell ⟨p, 33, none⟩ (.int .i64 ((A.length : Int) - m))) := htch.trans (ht2.mono fun k hk => .inl hk)
      go_wp2_with fail
      generalize wr.setCell ⟨p, 33, none⟩ (.int .i64 ((A.length : Int) - m)) = w2 at *
      clear hmb hmr htch hcome ht2 c33 f33
      refine (tsort hcome2 hsmc (by have := HM2.out; omega)).mono ?_
      rintro e w3 ⟨rfl, F, hFp, hFs, hF, htF⟩
      have hwat : WAt w3 B p V' tk (stL A tk) ord := (hr2.touch htF (fun k hk _ e => hoff k e hk)).at_ (hb2.touch htF (fun e => hoff p e (.inl rfl))) hrow
      have ht13 : Touch (Ft p V) w w3 := ht12.after (fun k hk => .inr (hcome2.lt hk).1) htF
      have hFl : F.length = m := by rw [hFp.length_eq, HM2.out]
      have hFR := hF.rd
      rw [← hFl] at hFR ⊢
      have HFP := Lib.hid (hFp.trans hper)
      have HFS := Lib.hid hFs
      have hF64 : F.length ≤ 64 := by omega
      clear hb2 hr2 hcome2 ht12 htF hF hper hsmc hFp hFs hoff
      go_wp2
      go_loopw [12, 14, 79] (fun o _ i wx => ∃ k : Nat, i = .int .i64 k ∧ k ≤ F.length ∧ OwF wx w3.heap.size o ((F.take k).map ctl) ∧ Below w3.heap.size w3 wx) (fun _ _ i _ => F.length - (intOf i).toNat)
      case atStart => exact ⟨0, rfl, Nat.zero_le _, OwE.nil _ _, Below.refl _ _⟩
      case round =>
        obtain ⟨k, rfl, hk, ho, hb⟩ := hrel
        obtain ⟨wi, rfl⟩ : ∃ wi, wi = wr := ⟨_, rfl⟩
        by_cases hkl : k < F.length
        · obtain ⟨b0, o0, rfl, _, hc⟩ := (hFR.mono hb).at_ tm_len (by omega)
          obtain ⟨t, ht⟩ : ∃ t, t = F[k] := ⟨_, rfl⟩
          have c0 := hc k hkl 0 (.int .i64 t.id) (by subst ht; rfl)
          have c1 := hc k hkl 1 (.int .i64 t.due) (by subst ht; rfl)
          have c2 := hc k hkl 2 (.int .i64 t.ord) (by subst ht; rfl)
          have hkl' : (k : Int) < F.length := by omega
          have q3 : decide ((k : Int) < F.length) = true := by simpa using hkl
          have HT := Lib.hid ht
          clear hc ht
          rw [Nat.add_zero] at c0
          go_upto_region 25 with (fail)
          refine boxT (t := t) (motive := fun X => Code.wp Try.prog _ _ _ X) ?_
          intro X hBX hX hbx
          have hoX := (ho.mono hBX).mono (below_alloc X (.cells #[.int .i64 t.id, .int .i64 t.due] 37))
          have hbX := below_step hb hb.size hBX
          have hbY := below_step hbX hbX.size (below_alloc X (.cells #[.int .i64 t.id, .int .i64 t.due] 37))
          have d0 : X.cell? ⟨wi.heap.size, 0, none⟩ = some (.int .i64 t.id) := hbx.cell 0
          have d1 : X.cell? ⟨wi.heap.size, 1, none⟩ = some (.int .i64 t.due) := hbx.cell 1
          have hrd : RdF (X.alloc (.cells #[.int .i64 t.id, .int .i64 t.due] 37)) (.slice (some ⟨X.heap.size, 0, none⟩) 1 1) [(t.id, t.due)] := rdF_one (Blk.new X 37 _ _ rfl)
          have hl1 : (((F.take k).map ctl).length + 1) * 16 ≤ 140737488355328 := by rw [List.length_map, List.length_take]; omega
          clear c0 c1 c2 hbx hBX hX ho hb
          go_wp2_with ((with_reducible refine at_slot 90 ?_); refine wpList_appF rfl (.tmp 83) (.tmp 89) rfl w3.heap.size hoX hrd rfl rfl hl1 hbY.size ?_; intro v5 w5 ho5 hb5 hg5)
          have e5 : (F.take k).map ctl ++ [(t.id, t.due)] = (F.take (k + 1)).map ctl := by
            rw [take_one F k hkl, List.map_append, ← HT.out]
            rfl
          rw [e5] at ho5
          have hbZ := hbY.trans hb5
          clear hoX hrd hl1 hb5 hg5 hbX hbY e5
          go_wp2
          go_roundw
          case rel => exact ⟨k + 1, by go_num, by omega, ho5, hbZ⟩
          case measure => simp [intOf]; omega
        · obtain rfl : k = F.length := by omega
          rw [List.take_length] at ho
          obtain ⟨Ax, cx, rfl, _, _⟩ := ho.form
          have hfin : AdvEnd w B p V A tk ord (.returned (.tuple #[.slice Ax (F.map ctl).length cx, .int .i64 0])) wi :=
            ⟨_, F, V', rfl, HFP.out, HFS.out, ho.less ht13.size, (fun g hg hf => by have h1 := (ho.lt hg).1; have h2 := (hwat.lt hf).2; omega), hwat.mono hb, ht13.trans (Touch.of_below hb), hfoot⟩
          clear ho hb hwat ht13 hfoot hFR HFP HFS
          generalize (F.map ctl).length = m4 at *
          go_wp2
          go_ret2
          exact hfin
end Go.Proofs.Ytcnfcohfogbfhaa
