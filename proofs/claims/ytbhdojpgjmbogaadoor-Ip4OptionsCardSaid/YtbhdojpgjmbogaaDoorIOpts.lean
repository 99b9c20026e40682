/- ip4.options and ip4.right: the options of a packet, gone over one by one. -/
import Derived.Test.YtbhdojpgjmbogaaDoorITrim
import Derived.Sort.QuietIn
namespace Go.Proofs.YtbhdojpgjmbogaaDoor
open Go.RowKit Go.Shelf
attribute [local go_sem] Oper.semAt_some
/-- How many bytes are left behind each option that stands in a row; -1: what stands there is none. -/
def lefts (b : List UInt8) : List Int :=
  match b with
  | [] => []
  | x :: t =>
    if x.toNat = 0 then (if allc 0 (x :: t) then [0] else [-1]) else if x.toNat = 1 then (t.length : Int) :: lefts t else
    match t with
    | [] => [-1]
    | s :: t' => if _h : s.toNat < 2 ∨ t'.length + 2 < s.toNat then [-1] else (((x :: s :: t').drop s.toNat).length : Int) :: lefts ((x :: s :: t').drop s.toNat)
termination_by b.length
decreasing_by all_goals first | (simp; done) | (simp; omega)
theorem lefts_nil : lefts [] = [] := by rw [lefts]
theorem lefts_end {x : UInt8} {t : List UInt8} (h : x.toNat = 0) (ha : allc 0 (x :: t) = true) : lefts (x :: t) = [0] := by rw [lefts.eq_def]; dsimp only; rw [if_pos h, if_pos ha]
theorem lefts_end' {x : UInt8} {t : List UInt8} (h : x.toNat = 0) (ha : allc 0 (x :: t) = false) : lefts (x :: t) = [-1] := by rw [lefts.eq_def]; dsimp only; rw [if_pos h, if_neg (by simp [ha])]
theorem lefts_one {x : UInt8} {t : List UInt8} (h : x.toNat = 1) : lefts (x :: t) = (t.length : Int) :: lefts t := by rw [lefts.eq_def]; dsimp only; rw [if_neg (by omega), if_pos h]
theorem lefts_short {x : UInt8} (h : 2 ≤ x.toNat) : lefts [x] = [-1] := by rw [lefts.eq_def]; dsimp only; rw [if_neg (by omega), if_neg (by omega)]
theorem lefts_bad {x s : UInt8} {t : List UInt8} (h : 2 ≤ x.toNat) (hs : s.toNat < 2 ∨ t.length + 2 < s.toNat) : lefts (x :: s :: t) = [-1] := by rw [lefts.eq_def]; dsimp only; rw [if_neg (by omega), if_neg (by omega)]; simp only [dif_pos hs]
theorem lefts_more {x s : UInt8} {t : List UInt8} (h : 2 ≤ x.toNat) (h2 : 2 ≤ s.toNat) (h3 : s.toNat ≤ t.length + 2) : lefts (x :: s :: t) = (((x :: s :: t).drop s.toNat).length : Int) :: lefts ((x :: s :: t).drop s.toNat) := by
  rw [lefts.eq_def]; dsimp only; rw [if_neg (by omega), if_neg (by omega)]
  simp only [dif_neg (show ¬ (s.toNat < 2 ∨ t.length + 2 < s.toNat) by omega)]
/-- What the teller of options leaves. -/
def LfEnd (J Jx : List Int → World → Prop) (b : List UInt8) (e : Ending) (W' : World) : Prop :=
  (∃ v, e = .returned v) ∧ ((∃ xs : List Int, xs = lefts b ∧ J xs W') ∨ (∃ pre : List Int, pre <+: lefts b ∧ Jx pre W'))
set_option maxRecDepth 100000 in
set_option maxHeartbeats 4000000 in
theorem options1_in (n : Nat) (hn : 1 ≤ n) (l C : Nat) (b : List UInt8) (J Jx : List Int → World → Prop) (Wd : World) (hC : Wd.heap.size ≤ C)
    (hJC : ∀ pre W u, J pre W → J pre (W.setCell ⟨C, 0, none⟩ u)) (hJD : ∀ pre W k, J pre W → J pre (W.drewN k))
    (hY : ∀ pre (x : Int) W, J pre W → x ∈ lefts b → YieldAt Fence.wide (n - 1) Tryd.prog l #[.int .i64 x] W fun e W' =>
      (e = .returned (.bool true) ∧ J (pre ++ [x]) W' ∧ OKp Wd.heap.size C W W') ∨ (e = .returned (.bool false) ∧ Jx (pre ++ [x]) W'))
    (W : World) (v : Value) (hc : Blk W C 24 #[v]) (hv : Rd Wd v b) (hs : Wd.heap.size ≤ W.heap.size) (hold : ∀ k, k < Wd.heap.size → W.heap[k]? = Wd.heap[k]?) (h0 : J [] W) :
    CallsIn Fence.wide n Tryd.prog 39 #[.func (.yield l) #[] #[], .pointer (some ⟨C, 0, none⟩)] W (LfEnd J Jx b) := by
  refine callsIn_of_wp Tryd.func39 rfl trivial ?_ rfl
  simp only [Tryd.ntmps39, List.size_toArray, List.length_cons, List.length_nil, Nat.reduceAdd, Nat.reduceSub, Array.replicate_succ, Array.replicate_zero, List.push_toArray, List.append_toArray, List.nil_append, List.cons_append]
  have hinv0 : ∃ (pre : List Int) (rest : List UInt8) (v : Value), J pre W ∧ Blk W C 24 #[v] ∧ Rd Wd v rest ∧ lefts b = pre ++ lefts rest ∧ Wd.heap.size ≤ W.heap.size ∧ ∀ k, k < Wd.heap.size → W.heap[k]? = Wd.heap[k]? := ⟨[], b, v, h0, hc, hv, rfl, hs, hold⟩
  clear hc hv hs hold h0
  refine wpIn_scope ?_
  gi_wp2_with (with_reducible apply wpIn_label)
  gi_loopw [3] (fun _ wr => ∃ (pre : List Int) (rest : List UInt8) (v : Value), J pre wr ∧ Blk wr C 24 #[v] ∧ Rd Wd v rest ∧ lefts b = pre ++ lefts rest ∧ Wd.heap.size ≤ wr.heap.size ∧ ∀ k, k < Wd.heap.size → wr.heap[k]? = Wd.heap[k]?) (fun _ wr => lenAt wr C)
  case atStart => exact hinv0
  case round =>
    obtain ⟨pre, rest, v, hJ, hcb, hrd, hopt, hsz, hold⟩ := hrel
    clear hinv0
    have hr := hrd.old hsz hold
    have hC0 := hcb.cell 0
    have hCf := hcb.free 0
    simp only [List.getElem?_toArray, List.getElem?_cons_zero] at hC0
    cases rest with
    | nil =>
      obtain ⟨A, c, rfl, hc1, hc2⟩ := hrd.form
      rw [lefts_nil, List.append_nil] at hopt
      have HO := Lib.hid hopt
      clear hY hopt
      gi_wp2
      go_end0
      exact ⟨⟨_, rfl⟩, .inl ⟨pre, HO.out.symm, hJ⟩⟩
    | cons x t =>
      obtain ⟨A, c, rfl, hc1, hc2⟩ := hrd.form
      obtain ⟨bb, oo, rfl, hbl, hcs⟩ := hr.at_ 0 (by simp)
      have d0 := hcs 0 (by simp)
      simp only [Nat.add_zero, List.getElem_cons_zero] at d0
      have hx := UInt8.toNat_lt x
      obtain ⟨m, hm⟩ : ∃ m, m = (x :: t).length := ⟨_, rfl⟩
      have Hcs := Lib.hid hcs
      clear hcs
      rw [← hm] at hC0 hc1 hrd hr hcb
      have hm1 : 1 ≤ m := by rw [hm]; simp
      have Hm := Lib.hid hm
      have HO := Lib.hid hopt
      clear hm hopt
      by_cases x0 : x.toNat = 0
      · have g0 : ((x.toNat : Int) == 0) = true := by simpa using x0
        gi_wp2_with fail
        refine ⟨trivial, ?_⟩
        refine (callsIn_wide.2 (trim0 _ (x :: t) _ hr (by simp))).mono ?_
        rintro e w' ⟨A2, n2, c2, rfl, hn2, hz, rfl⟩
        obtain ⟨w0, hw0⟩ : ∃ w0, w0 = wr.drew := ⟨_, rfl⟩
        have hJ0 : J pre w0 := by rw [hw0]; exact hJD pre wr 1 hJ
        have hcb0 : Blk w0 C 24 #[.slice (some ⟨bb, oo, none⟩) m c] := by rw [hw0]; exact hcb
        have hsz0 : Wd.heap.size ≤ w0.heap.size := by rw [hw0]; exact hsz
        have hold0 : ∀ k, k < Wd.heap.size → w0.heap[k]? = Wd.heap[k]? := by rw [hw0]; exact hold
        have d00 : w0.cell? ⟨bb, oo, none⟩ = some (.int .u8 (x.toNat : Int)) := by rw [hw0]; exact d0
        have e0 := hcb0.cell 0
        have ef := hcb0.free 0
        simp only [List.getElem?_toArray, List.getElem?_cons_zero] at e0
        rw [← hw0]
        have HOLD := Lib.hid hold0
        clear hw0 hold0
        by_cases ha : allc 0 (x :: t) = true
        · obtain rfl : n2 = 0 := hz.2 ha
          have HA := Lib.hid ha
          clear ha hz
          gi_wp2_with ((with_reducible refine at_slotIn 52 ?_); refine wpListIn_slice (v := .slice (some ⟨bb, oo, none⟩) m c) (l := x :: t) (Wd := Wd) rfl (.tmp 50) (some (.tmp 51)) none rfl hrd rfl (m : Int) (m : Int) (IsBound.yes rfl rfl) (by rw [Hm.out]; exact IsBound.no) (by omega) (by omega) (by rw [Hm.out]; exact Int.le_refl _) ?_; intro p Ap cp hmp hp1 hp2 hp3 hp4 hrp; have hpe : p = [] := (by rw [hmp.out, Int.toNat_natCast, Hm.out]; simp); have HPE := Lib.hid hpe; obtain ⟨fn, tmps, assign, body, hy, hR⟩ := hY pre (p.length : Int) (w0.setCell ⟨C, 0, none⟩ (.slice Ap p.length cp)) (hJC _ _ _ hJ0) (by rw [HO.out, lefts_end x0 HA.out, hpe]; simp); clear hY hpe)
          refine hR.mono ?_
          have hZ : Blk (w0.setCell ⟨C, 0, none⟩ (.slice Ap p.length cp)) C 24 #[.slice Ap p.length cp] := hcb0.set 0 (.slice Ap p.length cp)
          rintro e W3 (⟨rfl, hJ3, hk3⟩ | ⟨rfl, hJx3⟩)
          · have hcb3 : Blk W3 C 24 #[.slice Ap p.length cp] := hk3.2.1.trans hZ
            gi_wp2
            go_roundw
            case rel => exact ⟨pre ++ [(p.length : Int)], p, _, hJ3, hcb3, hrp, by rw [HO.out, lefts_end x0 HA.out, HPE.out]; simp [lefts_nil], Nat.le_trans (by simpa using hsz0) hk3.1, fun k hk => (hk3.2.2 k hk).trans ((Below.heap_setCell _ _ _ _ (by show k ≠ C; omega)).trans (HOLD.out k hk))⟩
            case measure =>
              have q1 := hcb3.cell 0
              have q2 := hcb.cell 0
              have q3 := hcb0.cell 0
              simp at q1 q2 q3
              first | rw [lenAt_of q1, lenAt_of q2] | rw [lenAt_of q1, lenAt_of q3]
              omega
          · gi_wp2
            (try rw [Exit.noGoto_normal])
            go_end0
            exact ⟨⟨_, rfl⟩, .inr ⟨_, by rw [HO.out, lefts_end x0 HA.out, HPE.out]; simp, hJx3⟩⟩
        · have hn0 : n2 ≠ 0 := fun h => ha (hz.1 h)
          have gn : decide (0 < n2) = true := by simp; omega
          have HA := Lib.hid (show allc 0 (x :: t) = false by simpa using ha)
          clear ha hz hn0
          obtain ⟨fn, tmps, assign, body, hy, hR⟩ := hY pre (-1) w0 hJ0 (by rw [HO.out, lefts_end' x0 HA.out]; simp)
          clear hY
          gi_wp2
          refine hR.mono ?_
          rintro e W3 (⟨rfl, hJ3, hk3⟩ | ⟨rfl, hJx3⟩)
          · gi_wp2
            (try rw [Exit.noGoto_normal])
            go_end0
            exact ⟨⟨_, rfl⟩, .inl ⟨_, by rw [HO.out, lefts_end' x0 HA.out], hJ3⟩⟩
          · gi_wp2
            (try rw [Exit.noGoto_normal])
            go_end0
            exact ⟨⟨_, rfl⟩, .inr ⟨_, by rw [HO.out, lefts_end' x0 HA.out]; exact List.prefix_refl _, hJx3⟩⟩
      · have g0 : ((x.toNat : Int) == 0) = false := by simpa using x0
        by_cases x1 : x.toNat = 1
        · have g1 : ((x.toNat : Int) == 1) = true := by simp; omega
          obtain ⟨w0, hw0⟩ : ∃ w0, w0 = wr := ⟨_, rfl⟩
          have hJ0 : J pre w0 := by rw [hw0]; exact hJ
          have hcb0 : Blk w0 C 24 #[.slice (some ⟨bb, oo, none⟩) m c] := by rw [hw0]; exact hcb
          have hsz0 : Wd.heap.size ≤ w0.heap.size := by rw [hw0]; exact hsz
          have hold0 : ∀ k, k < Wd.heap.size → w0.heap[k]? = Wd.heap[k]? := by rw [hw0]; exact hold
          have d00 : w0.cell? ⟨bb, oo, none⟩ = some (.int .u8 (x.toNat : Int)) := by rw [hw0]; exact d0
          have e0 := hcb0.cell 0
          have ef := hcb0.free 0
          simp only [List.getElem?_toArray, List.getElem?_cons_zero] at e0
          rw [← hw0]
          have HOLD := Lib.hid hold0
          clear hw0 hold0
          gi_wp2_with ((with_reducible refine at_slotIn 52 ?_); refine wpListIn_slice (v := .slice (some ⟨bb, oo, none⟩) m c) (l := x :: t) (Wd := Wd) rfl (.tmp 50) (some (.tmp 51)) none rfl hrd rfl 1 (m : Int) (IsBound.yes rfl rfl) (by rw [Hm.out]; exact IsBound.no) (by omega) (by omega) (by rw [Hm.out]; exact Int.le_refl _) ?_; intro p Ap cp hmp hp1 hp2 hp3 hp4 hrp; have hpe : p = t := (by rw [hmp.out, Hm.out]; simp); have HPE := Lib.hid hpe; obtain ⟨fn, tmps, assign, body, hy, hR⟩ := hY pre (p.length : Int) (w0.setCell ⟨C, 0, none⟩ (.slice Ap p.length cp)) (hJC _ _ _ hJ0) (by rw [HO.out, lefts_one x1, hpe]; simp); clear hY hpe)
          refine hR.mono ?_
          have hZ : Blk (w0.setCell ⟨C, 0, none⟩ (.slice Ap p.length cp)) C 24 #[.slice Ap p.length cp] := hcb0.set 0 (.slice Ap p.length cp)
          rintro e W3 (⟨rfl, hJ3, hk3⟩ | ⟨rfl, hJx3⟩)
          · have hcb3 : Blk W3 C 24 #[.slice Ap p.length cp] := hk3.2.1.trans hZ
            gi_wp2
            go_roundw
            case rel => exact ⟨pre ++ [(p.length : Int)], p, _, hJ3, hcb3, hrp, by rw [HO.out, lefts_one x1, HPE.out]; simp, Nat.le_trans (by simpa using hsz0) hk3.1, fun k hk => (hk3.2.2 k hk).trans ((Below.heap_setCell _ _ _ _ (by show k ≠ C; omega)).trans (HOLD.out k hk))⟩
            case measure =>
              have q1 := hcb3.cell 0
              have q2 := hcb.cell 0
              have q3 := hcb0.cell 0
              simp at q1 q2 q3
              first | rw [lenAt_of q1, lenAt_of q2] | rw [lenAt_of q1, lenAt_of q3]
              omega
          · gi_wp2
            (try rw [Exit.noGoto_normal])
            go_end0
            exact ⟨⟨_, rfl⟩, .inr ⟨_, by rw [HO.out, lefts_one x1, HPE.out]; simp, hJx3⟩⟩
        · have g1 : ((x.toNat : Int) == 1) = false := by simp; omega
          have hx2 : 2 ≤ x.toNat := by omega
          cases t with
          | nil =>
            have hm2 : m = 1 := by rw [Hm.out]; rfl
            subst hm2
            gi_wp2_with fail
            gi_quiet (fail)
            obtain ⟨w0, hw0⟩ : ∃ w0, w0 = wr.drewN nq := ⟨_, rfl⟩
            have hJ0 : J pre w0 := by rw [hw0]; exact hJD pre wr nq hJ
            have hcb0 : Blk w0 C 24 #[.slice (some ⟨bb, oo, none⟩) 1 c] := by rw [hw0]; exact hcb
            have hsz0 : Wd.heap.size ≤ w0.heap.size := by rw [hw0]; exact hsz
            have hold0 : ∀ k, k < Wd.heap.size → w0.heap[k]? = Wd.heap[k]? := by rw [hw0]; exact hold
            have d00 : w0.cell? ⟨bb, oo, none⟩ = some (.int .u8 (x.toNat : Int)) := by rw [hw0]; exact d0
            have e0 := hcb0.cell 0
            have ef := hcb0.free 0
            simp only [List.getElem?_toArray, List.getElem?_cons_zero] at e0
            rw [← hw0]
            have HOLD := Lib.hid hold0
            clear hw0 hold0
            obtain ⟨fn, tmps, assign, body, hy, hR⟩ := hY pre (-1) w0 hJ0 (by rw [HO.out, lefts_short hx2]; simp)
            clear hY
            gi_wp2
            refine hR.mono ?_
            rintro e W3 (⟨rfl, hJ3, hk3⟩ | ⟨rfl, hJx3⟩)
            · gi_wp2
              (try rw [Exit.noGoto_normal])
              go_end0
              exact ⟨⟨_, rfl⟩, .inl ⟨_, by rw [HO.out, lefts_short hx2], hJ3⟩⟩
            · gi_wp2
              (try rw [Exit.noGoto_normal])
              go_end0
              exact ⟨⟨_, rfl⟩, .inr ⟨_, by rw [HO.out, lefts_short hx2]; exact List.prefix_refl _, hJx3⟩⟩
          | cons s t =>
            have hst := Hcs.out 1 (by simp)
            simp only [List.getElem_cons_succ, List.getElem_cons_zero] at hst
            have hmt : m = t.length + 2 := by rw [Hm.out]; rfl
            have Hmt := Lib.hid hmt
            have hm2 : (2 : Int) ≤ (m : Int) := by omega
            have i1 : (1 : Int) < (m : Int) := by omega
            have gl : decide ((m : Int) < 2) = false := by simp; omega
            clear hmt
            have hs := UInt8.toNat_lt s
            by_cases hbad : s.toNat < 2
            · have g2 : decide ((s.toNat : Int) < 2) = true := by simp; omega
              gi_wp2_with fail
              gi_quiet (fail)
              obtain ⟨w0, hw0⟩ : ∃ w0, w0 = wr.drewN nq := ⟨_, rfl⟩
              have hJ0 : J pre w0 := by rw [hw0]; exact hJD pre wr nq hJ
              have hcb0 : Blk w0 C 24 #[.slice (some ⟨bb, oo, none⟩) m c] := by rw [hw0]; exact hcb
              have hsz0 : Wd.heap.size ≤ w0.heap.size := by rw [hw0]; exact hsz
              have hold0 : ∀ k, k < Wd.heap.size → w0.heap[k]? = Wd.heap[k]? := by rw [hw0]; exact hold
              have d00 : w0.cell? ⟨bb, oo, none⟩ = some (.int .u8 (x.toNat : Int)) := by rw [hw0]; exact d0
              have e0 := hcb0.cell 0
              have ef := hcb0.free 0
              simp only [List.getElem?_toArray, List.getElem?_cons_zero] at e0
              rw [← hw0]
              have HOLD := Lib.hid hold0
              clear hw0 hold0
              obtain ⟨fn, tmps, assign, body, hy, hR⟩ := hY pre (-1) w0 hJ0 (by rw [HO.out, lefts_bad hx2 (.inl hbad)]; simp)
              clear hY
              gi_wp2
              refine hR.mono ?_
              rintro e W3 (⟨rfl, hJ3, hk3⟩ | ⟨rfl, hJx3⟩)
              · gi_wp2
                (try rw [Exit.noGoto_normal])
                go_end0
                exact ⟨⟨_, rfl⟩, .inl ⟨_, by rw [HO.out, lefts_bad hx2 (.inl hbad)], hJ3⟩⟩
              · gi_wp2
                (try rw [Exit.noGoto_normal])
                go_end0
                exact ⟨⟨_, rfl⟩, .inr ⟨_, by rw [HO.out, lefts_bad hx2 (.inl hbad)]; exact List.prefix_refl _, hJx3⟩⟩
            · have g2 : decide ((s.toNat : Int) < 2) = false := by simp; omega
              by_cases hbad2 : m < s.toNat
              · have g3 : decide (m < s.toNat) = true := by simpa using hbad2
                have hb2 : s.toNat < 2 ∨ t.length + 2 < s.toNat := .inr (by rw [← Hmt.out]; exact hbad2)
                clear hbad hbad2
                gi_wp2_with fail
                gi_quiet (fail)
                obtain ⟨w0, hw0⟩ : ∃ w0, w0 = wr.drewN nq := ⟨_, rfl⟩
                have hJ0 : J pre w0 := by rw [hw0]; exact hJD pre wr nq hJ
                have hcb0 : Blk w0 C 24 #[.slice (some ⟨bb, oo, none⟩) m c] := by rw [hw0]; exact hcb
                have hsz0 : Wd.heap.size ≤ w0.heap.size := by rw [hw0]; exact hsz
                have hold0 : ∀ k, k < Wd.heap.size → w0.heap[k]? = Wd.heap[k]? := by rw [hw0]; exact hold
                have d00 : w0.cell? ⟨bb, oo, none⟩ = some (.int .u8 (x.toNat : Int)) := by rw [hw0]; exact d0
                have e0 := hcb0.cell 0
                have ef := hcb0.free 0
                simp only [List.getElem?_toArray, List.getElem?_cons_zero] at e0
                rw [← hw0]
                have HOLD := Lib.hid hold0
                clear hw0 hold0
                obtain ⟨fn, tmps, assign, body, hy, hR⟩ := hY pre (-1) w0 hJ0 (by rw [HO.out, lefts_bad hx2 hb2]; simp)
                clear hY
                gi_wp2
                refine hR.mono ?_
                rintro e W3 (⟨rfl, hJ3, hk3⟩ | ⟨rfl, hJx3⟩)
                · gi_wp2
                  (try rw [Exit.noGoto_normal])
                  go_end0
                  exact ⟨⟨_, rfl⟩, .inl ⟨_, by rw [HO.out, lefts_bad hx2 hb2], hJ3⟩⟩
                · gi_wp2
                  (try rw [Exit.noGoto_normal])
                  go_end0
                  exact ⟨⟨_, rfl⟩, .inr ⟨_, by rw [HO.out, lefts_bad hx2 hb2]; exact List.prefix_refl _, hJx3⟩⟩
              · have g3 : decide (m < s.toNat) = false := by simpa using hbad2
                have hs2 : (2 : Int) ≤ (s.toNat : Int) := by omega
                have hs3 : (s.toNat : Int) ≤ (m : Int) := by omega
                have hopt2 := lefts_more (x := x) (s := s) (t := t) hx2 (by omega) (by rw [← Hmt.out]; omega)
                have HO2 := Lib.hid hopt2
                clear hbad hbad2 hopt2
                gi_wp2_with fail
                gi_quiet (fail)
                obtain ⟨w0, hw0⟩ : ∃ w0, w0 = wr.drewN nq := ⟨_, rfl⟩
                have hJ0 : J pre w0 := by rw [hw0]; exact hJD pre wr nq hJ
                have hcb0 : Blk w0 C 24 #[.slice (some ⟨bb, oo, none⟩) m c] := by rw [hw0]; exact hcb
                have hsz0 : Wd.heap.size ≤ w0.heap.size := by rw [hw0]; exact hsz
                have hold0 : ∀ k, k < Wd.heap.size → w0.heap[k]? = Wd.heap[k]? := by rw [hw0]; exact hold
                have d00 : w0.cell? ⟨bb, oo, none⟩ = some (.int .u8 (x.toNat : Int)) := by rw [hw0]; exact d0
                have e0 := hcb0.cell 0
                have ef := hcb0.free 0
                simp only [List.getElem?_toArray, List.getElem?_cons_zero] at e0
                have hst0 : w0.cell? ⟨bb, oo + 1, none⟩ = some (.int .u8 (s.toNat : Int)) := by rw [hw0]; exact hst
                rw [← hw0]
                have HOLD := Lib.hid hold0
                clear hw0 hold0
                gi_wp2_with ((with_reducible refine at_slotIn 52 ?_); refine wpListIn_slice (v := .slice (some ⟨bb, oo, none⟩) m c) (l := x :: s :: t) (Wd := Wd) rfl (.tmp 50) (some (.tmp 51)) none rfl hrd rfl (s.toNat : Int) (m : Int) (IsBound.yes rfl rfl) (by rw [Hm.out]; exact IsBound.no) (by omega) (by omega) (by rw [Hm.out]; exact Int.le_refl _) ?_; intro p Ap cp hmp hp1 hp2 hp3 hp4 hrp; have hpe : p = (x :: s :: t).drop s.toNat := (by rw [hmp.out, Int.toNat_natCast, Int.toNat_natCast, List.take_of_length_le (by rw [← Hm.out]; exact Nat.le_refl _)]); have HPE := Lib.hid hpe; obtain ⟨fn, tmps, assign, body, hy, hR⟩ := hY pre (p.length : Int) (w0.setCell ⟨C, 0, none⟩ (.slice Ap p.length cp)) (hJC _ _ _ hJ0) (by rw [HO.out, HO2.out, hpe]; simp); clear hY hpe)
                refine hR.mono ?_
                have hZ : Blk (w0.setCell ⟨C, 0, none⟩ (.slice Ap p.length cp)) C 24 #[.slice Ap p.length cp] := hcb0.set 0 (.slice Ap p.length cp)
                rintro e W3 (⟨rfl, hJ3, hk3⟩ | ⟨rfl, hJx3⟩)
                · have hcb3 : Blk W3 C 24 #[.slice Ap p.length cp] := hk3.2.1.trans hZ
                  gi_wp2
                  go_roundw
                  case rel => exact ⟨pre ++ [(p.length : Int)], p, _, hJ3, hcb3, hrp, by rw [HO.out, HO2.out, HPE.out]; simp, Nat.le_trans (by simpa using hsz0) hk3.1, fun k hk => (hk3.2.2 k hk).trans ((Below.heap_setCell _ _ _ _ (by show k ≠ C; omega)).trans (HOLD.out k hk))⟩
                  case measure =>
                    have q1 := hcb3.cell 0
                    have q2 := hcb.cell 0
                    have q3 := hcb0.cell 0
                    simp at q1 q2 q3
                    first | rw [lenAt_of q1, lenAt_of q2] | rw [lenAt_of q1, lenAt_of q3]
                    omega
                · gi_wp2
                  (try rw [Exit.noGoto_normal])
                  go_end0
                  exact ⟨⟨_, rfl⟩, .inr ⟨_, by rw [HO.out, HO2.out, HPE.out]; simp, hJx3⟩⟩
/-- The teller of options, ready to be asked. -/
theorem options_cap (n : Nat) (hn : 1 ≤ n) (C : Nat) (Wd w : World) (v : Value) (b : List UInt8) (hC : Wd.heap.size ≤ C) (hcb : Blk w C 24 #[v]) (hv : Rd Wd v b) (hs : Wd.heap.size ≤ w.heap.size) (hold : ∀ k, k < Wd.heap.size → w.heap[k]? = Wd.heap[k]?) :
    SeqCap Fence.wide n Tryd.prog 39 #[.pointer (some ⟨C, 0, none⟩)] (fun x : Int => #[.int .i64 x]) (fun x => x ∈ lefts b) (OKp Wd.heap.size C) (fun xs => xs = lefts b) (fun pre => pre <+: lefts b) C w :=
  fun l J Jx W _ hsz hW hJC hJD hY h0 => options1_in n hn l C b J Jx Wd hC hJC hJD hY W v ((hW C hcb.lt).trans hcb) hv (Nat.le_trans hs hsz) (fun k hk => (hW k (by omega)).trans (hold k hk)) h0
set_option maxHeartbeats 400000 in
theorem ioptions (A : Option Addr) (m c : Nat) (w : World) :
    Calls Tryd.prog 33 #[.slice A m c] w fun e w' => e = .returned (.func (.func 39) #[] #[.pointer (some ⟨w.heap.size, 0, none⟩)]) ∧ w.alloc (.cells #[.slice A m c] 24) = w' := by
  go_enter Tryd.func33, Tryd.ntmps33
  go_wp2
  go_ret
  exact ⟨rfl, rfl⟩
end Go.Proofs.YtbhdojpgjmbogaaDoor
