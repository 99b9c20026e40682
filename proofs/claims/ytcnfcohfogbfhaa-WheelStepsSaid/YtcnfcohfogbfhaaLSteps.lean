/- WheelSteps: the walk: it answers true. -/
import Derived.Test.YtcnfcohfogbfhaaWSteps
namespace Go.Proofs.Ytcnfcohfogbfhaa
open Go.RowKit Go.Shelf
theorem StepAt.redue {w wr w2 : World} {p1 p2 d : Nat} {N : Nat} {t : TypeId} {V1 V2 : Nat → Value} {n1 n2 : Int} {A1 A2 : List Tm} {o1 o2 : Int} {f g : Nat → Int} (h : StepAt w wr p1 p2 d N t V1 V2 n1 n2 A1 A2 o1 o2 f) (ht : Touch (fun x => x = d) wr w2) (hd : Blk w2 d t (dcells N g)) :
    StepAt w w2 p1 p2 d N t V1 V2 n1 n2 A1 A2 o1 o2 g :=
  ⟨h.at1.touch ht (fun _ hk e => h.off1 (e ▸ hk)), h.at2.touch ht (fun _ hk e => h.off2 (e ▸ hk)), hd, h.dis, h.off1, h.off2, h.base, h.below.trans (ht.below (fun x hx => by rw [hx]; exact h.base) h.below.size)⟩
theorem zero100 (w : World) : (zeroValue 28).run Try.prog w = .ok (.agg (dcells 100 fun _ => 0)) w := by kernel_rfl
set_option maxRecDepth 100000 in
set_option maxHeartbeats 20000000 in
theorem law_steps (now far : Int) (v : Value) (l : List Ocl) (w : World) (hr : RdC w v l) (hl : l.length ≤ 140737488351232) :
    Calls Try.prog 3 #[.int .i64 now, v, .int .i64 far] w fun e w' => e = .returned (.bool true) ∧ Below w.heap.size w w' := by
  obtain ⟨Al, cl, rfl, _, _⟩ := hr.form
  obtain ⟨n, hn⟩ : ∃ n, n = l.length := ⟨_, rfl⟩
  rw [← hn] at hr hl ⊢
  have HN := Lib.hid hn
  clear hn
  by_cases hg : now < 0 ∨ 549755813888 < now ∨ far < 0 ∨ 300 < far
  · by_cases g1 : now < 0
    · have q1 : decide (now < 0) = true := by simpa using g1
      clear hg g1
      go_enter Try.func3, Try.ntmps3
      go_wp2_with fail
      refine (wawake w).mono ?_
      rintro e w1 ⟨rfl, hb1⟩
      go_wp2
      go_ret
      exact ⟨rfl, hb1⟩
    have q1 : decide (now < 0) = false := by simpa using g1
    by_cases g2 : 549755813888 < now
    · have q2 : decide (549755813888 < now) = true := by simpa using g2
      clear hg g1 g2
      go_enter Try.func3, Try.ntmps3
      go_wp2_with fail
      refine (wawake w).mono ?_
      rintro e w1 ⟨rfl, hb1⟩
      go_wp2
      go_ret
      exact ⟨rfl, hb1⟩
    have q2 : decide (549755813888 < now) = false := by simpa using g2
    by_cases g3 : far < 0
    · have q3 : decide (far < 0) = true := by simpa using g3
      clear hg g1 g2 g3
      go_enter Try.func3, Try.ntmps3
      go_wp2_with fail
      refine (wawake w).mono ?_
      rintro e w1 ⟨rfl, hb1⟩
      go_wp2
      go_ret
      exact ⟨rfl, hb1⟩
    have q3 : decide (far < 0) = false := by simpa using g3
    have q4 : decide (300 < far) = true := by simp; omega
    clear hg g1 g2 g3
    go_enter Try.func3, Try.ntmps3
    go_wp2_with fail
    refine (wawake w).mono ?_
    rintro e w1 ⟨rfl, hb1⟩
    go_wp2
    go_ret
    exact ⟨rfl, hb1⟩
  have g1 : 0 ≤ now := by omega
  have g2 : now ≤ 549755813888 := by omega
  have g3 : 0 ≤ far := by omega
  have g4 : far ≤ 300 := by omega
  have q1 : decide (now < 0) = false := by simpa using g1
  have q2 : decide (549755813888 < now) = false := by simpa using g2
  have q3 : decide (far < 0) = false := by simpa using g3
  have q4 : decide (300 < far) = false := by simpa using g4
  clear hg
  go_enter Try.func3, Try.ntmps3
  go_wp2_with fail
  refine (wawake w).mono ?_
  rintro e w1 ⟨rfl, hb1⟩
  go_wp2_with fail
  refine (tnew now (by unfold tickB; simp; omega) w1 w.heap.size hb1.size).mono ?_
  rintro e w2 ⟨rfl, h2, hb2⟩
  obtain ⟨p1, hp1⟩ : ∃ p, p = w1.heap.size := ⟨_, rfl⟩
  rw [← hp1] at h2 ⊢
  have hB2 := below_step hb1 hb1.size hb2
  clear hb1 hb2 hp1
  go_wp2_with fail
  refine (tnew now (by unfold tickB; simp; omega) w2 w.heap.size hB2.size).mono ?_
  rintro e w3 ⟨rfl, h3, hb3⟩
  obtain ⟨p2, hp2⟩ : ∃ p, p = w2.heap.size := ⟨_, rfl⟩
  rw [← hp2] at h3 ⊢
  have hB3 := below_step hB2 hB2.size hb3
  have hne : p1 ≠ p2 := by have := h2.blk.lt; omega
  have h23 := h2.mono hb3
  clear h2 hb3 hp2 hB2
  have ka := zero100
  go_upto_region 9 with (fail)
  clear ka
  refine boxD (motive := fun X => Code.wp Try.prog _ _ _ X) ?_
  intro X hBX hX hbx
  obtain ⟨d, hd⟩ : ∃ d, d = w3.heap.size := ⟨_, rfl⟩
  rw [← hd] at hbx ⊢
  have hft : ∀ (p k : Nat), Ft p (fun _ => noS) k → k = p := fun p k h => h.elim id fun ⟨_, _, e⟩ => by cases e
  have hS : StepAt w X p1 p2 d 100 28 (fun _ => noS) (fun _ => noS) now now [] [] 0 0 (fun i => dueOf [] i) :=
    ⟨h23.mono hBX, h3.mono hBX, hbx, (fun k h1 h2 => hne ((hft _ _ h1).symm.trans (hft _ _ h2))), (fun h => by have := hft _ _ h; have := h23.blk.lt; omega), (fun h => by have := hft _ _ h; have := h3.blk.lt; omega),
      by have := hB3.size; omega, below_step hB3 hB3.size hBX⟩
  have ok0 : WOk now [] 0 := .new g1
  clear h23 h3 hBX hX hbx hd hB3 hft hne
  go_wp2
  go_loopw [13, 14, 15, 16, 17, 18, 19] (fun i _ _ _ _ _ _ wr => ∃ (k : Nat) (A : List Tm) (ord : Int) (V1 V2 : Nat → Value), i = .int .i64 k ∧ k ≤ n ∧ StepAt w wr p1 p2 d 100 28 V1 V2 now now A A ord ord (fun i => dueOf A i) ∧ Hid (WOk now A ord ∧ Ids 100 A ∧ ord ≤ k)) (fun i _ _ _ _ _ _ _ => n - (intOf i).toNat)
  case atStart => exact ⟨0, [], 0, _, _, rfl, Nat.zero_le _, hS, ⟨ok0, fun t ht => by simp at ht, by omega⟩⟩
  case round =>
    obtain ⟨k, A, ord, V1, V2, rfl, hk, h, hH⟩ := hrel
    clear hS ok0
    have hok := hH.out.1
    have hids := hH.out.2.1
    have hord := hH.out.2.2
    by_cases hkl : k < n
    · have hki : k < l.length := by rw [← HN.out]; exact hkl
      obtain ⟨b0, o0, rfl, hb0, hc⟩ := (hr.mono h.below).at_ o_len (by omega)
      obtain ⟨o, ho⟩ : ∃ o, o = l[k] := ⟨_, rfl⟩
      obtain ⟨kd, hkd⟩ : ∃ kd, kd = o.kind := ⟨_, rfl⟩
      have c0 := hc k hki 0 (.int .i64 kd) (by subst hkd ho; rfl)
      have c1 := hc k hki 1 (.int .i64 o.id) (by subst ho; rfl)
      have c2 := hc k hki 2 (.int .i64 o.tk) (by subst ho; rfl)
      rw [Nat.add_zero] at c0
      obtain ⟨-, -, -, er1, er2⟩ := tmod_pos o.id 100 (by decide)
      obtain ⟨-, -, -, es1, es2⟩ := tmod_pos o.tk 400 (by decide)
      obtain ⟨m1, hm1⟩ : ∃ m1, o.id.tmod 100 = m1 := ⟨_, rfl⟩
      obtain ⟨m2, hm2⟩ : ∃ m2, o.tk.tmod 400 = m2 := ⟨_, rfl⟩
      have b12 : m1 < 100 := by rw [← hm1]; exact er2
      have b21 : -400 < m2 := by rw [← hm2]; exact es1
      have b22 : m2 < 400 := by rw [← hm2]; exact es2
      have q0 : decide ((k : Int) < n) = true := by simpa using hkl
      clear hc ho hkd er1 er2 es1 es2 hH
      by_cases hneg : m1 < 0
      · have q5 : decide (m1 < 0) = true := by simpa using hneg
        have HK := Lib.hid (And.intro hok (And.intro hids (show ord ≤ ((k + 1 : Nat) : Int) by omega)))
        clear hok hids hord hneg
        go_wp2
        go_roundw
        case rel => exact ⟨k + 1, A, ord, V1, V2, by go_num, by omega, h, HK.out⟩
        case measure => simp [intOf]; omega
      · obtain ⟨r, rfl⟩ := Int.eq_ofNat_of_zero_le (show 0 ≤ m1 by omega)
        have hr100 : r < 100 := by omega
        have hr' : (r : Int) < 100 := by omega
        have q5 : decide ((r : Int) < 0) = false := by simp
        clear hneg
        by_cases hz : kd = 1
        · subst hz
          have ok' := hok.rid r
          have ids' := hids.rid r
          have hx := has_dec hok r
          obtain ⟨cz, hcz⟩ : ∃ cz : Int, cz = if has A r = true then 0 else 7 := ⟨_, rfl⟩
          have hcx : (cz == 0) = has A r := by rw [hcz]; cases has A r <;> rfl
          have HCZ := Lib.hid hcz
          clear hcz
          go_wp2_with fail
          refine (tcancel h.at1 hok.uniq hok.len r).mono ?_
          rintro e w4 ⟨rfl, V1', a1, a2, a3⟩
          have h4 := h.one a1 a2 a3
          rw [← HCZ.out]
          clear a1 a2 a3 h c0 c1 c2
          go_wp2_with fail
          refine (tcancel h4.at2 hok.uniq hok.len r).mono ?_
          rintro e w5 ⟨rfl, V2', b1, b2, b3⟩
          have h5 := h4.two b1 b2 b3
          rw [← HCZ.out]
          have cd : w5.cell? ⟨d, r, none⟩ = some (.int .i64 (dueOf A r)) := by rw [h5.due.cell, dcells_at _ _ _ hr100]
          have fd := h5.due.free r
          have h6 := h5.put r 0 (g := fun i => dueOf (rid A r) i) (fun j _ => by
            rw [dueOf_rid]
            by_cases e : j = r
            · rw [if_pos e, if_pos (by omega)]
            · rw [if_neg e, if_neg (by omega)])
          have HK := Lib.hid (And.intro ok' (And.intro ids' (show ord ≤ ((k + 1 : Nat) : Int) by omega)))
          clear b1 b2 b3 h4 h5 HCZ ok' ids' hok hids hord
          generalize dueOf A r = du at cd hx
          generalize has A r = x at hx hcx
          go_wp2
          go_roundw
          case rel => exact ⟨k + 1, rid A r, ord, V1', V2', by go_num, by omega, h6, HK.out⟩
          case measure => simp [intOf]; omega
        · have q6 : (kd == 1) = false := by simpa using hz
          obtain ⟨E, hE⟩ : ∃ E, E = armE now A r (now + m2) := ⟨_, rfl⟩
          have hok' := hok.arm r (now + m2)
          have hids' := hids.arm (now := now) (ord := ord) (id := r) (tk := now + m2) (by omega) hr'
          have hOle := armO_le now A ord r (now + m2)
          have hft : InI (now + m2) := by unfold InI; omega
          clear hz
          go_wp2_with fail
          refine (tarm h.at1 hok.uniq hok.len hok.now0 hok.ord0 (by omega) r (now + m2)).mono ?_
          rintro e w4 ⟨rfl, V1', a1, a2, a3⟩
          have h4 := h.one a1 a2 a3
          rw [← hE]
          clear a1 a2 a3 h c0 c1 c2
          have HE := Lib.hid hE
          clear hE
          go_wp2_with fail
          refine (tarm h4.at2 hok.uniq hok.len hok.now0 hok.ord0 (by omega) r (now + m2)).mono ?_
          rintro e w5 ⟨rfl, V2', b1, b2, b3⟩
          have h5 := h4.two b1 b2 b3
          rw [← HE.out]
          clear b1 b2 b3 h4
          by_cases hE0 : E = 0
          · have hE1 : armE now A r (now + m2) = 0 := by rw [← HE.out]; exact hE0
            have fd := h5.due.free r
            have cd : w5.cell? ⟨d, r, none⟩ = some (.int .i64 (dueOf A r)) := by rw [h5.due.cell, dcells_at _ _ _ hr100]
            have h6 := h5.put r (now + m2) (g := fun i => dueOf (armL now A ord r (now + m2)) i) (fun j _ => by
              rw [dueOf_arm hE1]
              by_cases e : j = r
              · rw [if_pos e, if_pos (by omega)]
              · rw [if_neg e, if_neg (by omega)])
            subst hE0
            have HK := Lib.hid (And.intro hok' (And.intro hids' (show armO now A ord r (now + m2) ≤ ((k + 1 : Nat) : Int) by omega)))
            generalize armL now A ord r (now + m2) = A' at h6 HK
            generalize armO now A ord r (now + m2) = O' at h6 HK
            clear h5 hok' hids' hok hids hord hOle hE1 HE
            go_wp2
            go_roundw
            case rel => exact ⟨k + 1, A', O', V1', V2', by go_num, by omega, h6, HK.out⟩
            case measure => simp [intOf]; omega
          · have hA : armL now A ord r (now + m2) = A := by unfold armL; rw [← HE.out, if_neg hE0]
            have hO : armO now A ord r (now + m2) = ord := by unfold armO; rw [← HE.out, if_neg hE0]
            rw [hA, hO] at h5
            have q7 : (E == 0) = false := by simpa using hE0
            have HK := Lib.hid (And.intro hok (And.intro hids (show ord ≤ ((k + 1 : Nat) : Int) by omega)))
            clear hok' hids' hok hids hord hOle hA hO HE hE0
            go_wp2
            go_roundw
            case rel => exact ⟨k + 1, A, ord, V1', V2', by go_num, by omega, h5, HK.out⟩
            case measure => simp [intOf]; omega
    · have q0 : decide ((k : Int) < n) = false := by simp; omega
      have ho62 : ord ≤ 4611686018427387904 := by omega
      obtain ⟨fN, rfl⟩ := Int.eq_ofNat_of_zero_le g3
      have hft : InI (now + (fN : Int)) := by unfold InI; omega
      clear hH hr
      go_wp2_with fail
      refine (tadv h.at1 hok.len (hok.sm ho62) (now + (fN : Int)) (by omega) (by omega)).mono ?_
      rintro e w4 ⟨va, F, V1', rfl, hp, hs, ho4, -, a1, a2, a3⟩
      have h4 := h.one a1 a2 a3
      have hva : ∀ g, va.ownBlock = some g → g ≠ d ∧ ¬ Ft p2 V2 g := fun g hg => by
        have h1 := (ho4.lt hg).1
        refine ⟨fun e => ?_, fun e => ?_⟩
        · have := h.due.lt; omega
        · have := (h.at2.lt e).2; omega
      have hra := ho4.less h.below.size
      obtain ⟨Aa, ca, rfl, _, _⟩ := ho4.form
      have hml : (F.map ctl).length = F.length := List.length_map _
      have hF64 : F.length ≤ 64 := by
        have h1 := hok.len
        have h2 : (A.filter fun t => decide (t.due ≤ now + (fN : Int))).length ≤ A.length := List.length_filter_le _ _
        rw [hp.length_eq]
        omega
      obtain ⟨m, hm⟩ : ∃ m, m = F.length := ⟨_, rfl⟩
      rw [hml, ← hm] at hra hva ⊢
      rw [← hm] at hF64
      have HM := Lib.hid hm
      have hz0 := till_none hok hp
      have h5 : StepAt w w4 p1 p2 d 100 28 V1' V2 (now + (fN : Int)) (now + ((0 : Nat) : Int)) (stL A (now + (fN : Int))) (stL A (now + ((0 : Nat) : Int))) ord ord (struck A F (till F (now + ((0 : Nat) : Int))).length) := by
        have e : now + ((0 : Nat) : Int) = now := by simp
        rw [e, stL_now hok, hz0]
        exact h4.as (fun j _ => (struck_zero A F j).symm)
      have e0 : ((till F (now + ((0 : Nat) : Int))).length : Int) = 0 := by rw [show now + ((0 : Nat) : Int) = now by simp, hz0]; rfl
      have HP := Lib.hid hp
      have HS := Lib.hid hs
      clear a1 a2 a3 h h4 ho4 hml hm hz0 hp hs
      go_wp2
      go_loopw [22, 23, 24, 25, 26] (fun kk i _ _ _ wx => ∃ (j : Nat) (V2' : Nat → Value), kk = .int .i64 (till F (now + (j : Int))).length ∧ i = .int .i64 ((j : Int) + 1) ∧ j ≤ fN ∧ StepAt w wx p1 p2 d 100 28 V1' V2' (now + (fN : Int)) (now + (j : Int)) (stL A (now + (fN : Int))) (stL A (now + (j : Int))) ord ord (struck A F (till F (now + (j : Int))).length) ∧ OwF wx w.heap.size (.slice Aa m ca) (F.map ctl) ∧ (∀ g, (Value.slice Aa m ca).ownBlock = some g → g ≠ d ∧ ¬ Ft p2 V2' g)) (fun _ i _ _ _ _ => fN + 1 - (intOf i).toNat)
      case atStart => exact ⟨0, V2, by rw [e0], by simp, Nat.zero_le _, h5, hra, hva⟩
      case round =>
        obtain ⟨j, V2', rfl, rfl, hj, h6, hra6, hva6⟩ := hrel
        clear h5 hra hva e0
        by_cases hjf : j < fN
        · have q8 : decide ((j : Int) + 1 ≤ (fN : Int)) = true := by simp; omega
          have okj := hok.adv (tk := now + (j : Int)) (by omega)
          have hfj : InI (now + ((j : Int) + 1)) := by unfold InI; omega
          go_wp2_with fail
          refine (tadv h6.at2 okj.len (okj.sm ho62) (now + ((j : Int) + 1)) (by omega) (by omega)).mono ?_
          rintro e w7 ⟨vs, G, V2n, rfl, hgp, hgs, ho7, -, b1, b2, b3⟩
          rw [stL_stL A (by omega)] at b1
          have h7 := h6.two b1 b2 b3
          have hG := step_part hok HP.out HS.out (x := now + (j : Int)) (y := now + ((j : Int) + 1)) (by omega) hgp hgs
          have hra7 := hra6.touch b2 (fun g hg => (hva6 g hg).2)
          have hva7 : ∀ g, (Value.slice Aa m ca).ownBlock = some g → g ≠ d ∧ ¬ Ft p2 V2n g := fun g hg => ⟨(hva6 g hg).1, fun hf => by
            rcases b3 g hf with e | e
            · exact (hva6 g hg).2 e
            · have := (hra6.lt hg).2
              omega⟩
          obtain ⟨K, hK⟩ : ∃ K, K = (till F (now + (j : Int))).length := ⟨_, rfl⟩
          rw [← hK] at h7 ⊢
          have hnext : (till F (now + ((j + 1 : Nat) : Int))).length = K + G.length := by
            rw [show now + ((j + 1 : Nat) : Int) = now + ((j : Int) + 1) by simp, sorted_split HS.out (now + (j : Int)) (now + ((j : Int) + 1)) (by omega), List.length_append, ← hG, hK]
          have hFs : F = till F (now + (j : Int)) ++ (G ++ amid F (now + ((j : Int) + 1)) (now + (fN : Int))) := by
            rw [← List.append_assoc, hG, ← sorted_split HS.out (now + (j : Int)) (now + ((j : Int) + 1)) (by omega), ← sorted_split HS.out (now + ((j : Int) + 1)) (now + (fN : Int)) (by omega), till_all HP.out]
          have hlenF : K + G.length ≤ F.length := by
            have := congrArg List.length hFs
            rw [List.length_append, List.length_append] at this
            omega
          have hat : ∀ (i : Nat) (hi : i < G.length), F[K + i]? = some G[i] := by
            intro i hi
            have e : F[K + i]? = G[i]? := by
              conv => lhs; rw [hFs]
              rw [List.getElem?_append_right (by omega), List.getElem?_append_left (by omega)]
              congr 1
              omega
            rw [e, List.getElem?_eq_getElem hi]
          have hdueG : ∀ t ∈ G, t.due = now + ((j : Int) + 1) := by
            intro t ht
            rw [hG] at ht
            have h2 := (List.mem_filter.1 ht).2
            simp at h2
            omega
          have hrs := ho7.rd
          have hvs : ∀ g, vs.ownBlock = some g → g ≠ d := fun g hg e => by
            have h1 := (ho7.lt hg).1
            have := h6.due.lt
            omega
          obtain ⟨As, cs, rfl, _, _⟩ := ho7.form
          have hml7 : (G.map ctl).length = G.length := List.length_map _
          obtain ⟨mg, hmg⟩ : ∃ mg, mg = G.length := ⟨_, rfl⟩
          rw [hml7, ← hmg] at hrs hvs ⊢
          have HMG := Lib.hid hmg
          have HNX := Lib.hid hnext
          have HLF := Lib.hid hlenF
          have HAT := Lib.hid hat
          have HDG := Lib.hid hdueG
          have hmg64 : mg ≤ 64 := by have := HM.out; omega
          have hK64 : K + mg ≤ 64 := by have := HM.out; omega
          clear h6 hra6 hva6 hgp hgs ho7 b1 b2 b3 hG hnext hFs hlenF hat hdueG hml7 hmg okj hK
          have hoffd := h7.due
          go_wp2
          go_loopw [22, 26] (fun kk i wy => ∃ q Q : Nat, kk = .int .i64 Q ∧ i = .int .i64 q ∧ q ≤ mg ∧ Hid (Q = K + q) ∧ Blk wy d 28 (dcells 100 (struck A F Q)) ∧ Touch (fun x => x = d) w7 wy) (fun _ i _ => mg - (intOf i).toNat)
          case atStart => exact ⟨0, K, rfl, rfl, Nat.zero_le _, rfl, hoffd, Touch.refl _ _⟩
          case round =>
            obtain ⟨q, Q, rfl, rfl, hq, hQ, hdu, hT⟩ := hrel
            clear hoffd
            by_cases hqm : q < mg
            · have hqG : q < G.length := by rw [← HMG.out]; exact hqm
              have hQK := hQ.out
              have hQF : Q < F.length := by have := HLF.out; omega
              have hFQ : F[Q] = G[q] := by
                have e := HAT.out q hqG
                rw [← hQK, List.getElem?_eq_getElem hQF] at e
                exact Option.some.inj e
              have hQm : Q < m := by rw [HM.out]; exact hQF
              have htd := HDG.out G[q] (List.getElem_mem hqG)
              have hmem := come_mem HP.out (List.getElem_mem hQF)
              obtain ⟨hi0, hi1⟩ := hids _ hmem.1
              obtain ⟨r, hr⟩ := Int.eq_ofNat_of_zero_le hi0
              have hr100 : r < 100 := by omega
              have hsk := struck_at hok HP.out Q hQF r hr
              have hsu := fun j => struck_succ A F Q hQF r hr j
              obtain ⟨b1, o1, rfl, _, hc1⟩ := (hrs.touch hT (fun g hg e => hvs g hg e)).at_ f_len (by rw [List.length_map, ← HMG.out]; omega)
              obtain ⟨b2, o2, rfl, _, hc2⟩ := (hra7.rd.touch hT (fun g hg e => (hva7 g hg).1 e)).at_ f_len (by rw [List.length_map]; omega)
              have s0 := hc1 q (by rw [List.length_map]; exact hqG) 0 (.int .i64 r) (by simp [ctl, ← hFQ, hr])
              have s1 := hc1 q (by rw [List.length_map]; exact hqG) 1 (.int .i64 (now + ((j : Int) + 1))) (by simp [ctl, htd])
              have a0 := hc2 Q (by rw [List.length_map]; exact hQF) 0 (.int .i64 r) (by simp [ctl, hr])
              have a1 := hc2 Q (by rw [List.length_map]; exact hQF) 1 (.int .i64 (now + ((j : Int) + 1))) (by simp [ctl, hFQ, htd])
              rw [Nat.add_zero] at s0 a0
              have cd : wr.cell? ⟨d, r, none⟩ = some (.int .i64 (now + ((j : Int) + 1))) := by rw [hdu.cell, dcells_at _ _ _ hr100, hsk, hFQ, htd]
              have fd := hdu.free r
              have p1 : decide ((r : Int) < 0) = false := by simp
              have p2 : decide (99 < (r : Int)) = false := by simp; omega
              have p3 : decide (m ≤ Q) = false := by simp; omega
              have w3 : IntKind.i64.wrap (now + ((j : Int) + 1)) = now + ((j : Int) + 1) := by rw [IntKind.wrap_i64]; omega
              have p4 : decide ((q : Int) < mg) = true := by simpa using hqm
              have p5 : (r : Int) < 100 := by omega
              have hdu2 : ∀ x, Blk ((wr.drewN x).setCell ⟨d, r, none⟩ (.int .i64 0)) d 28 (dcells 100 (struck A F (Q + 1))) := fun x => by
                rw [dcells_congr 100 (fun j _ => hsu j), ← dcells_set]
                exact (show Blk (wr.drewN x) d 28 (dcells 100 (struck A F Q)) from hdu).set r _
              have hT2 : ∀ x, Touch (fun x => x = d) w7 ((wr.drewN x).setCell ⟨d, r, none⟩ (.int .i64 0)) := fun x =>
                (show Touch (fun x => x = d) w7 (wr.drewN x) from ⟨hT.os, hT.tape, hT.output, hT.size, hT.block⟩).trans (Touch.set (S := fun x => x = d) (wr.drewN x) (p := ⟨d, r, none⟩) rfl _)
              have HQ := Lib.hid (show Q + 1 = K + (q + 1) by omega)
              have hQ63 : Q ≤ 64 := by omega
              clear hc1 hc2 hmem hi0 hi1 hr hsk hsu htd hdu hT hFQ hQK hQ h7 hok hids hrs hra7
              go_upto_region 38 with (fail)
              go_quiet (fail)
              go_wp2
              go_roundw
              case rel => exact ⟨q + 1, Q + 1, by go_num, by go_num, by omega, HQ.out, hdu2 _, hT2 _⟩
              case measure => simp [intOf]; omega
            · have p4 : decide ((q : Int) < mg) = false := by simp; omega
              have h8 := h7.redue hT hdu
              have hra8 := hra7.touch hT (fun g hg e => (hva7 g hg).1 e)
              have e9 : now + ((j + 1 : Nat) : Int) = now + ((j : Int) + 1) := by simp
              have eQ : Q = (till F (now + ((j + 1 : Nat) : Int))).length := by have h1 := HNX.out; have h2 := hQ.out; have h3 := HMG.out; omega
              rw [← e9, eQ] at h8
              have HQ := Lib.hid eQ
              clear hT hdu h7 hra7 eQ e9 hQ hok hids hrs
              go_wp2
              go_roundw
              case rel => exact ⟨j + 1, V2n, by rw [← HQ.out], by go_num, by omega, h8, hra8, hva7⟩
              case measure => simp [intOf]; omega
        · have q8 : decide ((j : Int) + 1 ≤ (fN : Int)) = false := by simp; omega
          obtain rfl : j = fN := by omega
          have eF : (till F (now + (j : Int))).length = m := by rw [till_all HP.out, HM.out]
          rw [eF] at h6 ⊢
          have h7 := h6.as (g := fun i => dueOf (stL A (now + (j : Int))) i) (fun i _ => by rw [HM.out]; exact struck_all hok HP.out i)
          have okC := hok.adv (tk := now + (j : Int)) (by omega)
          have idsC : Ids 100 (stL A (now + (j : Int))) := fun t ht => hids t (List.mem_filter.1 ht).1
          obtain ⟨C, hC⟩ : ∃ C, C = stL A (now + (j : Int)) := ⟨_, rfl⟩
          rw [← hC] at h7 okC idsC
          clear hC h6 hra6 hva6 eF hok hids
          go_wp2
          go_loopw [27, 28] (fun c i wx => ∃ q : Nat, c = .int .i64 ((C.filter fun t => decide (t.id < (q : Int))).length) ∧ i = .int .i64 q ∧ q ≤ 100 ∧ wx = wr) (fun _ i _ => 100 - (intOf i).toNat)
          case atStart => exact ⟨0, by rw [List.filter_eq_nil_iff.2 (fun t ht => by have := (idsC t ht).1; simp; omega)]; rfl, rfl, by omega, rfl⟩
          case round =>
            obtain ⟨q, rfl, rfl, hq, rfl⟩ := hrel
            by_cases hq100 : q < 100
            · have cd : wr.cell? ⟨d, q, none⟩ = some (.int .i64 (dueOf C q)) := by rw [h7.due.cell, dcells_at _ _ _ hq100]
              have hx := has_dec okC q
              have hcnt := count_succ okC.uniq q
              have hq' : (q : Int) < 100 := by omega
              obtain ⟨c1, hc1⟩ : ∃ c1 : Nat, c1 = (C.filter fun t => decide (t.id < (q : Int))).length := ⟨_, rfl⟩
              have hc64 : c1 ≤ 64 := by rw [hc1]; exact Nat.le_trans (List.length_filter_le _ _) okC.len
              rw [← hc1] at hcnt ⊢
              have hcast : ((C.filter fun t => decide (t.id < ((q + 1 : Nat) : Int))).length : Int) = (C.filter fun t => decide (t.id < (q : Int) + 1)).length := by simp
              rw [← hcast] at hcnt
              have HCN := Lib.hid hcnt
              obtain ⟨du, hdu2⟩ : ∃ du, du = dueOf C q := ⟨_, rfl⟩
              cases hh : has C q with
              | true =>
                rw [hh] at hx
                rw [← hdu2] at cd hx
                have e1 : ((C.filter fun t => decide (t.id < ((q + 1 : Nat) : Int))).length : Int) = (c1 : Int) + 1 := by rw [HCN.out, hh]; rfl
                have HE := Lib.hid e1
                clear hcnt hcast hh hdu2 e1 hc1
                go_wp2
                go_roundw
                case rel => exact ⟨q + 1, by rw [HE.out], by go_num, by omega, trivial⟩
                case measure => simp [intOf]; omega
              | false =>
                rw [hh] at hx
                rw [← hdu2] at cd hx
                have e1 : ((C.filter fun t => decide (t.id < ((q + 1 : Nat) : Int))).length : Int) = (c1 : Int) := by rw [HCN.out, hh]; simp
                have HE := Lib.hid e1
                clear hcnt hcast hh hdu2 e1 hc1
                go_wp2
                go_roundw
                case rel => exact ⟨q + 1, by rw [HE.out], by go_num, by omega, trivial⟩
                case measure => simp [intOf]; omega
            · obtain rfl : q = 100 := by omega
              have hall : (C.filter fun t => decide (t.id < ((100 : Nat) : Int))) = C := List.filter_eq_self.2 fun t ht => by have := (idsC t ht).2; simpa using this
              rw [hall]
              have h1 := h7.at1
              have h2 := h7.at2
              have hB := h7.below
              clear h7
              go_wp2_with fail
              refine (tlen h1).mono ?_
              rintro e w8 ⟨rfl, rfl⟩
              go_wp2_with fail
              refine (tlen h2).mono ?_
              rintro e w9 ⟨rfl, rfl⟩
              go_wp2
              go_ret
              exact ⟨rfl, hB⟩
end Go.Proofs.Ytcnfcohfogbfhaa
