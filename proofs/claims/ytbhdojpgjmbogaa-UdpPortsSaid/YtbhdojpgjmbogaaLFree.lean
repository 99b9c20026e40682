/- UdpFree: the walk over the law: it answers true. -/
import Derived.Test.YtbhdojpgjmbogaaAwake
import Derived.Test.YtbhdojpgjmbogaaOps
import Derived.Test.YtbhdojpgjmbogaaFreeLaw
namespace Go.Proofs.Ytbhdojpgjmbogaa
open Go.RowKit Go.Maps Go.Shelf
theorem PortsAt.kept {w w' : World} {p b n : Nat} {f : Int → Option Int} {nx : Int} (h : PortsAt w p b n f nx) (hp : w'.heap[p]? = w.heap[p]?) (hb : w'.heap[b]? = w.heap[b]?) : PortsAt w' p b n f nx :=
  ⟨hp.trans h.1, h.2.1.same hb, h.2.2⟩
theorem PortsAt.mono {w w' : World} {p b n : Nat} {f : Int → Option Int} {nx : Int} (h : PortsAt w p b n f nx) (hb : Below w.heap.size w w') : PortsAt w' p b n f nx :=
  h.kept (hb.block p h.1.lt) (hb.block b h.2.1.lt)
theorem owI_less {w : World} {base base' : Nat} {v : Value} {l : List Int} (h : OwI w base v l) (hb : base' ≤ base) : OwI w base' v l := owns_base h hb
/-- Two slices that own no common block. -/
def Dj (v u : Value) : Prop := ∀ g, v.ownBlock = some g → u.ownBlock ≠ some g
theorem Dj.symm {v u : Value} (h : Dj v u) : Dj u v := fun g hg e => h g e hg
theorem Dj.grow {v v' u : Value} {S : Nat} (h : Dj v u) (hu : ∀ g, u.ownBlock = some g → g < S) (hv : v'.ownBlock = v.ownBlock ∨ v'.ownBlock = some S) : Dj v' u := fun g hg e => by
  rcases hv with hv | hv
  · exact h g (hv ▸ hg) e
  · rw [hv] at hg
    injection hg with hg
    have := hu g e
    omega
theorem OwI.keepG {w w' : World} {base : Nat} {v : Value} {l : List Int} {row : Option Nat} (h : OwI w base v l) (hg : w.grownBy w' row) (hd : ∀ g, row = some g → v.ownBlock ≠ some g) : OwI w' base v l :=
  h.same fun g hg' => hg.block g (h.lt hg').2 fun e => hd g e.symm hg'
/-- What stands between two rounds of the inner loop. -/
def FIn (w3 : World) (E : List (Int × Int)) (q : Int) (va vb : Value) (j : Nat) (ws : World) : Prop :=
  OwI ws w3.heap.size va (((E.take j).filter fun x => x.2 != q).map Prod.fst) ∧ OwI ws w3.heap.size vb (((E.take j).filter fun x => x.2 != q).map Prod.snd) ∧ Dj va vb ∧ Below w3.heap.size w3 ws
/-- What stands between two rounds. -/
def FInv (w : World) (base p b : Nat) (vp vq : Value) (k : Nat) (wr : World) : Prop :=
  ∃ (f : Int → Option Int) (E : List (Int × Int)) (nn : Nat) (nx : Int), PortsAt wr p b nn f nx ∧ nn ≤ k ∧ Kept f E ∧ E.length ≤ k ∧ OwI wr base vp (E.map Prod.fst) ∧ OwI wr base vq (E.map Prod.snd) ∧
    Dj vp vq ∧ Below w.heap.size w wr ∧ base ≤ wr.heap.size
set_option maxRecDepth 100000 in
set_option maxHeartbeats 20000000 in
theorem law_free (v : Value) (l : List Opn) (w : World) (hl : RdO w v l) :
    Calls Try.prog 6 #[v] w fun e w' => e = .returned (.bool true) ∧ Below w.heap.size w w' := by
  obtain ⟨Al, cl, rfl, hl1, hl2, hl3⟩ := hl
  go_enter Try.func6, Try.ntmps6
  go_wp2_with fail
  refine (awake _).mono ?_
  rintro e w1 ⟨rfl, hb1⟩
  go_wp2_with fail
  refine (unew _).mono ?_
  rintro e w2 ⟨p, b, rfl, hP, hp, hb, hb2⟩
  have hB2 := below_step hb1 hb1.size hb2
  have z1 := hb1.size
  have z2 := hb2.size
  have hpl := hP.1.lt
  have hbl := hP.2.1.lt
  clear hb1 hb2
  have hll : l.length ≤ 9223372036854775807 := by unfold maxLen at hl2; omega
  by_cases h300 : 300 < l.length
  · have q1 : decide ((300 : Int) < (l.length : Int)) = true := by simp; omega
    go_wp2
    go_ret
    exact ⟨rfl, hB2⟩
  · have q1 : decide ((300 : Int) < (l.length : Int)) = false := by simp; omega
    have h0 : FInv w w2.heap.size p b (.slice none 0 0) (.slice none 0 0) 0 w2 := ⟨_, [], 0, _, hP, Nat.le_refl _, Kept.nil, Nat.le_refl _, OwI.nil _ _, OwI.nil _ _, (fun g hg => by cases hg), hB2, Nat.le_refl _⟩
    clear hP hB2
    go_wp2
    go_loopw [5, 6, 7] (fun vp vq i wr => ∃ k : Nat, i = .int .i64 k ∧ k ≤ l.length ∧ FInv w w2.heap.size p b vp vq k wr) (fun _ _ i _ => l.length - (intOf i).toNat)
    case atStart => exact ⟨0, rfl, Nat.zero_le _, h0⟩
    case round =>
      obtain ⟨k, rfl, hk, f, E, nn, nx, hP, hnn, hK, hE, hvp, hvq, hne, hB, hbase⟩ := hrel
      clear h0
      by_cases hlt : k < l.length
      · obtain ⟨bl, ol, rfl, hbl2, c0, c1, _⟩ := hl3 k hlt
        have hc0 := (hB.cell (p := ⟨bl, ol + k * 3, none⟩) hbl2).trans c0
        have hc1 := (hB.cell (p := ⟨bl, ol + k * 3 + 1, none⟩) hbl2).trans c1
        obtain ⟨kd, hkd⟩ : ∃ kd, kd = l[k].kind := ⟨_, rfl⟩
        obtain ⟨wh, hwh⟩ : ∃ wh, wh = l[k].who := ⟨_, rfl⟩
        rw [← hkd] at hc0
        rw [← hwh] at hc1
        have hr : -5 < wh.tmod 5 ∧ wh.tmod 5 < 5 := by
          have h := Int.tmod_eq_emod (a := wh) (b := 5)
          rw [h]
          split <;> simp <;> omega
        obtain ⟨r, er⟩ : ∃ r, wh.tmod 5 = r := ⟨_, rfl⟩
        rw [er] at hr
        obtain ⟨hr0, hr1⟩ := hr
        obtain ⟨q, eq⟩ : ∃ q, (r + 5).tmod 5 = q := ⟨_, rfl⟩
        have hq : 0 ≤ q ∧ q < 5 := by rw [← eq, Int.tmod_eq_emod_of_nonneg (by omega)]; omega
        clear hkd hwh c0 c1
        have HL3 := Lib.hid hl3
        clear hl3
        by_cases hkd1 : kd = 1
        · subst hkd1
          go_wp2_with fail
          refine (ufree _ hP q).mono ?_
          rintro e w3 ⟨⟨vr, rfl⟩, hP3, hT3⟩
          have hvp3 : OwI w3 w2.heap.size u5 (E.map Prod.fst) := hvp.same fun g hg => hT3.block g (hvp.lt hg).2 (by have := (hvp.lt hg).1; show ¬ g = b; omega)
          have hvq3 : OwI w3 w2.heap.size u6 (E.map Prod.snd) := hvq.same fun g hg => hT3.block g (hvq.lt hg).2 (by have := (hvq.lt hg).1; show ¬ g = b; omega)
          have hB3 := hB.trans (hT3.below (fun g hg => by have : g = b := hg; omega) hB.size)
          have z3 := hT3.size
          have hK' := hK.free q
          have hE3 : E.length ≤ 300 := by omega
          have hEl : E.length ≤ 9223372036854775807 := by omega
          clear hP hvp hvq hB hT3 hc0 hc1
          obtain ⟨Ap, cp, e5, hp1, hp2⟩ := hvp3.form
          obtain ⟨Aq, cq, e6, hq1, hq2⟩ := hvq3.form
          subst e5 e6
          simp only [List.length_map] at hvp3 hvq3 hp1 hq1 hne ⊢
          have h0 : FIn w3 E q (.slice none 0 0) (.slice none 0 0) 0 w3 := ⟨OwI.nil _ _, OwI.nil _ _, (fun g hg => by cases hg), Below.refl _ _⟩
          go_wp2
          go_loopw [9, 10, 11] (fun va vb i ws => ∃ j : Nat, i = .int .i64 j ∧ j ≤ E.length ∧ FIn w3 E q va vb j ws) (fun _ _ i _ => E.length - (intOf i).toNat)
          case atStart => exact ⟨0, rfl, Nat.zero_le _, h0⟩
          case round =>
            obtain ⟨j, rfl, hj, hva, hvb, hd, hBs⟩ := hrel
            clear h0
            by_cases hjl : j < E.length
            · obtain ⟨bp, op, rfl, cp3⟩ := hvp3.at_ j (by rw [List.length_map]; exact hjl)
              obtain ⟨bq, oq, rfl, cq3⟩ := hvq3.at_ j (by rw [List.length_map]; exact hjl)
              rw [List.getElem_map] at cp3 cq3
              have cp0 := (hBs.cell (p := ⟨bp, op + j, none⟩) (cell_lt cp3)).trans cp3
              have cq0 := (hBs.cell (p := ⟨bq, oq + j, none⟩) (cell_lt cq3)).trans cq3
              have hxy := hK.has E[j] (List.getElem_mem hjl)
              have hbd := hK.bd E[j] (List.getElem_mem hjl)
              have htk : E.take (j + 1) = E.take j ++ [E[j]] := List.take_succ_eq_append_getElem hjl
              have HTK := Lib.hid htk
              obtain ⟨⟨x, y⟩, hE1⟩ : ∃ e, e = E[j] := ⟨_, rfl⟩
              rw [← hE1] at cp0 cq0 hxy hbd cq3
              have HE1 := Lib.hid hE1
              clear htk hE1
              dsimp only at cp0 cq0 hxy hbd cq3
              have hq3l := cell_lt cq3
              have HQ3 := Lib.hid cq3
              clear cq3 cp3
              obtain ⟨hx0, hx1⟩ := hbd
              have hu := uwho _ (hP3.mono hBs) x ⟨by omega, by omega⟩
              by_cases hyq : y = q
              · subst hyq
                have hF : freeP f y x = none := by unfold freeP; rw [if_pos hxy]
                rw [hF] at hu
                go_wp2_with fail
                refine hu.mono ?_
                rintro e ws' ⟨rfl, rfl⟩
                clear hu
                go_wp2
                go_roundw
                case rel => exact ⟨j + 1, by go_num, by omega, by rw [HTK.out, List.filter_append, ← HE1.out]; simpa using hva, by rw [HTK.out, List.filter_append, ← HE1.out]; simpa using hvb, hd, hBs⟩
                case measure => simp [intOf]; omega
              · have hF : freeP f q x = some y := by unfold freeP; rw [if_neg (by rw [hxy]; intro h; injection h with h; exact hyq h), hxy]
                rw [hF] at hu
                have gy : (y != q) = true := by simpa using hyq
                go_wp2_with fail
                refine hu.mono ?_
                rintro e ws' ⟨rfl, rfl⟩
                clear hu
                go_upto_region 22 with (fail)
                have hlen : ((E.take j).filter fun x => x.2 != q).length ≤ 300 := Nat.le_trans (List.length_filter_le _ _) (by simp; omega)
                have hBA := below_alloc wr (.cells #[.int .i64 x] 3)
                have hva1 := hva.mono hBA
                have hvb1 := hvb.mono hBA
                have hrx : RdV (wr.alloc (.cells #[.int .i64 x] 3)) (.slice (some ⟨wr.heap.size, 0, none⟩) 1 1) [.int .i64 x] := rdV_new wr 3 #[.int .i64 x] 1 rfl (by unfold maxLen; omega)
                have zs := hBs.size
                go_upto_region 23 with ((with_reducible refine at_slot 99 ?_); refine wpList_appI rfl (.tmp 93) (.tmp 98) rfl w3.heap.size hva1 hrx rfl rfl (by rw [List.length_map]; omega) (by simp; omega) ?_; intro va5 w5 hva5 hb5 hg5)
                have hB5 := (hBs.trans (hBA.mono zs)).trans hb5
                have hvb5 := hvb1.keepG hg5.1 hd
                have d5 : Dj va5 u10 := hd.grow (fun g hg => (hvb1.lt hg).2) hg5.2
                have cq5 := (hB5.cell (p := ⟨bq, oq + j, none⟩) hq3l).trans HQ3.out
                have hBA5 := below_alloc w5 (.cells #[.int .i64 y] 3)
                have hva6 := hva5.mono hBA5
                have hvb6 := hvb5.mono hBA5
                have hry : RdV (w5.alloc (.cells #[.int .i64 y] 3)) (.slice (some ⟨w5.heap.size, 0, none⟩) 1 1) [.int .i64 y] := rdV_new w5 3 #[.int .i64 y] 1 rfl (by unfold maxLen; omega)
                have zs5 := hB5.size
                clear cp0 cq0 hva hvb hva1 hvb1 hrx hb5 hg5 hBA
                go_wp2_with ((with_reducible refine at_slot 106 ?_); refine wpList_appI rfl (.tmp 100) (.tmp 105) rfl w3.heap.size hvb6 hry rfl rfl (by rw [List.length_map]; omega) (by simp; omega) ?_; intro vb7 w7 hvb7 hb7 hg7)
                have hB7 := (hB5.trans (hBA5.mono zs5)).trans hb7
                have hva7 := hva6.keepG hg7.1 d5.symm
                have d7 : Dj vb7 va5 := d5.symm.grow (fun g hg => (hva6.lt hg).2) hg7.2
                go_roundw
                case rel => exact ⟨j + 1, by go_num, by omega, by rw [HTK.out, List.filter_append, ← HE1.out]; simpa [hyq] using hva7, by rw [HTK.out, List.filter_append, ← HE1.out]; simpa [hyq] using hvb7, d7.symm, hB7⟩
                case measure => simp [intOf]; omega
            · obtain rfl : j = E.length := by omega
              rw [List.take_length] at hva hvb
              have z30 := hBs.size
              go_wp2
              go_roundw
              case rel => exact ⟨k + 1, by go_num, by omega, _, _, nn, nx, hP3.mono hBs, by omega, hK', Nat.le_trans (List.length_filter_le _ _) (by omega), owI_less hva (by omega), owI_less hvb (by omega), hd, hB3.trans (hBs.mono (by have := hB3.size; omega)), by omega⟩
              case measure => simp [intOf]; omega
        · have g : (kd == 1) = false := by simpa using hkd1
          clear hkd1
          obtain ⟨m, hsr, hm, hm0, hm1⟩ := search_found hK (by omega) nx hP.2.2.1 hP.2.2.2
          have hR : bindR f nx q 0 = (m, 0, upd f m q, behindP m) := by
            unfold bindR
            rw [if_neg (by omega), if_neg (by omega), hsr]
          have hu := ubind _ hP (by unfold maxLen; omega) q 0 ⟨by omega, by omega⟩
          rw [hR] at hu
          have HU := Lib.hid hu
          clear hu hR hsr
          go_wp2_with fail
          refine HU.out.mono ?_
          rintro e w3 ⟨rfl, hP3, hT3⟩
          dsimp only at hP3 ⊢
          have hvp3 : OwI w3 w2.heap.size u5 (E.map Prod.fst) := hvp.same fun g hg => hT3.block g (hvp.lt hg).2 (by have := (hvp.lt hg).1; show ¬ (g = p ∨ g = b); omega)
          have hvq3 : OwI w3 w2.heap.size u6 (E.map Prod.snd) := hvq.same fun g hg => hT3.block g (hvq.lt hg).2 (by have := (hvq.lt hg).1; show ¬ (g = p ∨ g = b); omega)
          have hB3 := hB.trans (hT3.below (fun g hg => by have : g = p ∨ g = b := hg; omega) hB.size)
          have z3 := hT3.size
          have hK' := hK.bind (who := q) hm ⟨hm0, hm1⟩
          have hE3 : E.length ≤ 300 := by omega
          have hEl : E.length ≤ 9223372036854775807 := by omega
          have g1 : decide (m < 49152) = false := by simp; omega
          have g2 : decide (65535 < m) = false := by simp; omega
          clear hP hvp hvq hB hT3 hc0 hc1 HU
          obtain ⟨Ap, cp, e5, hp1, hp2⟩ := hvp3.form
          obtain ⟨Aq, cq, e6, hq1, hq2⟩ := hvq3.form
          subst e5 e6
          simp only [List.length_map] at hvp3 hvq3 hp1 hq1 hne ⊢
          go_wp2
          go_loopw [16] (fun i ws => ∃ j : Nat, i = .int .i64 j ∧ j ≤ E.length ∧ ws = w3) (fun i _ => E.length - (intOf i).toNat)
          case atStart => exact ⟨0, rfl, Nat.zero_le _, rfl⟩
          case round =>
            obtain ⟨j, rfl, hj, rfl⟩ := hrel
            by_cases hjl : j < E.length
            · obtain ⟨bp, op, rfl, cp3⟩ := hvp3.at_ j (by rw [List.length_map]; exact hjl)
              rw [List.getElem_map] at cp3
              have hxy := hK.has E[j] (List.getElem_mem hjl)
              obtain ⟨⟨x, y⟩, hE1⟩ : ∃ e, e = E[j] := ⟨_, rfl⟩
              rw [← hE1] at cp3 hxy
              clear hE1
              dsimp only at cp3 hxy
              have hxm : (x == m) = false := by
                simp only [beq_eq_false_iff_ne, ne_eq]
                intro e
                rw [e, hm] at hxy
                cases hxy
              go_wp2
              go_roundw
              case rel => exact ⟨j + 1, by go_num, by omega, trivial⟩
              case measure => simp [intOf]; omega
            · have hBA := below_alloc wr (.cells #[.int .i64 m] 3)
              have hvp4 := hvp3.mono hBA
              have hvq4 := hvq3.mono hBA
              have hrx : RdV (wr.alloc (.cells #[.int .i64 m] 3)) (.slice (some ⟨wr.heap.size, 0, none⟩) 1 1) [.int .i64 m] := rdV_new wr 3 #[.int .i64 m] 1 rfl (by unfold maxLen; omega)
              have zw : w2.heap.size ≤ wr.heap.size := by omega
              go_upto_region 35 with ((with_reducible refine at_slot 140 ?_); refine wpList_appI rfl (.tmp 137) (.tmp 139) rfl w2.heap.size hvp4 hrx rfl rfl (by rw [List.length_map]; omega) (by simp; omega) ?_; intro vp5 w5 hvp5 hb5 hg5)
              have hB25 : Below w2.heap.size wr w5 := (hBA.mono zw).trans hb5
              have hvq5 := hvq4.keepG hg5.1 hne
              have d5 : Dj vp5 (.slice Aq E.length cq) := hne.grow (fun g hg => (hvq4.lt hg).2) hg5.2
              have z25 := hb5.size
              have zw5 : w2.heap.size ≤ w5.heap.size := by simp at z25; omega
              have hBA5 := below_alloc w5 (.cells #[.int .i64 q] 3)
              have hvp6 := hvp5.mono hBA5
              have hvq6 := hvq5.mono hBA5
              have hry : RdV (w5.alloc (.cells #[.int .i64 q] 3)) (.slice (some ⟨w5.heap.size, 0, none⟩) 1 1) [.int .i64 q] := rdV_new w5 3 #[.int .i64 q] 1 rfl (by unfold maxLen; omega)
              clear hvp3 hvq3 hvp4 hvq4 hrx hb5 hg5 hBA z25
              go_wp2_with ((with_reducible refine at_slot 144 ?_); refine wpList_appI rfl (.tmp 141) (.tmp 143) rfl w2.heap.size hvq6 hry rfl rfl (by rw [List.length_map]; omega) (by simp; omega) ?_; intro vq7 w7 hvq7 hb7 hg7)
              have hB27 : Below w2.heap.size wr w7 := (hB25.trans (hBA5.mono zw5)).trans hb7
              have hvp7 := hvp6.keepG hg7.1 d5.symm
              have d7 : Dj vq7 vp5 := d5.symm.grow (fun g hg => (hvp6.lt hg).2) hg7.2
              have z27 := hB27.size
              have hP7 := hP3.kept (hB27.block p hpl) (hB27.block b hbl)
              go_roundw
              case rel => exact ⟨k + 1, by go_num, by omega, _, _, nn + 1, _, hP7, by omega, hK', by simp; omega, by simpa using hvp7, by simpa using hvq7, d7.symm, hB3.trans (hB27.mono (by omega)), by omega⟩
              case measure => simp [intOf]; omega
      · obtain rfl : k = l.length := by omega
        have HL3 := Lib.hid hl3
        clear hl3
        go_wp2
        go_ret
        exact ⟨rfl, hB⟩
end Go.Proofs.Ytbhdojpgjmbogaa
