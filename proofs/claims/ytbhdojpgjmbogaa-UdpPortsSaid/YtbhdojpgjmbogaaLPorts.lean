/- UdpPorts: the walk over the law: it answers true. UNDER WAY. -/
import Derived.Test.YtbhdojpgjmbogaaAwake
import Derived.Test.YtbhdojpgjmbogaaLFree
import Derived.Test.YtbhdojpgjmbogaaRBind
namespace Go.Proofs.Ytbhdojpgjmbogaa
open Go.RowKit Go.Maps Go.Shelf
theorem RAt.kept {w w' : World} {base rp : Nat} {E : List (Int × Int)} {nx : Int} (h : RAt w base rp E nx) (hk : ∀ k, k = rp ∨ base ≤ k → k < w.heap.size → w'.heap[k]? = w.heap[k]?) : RAt w' base rp E nx := by
  obtain ⟨v, h1, h2, h3⟩ := h
  exact ⟨v, (hk rp (.inl rfl) h1.lt).trans h1, h2.same fun g hg => hk g (.inr (h2.lt hg).1) (h2.lt hg).2, h3⟩
theorem bindR_free {f : Int → Option Int} {nx who port : Int} (h : (bindR f nx who port).2.1 = 0) (hp : port ≠ 0) : (f port).isSome = false := by
  unfold bindR at h
  split at h
  · simp at h
  · split at h
    · split at h
      · simp at h
      · rename_i ht; simpa using ht
    · exfalso; omega
/-- What stands between two rounds. -/
def PInv (w : World) (base p b rp k : Nat) (wr : World) : Prop :=
  ∃ (f : Int → Option Int) (E : List (Int × Int)) (nn : Nat) (nx nxr : Int), PortsAt wr p b nn f nx ∧ nn ≤ k ∧ RAt wr base rp E nxr ∧ (nxr = nx ∨ nxr = 0 ∧ nx = 49152) ∧ Book f E ∧ E.length ≤ k ∧ Below w.heap.size w wr ∧ base ≤ wr.heap.size
set_option maxRecDepth 100000 in
set_option maxHeartbeats 20000000 in
theorem law_ports (v : Value) (l : List Opn) (w : World) (hl : RdO w v l) (hin : ∀ j (h : j < l.length), Opn.In l[j]) :
    Calls Try.prog 5 #[v] w fun e w' => e = .returned (.bool true) ∧ Below w.heap.size w w' := by
  obtain ⟨Al, cl, rfl, hl1, hl2, hl3⟩ := hl
  go_enter Try.func5, Try.ntmps5
  go_wp2_with fail
  refine (awake _).mono ?_
  rintro e w1 ⟨rfl, hb1⟩
  go_wp2_with fail
  refine (unew _).mono ?_
  rintro e w2 ⟨p, b, rfl, hP, hp, hb, hb2⟩
  have hB2 := below_step hb1 hb1.size hb2
  have z1 := hb1.size
  have z2 := hb2.size
  have hpl := hP.1.lt
  have hbl := hP.2.1.lt
  clear hb1 hb2
  have hll : l.length ≤ 9223372036854775807 := by unfold maxLen at hl2; omega
  have hBA := below_alloc w2 (.cells #[.slice none 0 0, .int .i64 0] 40)
  have hR : Blk (w2.alloc (.cells #[.slice none 0 0, .int .i64 0] 40)) w2.heap.size 40 #[.slice none 0 0, .int .i64 0] := Blk.new _ _ _ _ rfl
  by_cases h300 : 300 < l.length
  · have q1 : decide ((300 : Int) < (l.length : Int)) = true := by simp; omega
    go_wp2
    go_ret
    exact ⟨rfl, below_step hB2 hB2.size hBA⟩
  · have q1 : decide ((300 : Int) < (l.length : Int)) = false := by simp; omega
    have h0 : PInv w (w2.heap.size + 1) p b w2.heap.size 0 (w2.alloc (.cells #[.slice none 0 0, .int .i64 0] 40)) := ⟨_, [], 0, _, 0, hP.mono hBA, Nat.le_refl _, ⟨_, hR, OwP.nil _ _, (fun g hg => by cases hg)⟩, .inr ⟨rfl, rfl⟩, Book.nil, Nat.le_refl _, below_step hB2 hB2.size hBA, by simp⟩
    clear hP hB2 hR hBA
    go_wp2
    go_loopw [6] (fun i wr => ∃ k : Nat, i = .int .i64 k ∧ k ≤ l.length ∧ PInv w (w2.heap.size + 1) p b w2.heap.size k wr) (fun i _ => l.length - (intOf i).toNat)
    case atStart => exact ⟨0, rfl, Nat.zero_le _, h0⟩
    case round =>
      obtain ⟨k, rfl, hk, f, E, nn, nx, nxr, hP, hnn, hRr, hnx, hK, hE, hB, hbase⟩ := hrel
      clear h0
      by_cases hlt : k < l.length
      · obtain ⟨bl, ol, rfl, hbl2, c0, c1, c2⟩ := hl3 k hlt
        have hc0 := (hB.cell (p := ⟨bl, ol + k * 3, none⟩) hbl2).trans c0
        have hc1 := (hB.cell (p := ⟨bl, ol + k * 3 + 1, none⟩) hbl2).trans c1
        have hc2 := (hB.cell (p := ⟨bl, ol + k * 3 + 2, none⟩) hbl2).trans c2
        obtain ⟨hi0, hi1, hi2⟩ := hin k hlt
        have HIN := Lib.hid hin
        have HL3 := Lib.hid hl3
        clear hl3 hin
        obtain ⟨kd, hkd⟩ : ∃ kd, kd = l[k].kind := ⟨_, rfl⟩
        obtain ⟨wh, hwh⟩ : ∃ wh, wh = l[k].who := ⟨_, rfl⟩
        obtain ⟨pt, hpt⟩ : ∃ pt, pt = l[k].port := ⟨_, rfl⟩
        rw [← hkd] at hc0 c0
        rw [← hwh] at hc1 c1 hi1
        rw [← hpt] at hc2 c2 hi2
        clear hkd hwh hpt hi0
        by_cases hkd1 : kd = 1
        · subst hkd1
          go_wp2_with fail
          refine (ufree _ hP wh).mono ?_
          rintro e w3 ⟨⟨vr, rfl⟩, hP3, hT3⟩
          have hB3 := hB.trans (hT3.below (fun g hg => by have : g = b := hg; omega) hB.size)
          have hR3 : RAt w3 (w2.heap.size + 1) w2.heap.size E nxr := hRr.kept fun k' hk' hl' => hT3.block k' hl' (by show ¬ k' = b; omega)
          have z3 := hT3.size
          have hd1 := (hB3.cell (p := ⟨bl, ol + k * 3 + 1, none⟩) hbl2).trans c1
          clear hP hRr hB hT3 hc0 hc1 hc2
          go_wp2_with fail
          refine (rfree _ hR3 (by omega) (by omega) wh).mono ?_
          rintro e w4 ⟨⟨vr2, rfl⟩, hR4, hT4⟩
          have hB4 := hB3.trans (hT4.below (fun g hg => by have : g = w2.heap.size ∨ w2.heap.size + 1 ≤ g := hg; omega) hB3.size)
          have hP4 : PortsAt w4 p b nn (freeP f wh) nx := hP3.kept (hT4.block p hP3.1.lt (by show ¬ (p = w2.heap.size ∨ w2.heap.size + 1 ≤ p); omega)) (hT4.block b hP3.2.1.lt (by show ¬ (b = w2.heap.size ∨ w2.heap.size + 1 ≤ b); omega))
          have hK4 := hK.free wh
          have z4 := hT4.size
          have hlen : (E.filter fun x => x.2 != wh).length ≤ E.length := List.length_filter_le _ _
          have hd2 := (hB4.cell (p := ⟨bl, ol + k * 3 + 2, none⟩) hbl2).trans c2
          obtain ⟨vL, hBr, how, hne⟩ := hR4
          have hu := uwho _ hP4 pt hi2
          have hr := rwho _ hBr how hK4 (by omega) pt hi2
          have HU := Lib.hid hu
          have HRW := Lib.hid hr
          clear hP3 hR3 hB3 hT4 hd1 hu hr
          go_wp2_with fail
          refine HU.out.mono ?_
          rintro e w' ⟨rfl, rfl⟩
          go_wp2_with fail
          refine HRW.out.mono ?_
          rintro e w' ⟨rfl, rfl⟩
          clear HU HRW
          go_wp2
          go_roundw
          case rel => exact ⟨k + 1, by go_num, by omega, _, _, nn, nx, nxr, hP4, by omega, ⟨_, hBr, how, hne⟩, hnx, hK4, by omega, hB4, by omega⟩
          case measure => simp [intOf]; omega
        · have g : (kd == 1) = false := by simpa using hkd1
          clear hkd1
          have hu0 := uwho _ hP pt hi2
          have HU0 := Lib.hid hu0
          clear hu0
          go_wp2_with fail
          refine HU0.out.mono ?_
          rintro e w' ⟨rfl, rfl⟩
          clear HU0
          have hub := ubind _ hP (by unfold maxLen; omega) wh pt hi1
          have HUB := Lib.hid hub
          clear hub
          go_upto_region 13 with (fail)
          go_cut [9, 10] from 76 to 90 (fun a e wx => a = .int .i64 (bindR f nx wh pt).1 ∧ e = .int .i64 (bindR f nx wh pt).2.1 ∧ PortsAt wx p b (nn + 1) (bindR f nx wh pt).2.2.1 (bindR f nx wh pt).2.2.2 ∧ Touch (fun k => k = p ∨ k = b) wr wx)
          case first =>
            have hPd : PortsAt wr.drew p b nn f nx := ⟨hP.1, hP.2.1.same rfl, hP.2.2⟩
            go_region_law (first | (refine step_call rfl rfl (enters_of Try.func25 (by kernel_rfl) rfl) (ubind wr.drew hPd (by unfold maxLen; omega) wh pt hi1) rfl ?_; rintro e w3 ⟨rfl, hP3, hT3⟩; refine ⟨_, rfl, ?_⟩))
            all_goals (go_wp2_with fail; go_meet)
            all_goals exact ⟨rfl, rfl, hP3, (Touch.refl _ wr).drew.trans hT3⟩
          case rest =>
            obtain ⟨rfl, rfl, hP3, hT3⟩ := hcut
            have hfree : (bindR f nx wh pt).2.1 = 0 → pt ≠ 0 → (f pt).isSome = false := bindR_free
            have hR3 : RAt wc (w2.heap.size + 1) w2.heap.size E nxr := hRr.kept fun k' hk' hl' => hT3.block k' hl' (by show ¬ (k' = p ∨ k' = b); omega)
            have hB3 := hB.trans (hT3.below (fun g hg => by have : g = p ∨ g = b := hg; omega) hB.size)
            have hrb := fun W' (hW : RAt W' (w2.heap.size + 1) w2.heap.size E nxr) (hz : w2.heap.size + 1 ≤ W'.heap.size) => rbind W' hW hK (by omega) hnx hP.2.2.1 hP.2.2.2 hz (by omega) wh pt
            obtain ⟨r, hr⟩ : ∃ r, r = bindR f nx wh pt := ⟨_, rfl⟩
            rw [← hr] at hP3 hfree hrb ⊢
            have z3 := hT3.size
            have hd1 := (hB3.cell (p := ⟨bl, ol + k * 3 + 1, none⟩) hbl2).trans c1
            have hd2 := (hB3.cell (p := ⟨bl, ol + k * 3 + 2, none⟩) hbl2).trans c2
            have HFR := Lib.hid hfree
            have HRB := Lib.hid hrb
            have HNX := Lib.hid hnx
            clear hr hfree hrb hP hRr hB hT3 hc0 hc1 hc2 HUB hnx
            go_upto_region 14 with (fail)
            go_cut [11, 12] from 91 to 105 (fun a e wx => a = .int .i64 r.1 ∧ e = .int .i64 r.2.1 ∧ (∃ E' nx', RAt wx (w2.heap.size + 1) w2.heap.size E' nx' ∧ Book r.2.2.1 E' ∧ (nx' = r.2.2.2 ∨ nx' = 0 ∧ r.2.2.2 = 49152) ∧ E'.length ≤ E.length + 1) ∧ Touch (fun k => k = w2.heap.size ∨ w2.heap.size + 1 ≤ k) wc wx)
            case first =>
              have hRd : RAt wc.drew (w2.heap.size + 1) w2.heap.size E nxr := hR3.kept fun k' _ _ => rfl
              go_region_law (first | (refine step_call rfl rfl (enters_of Try.func26 (by kernel_rfl) rfl) (HRB.out wc.drew hRd (by show _ ≤ wc.heap.size; omega)) rfl ?_; rintro e w4 ⟨rfl, E', nx', hR4, hK4, hx4, hl4, hT4⟩; refine ⟨_, rfl, ?_⟩))
              all_goals (go_wp2_with fail; go_meet)
              all_goals exact ⟨rfl, rfl, ⟨E', nx', hR4, hK4, hx4, hl4⟩, (Touch.refl _ wc).drew.trans hT4⟩
            case rest =>
              rename_i wd
              obtain ⟨rfl, rfl, ⟨E', nx', hR4, hK4, hx4, hl4⟩, hT4⟩ := hcut
              have hP4 : PortsAt wc p b (nn + 1) r.2.2.1 r.2.2.2 := hP3.kept (hT4.block p hP3.1.lt (by show ¬ (p = w2.heap.size ∨ w2.heap.size + 1 ≤ p); omega)) (hT4.block b hP3.2.1.lt (by show ¬ (b = w2.heap.size ∨ w2.heap.size + 1 ≤ b); omega))
              have hB4 := hB3.trans (hT4.below (fun g hg => by have : g = w2.heap.size ∨ w2.heap.size + 1 ≤ g := hg; omega) hB3.size)
              have z4 := hT4.size
              have he2 := (hB4.cell (p := ⟨bl, ol + k * 3 + 2, none⟩) hbl2).trans c2
              have hfr := HFR.out
              obtain ⟨ra, re, rf, rn⟩ := r
              dsimp only at hP4 hK4 hx4 hfr ⊢
              obtain ⟨vL, hBr, how, hne⟩ := hR4
              have hu := uwho _ hP4 pt hi2
              have hr := rwho _ hBr how hK4 (by omega) pt hi2
              have HU := Lib.hid hu
              have HRW := Lib.hid hr
              have HX4 := Lib.hid hx4
              have key : (re = 0 ∧ pt = 0) ∨ (re = 0 ∧ pt ≠ 0 ∧ (f pt).isSome = false) ∨ re ≠ 0 := by
                by_cases e1 : re = 0
                · by_cases e2 : pt = 0
                  · exact .inl ⟨e1, e2⟩
                  · exact .inr (.inl ⟨e1, e2, hfr e1 e2⟩)
                · exact .inr (.inr e1)
              clear hP3 hR3 hB3 hT4 hd1 hd2 hu hr HFR HRB hfr HNX hx4
              rcases key with ⟨rfl, rfl⟩ | ⟨rfl, hp0, ht⟩ | he
              all_goals (try have g1 : (pt == 0) = false := beq_false_of_ne hp0)
              all_goals (try have g2 : (pt != 0) = true := bne_iff_ne.2 hp0)
              all_goals (try have g3 : (re == 0) = false := beq_false_of_ne he)
              all_goals (try clear hp0)
              all_goals (try clear he)
              all_goals
                go_wp2_with fail
                refine HU.out.mono ?_
                rintro e w' ⟨rfl, rfl⟩
                go_wp2_with fail
                refine HRW.out.mono ?_
                rintro e w' ⟨rfl, rfl⟩
                clear HU HRW
                go_wp2
                go_roundw
                case rel => exact ⟨k + 1, by go_num, by omega, _, _, nn + 1, _, nx', hP4, by omega, ⟨_, hBr, how, hne⟩, HX4.out, hK4, by omega, hB4, by omega⟩
                case measure => simp [intOf]; omega
      · obtain rfl : k = l.length := by omega
        obtain ⟨vL, hBr, how, hne⟩ := hRr
        obtain ⟨AL, cL, rfl, hL1, hL2⟩ := how.form
        have r0 := hBr.cell 0
        simp only [List.getElem?_toArray, List.getElem?_cons_zero] at r0
        have hu := fun q hq => uwho wr hP q hq
        have HU := Lib.hid hu
        have HK := Lib.hid hK
        have HNX := Lib.hid hnx
        clear hl3 hin hu hK hnx
        have hE9 : E.length ≤ 9223372036854775807 := by omega
        go_wp2
        go_loopw [17] (fun i ws => ∃ k : Nat, i = .int .i64 k ∧ k ≤ E.length ∧ ws = wr) (fun i _ => E.length - (intOf i).toNat)
        case atStart => exact ⟨0, rfl, Nat.zero_le _, rfl⟩
        case round =>
          obtain ⟨k, rfl, hk', rfl⟩ := hrel
          by_cases hlt2 : k < E.length
          · obtain ⟨g, rfl, c0, c1⟩ := how.at_ k hlt2
            have hxy := HK.out.has E[k] (List.getElem_mem hlt2)
            have hini := HK.out.ini E[k] (List.getElem_mem hlt2)
            obtain ⟨⟨x, y⟩, hE1⟩ : ∃ e, e = E[k] := ⟨_, rfl⟩
            rw [← hE1] at c0 c1 hxy hini
            dsimp only at c0 c1 hxy hini
            have hw := HU.out x hini
            rw [hxy] at hw
            have HW := Lib.hid hw
            clear hE1 hw hxy
            go_wp2_with fail
            refine HW.out.mono ?_
            rintro e w' ⟨rfl, rfl⟩
            clear HW
            go_wp2
            go_roundw
            case rel => exact ⟨k + 1, by go_num, by omega, trivial⟩
            case measure => simp [intOf]; omega
          · obtain rfl : k = E.length := by omega
            go_wp2
            go_ret
            exact ⟨rfl, hB⟩
end Go.Proofs.Ytbhdojpgjmbogaa
