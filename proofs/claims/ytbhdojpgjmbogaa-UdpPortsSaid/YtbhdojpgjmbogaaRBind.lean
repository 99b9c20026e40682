/- packhorseref13.Ports.Bind. -/
import Derived.Test.YtbhdojpgjmbogaaRPorts
namespace Go.Proofs.Ytbhdojpgjmbogaa
open Go.RowKit Go.Maps
/-- What the reference's Bind leaves. -/
def RBEnd (w : World) (base rp : Nat) (E : List (Int × Int)) (r : Int × Int × (Int → Option Int) × Int) (e : Ending) (w' : World) : Prop :=
  e = .returned (.tuple #[.int .i64 r.1, .int .i64 r.2.1]) ∧ ∃ E' nx', RAt w' base rp E' nx' ∧ Book r.2.2.1 E' ∧ (nx' = r.2.2.2 ∨ nx' = 0 ∧ r.2.2.2 = 49152) ∧ E'.length ≤ E.length + 1 ∧ Touch (fun k => k = rp ∨ base ≤ k) w w'
theorem Touch.of_base {w w' : World} {rp base : Nat} (h : Below base w w') : Touch (fun k => k = rp ∨ base ≤ k) w w' := ⟨h.os, h.tape, h.output, h.size, fun k _ hs => h.block k (by have : ¬ (base ≤ k) := fun e => hs (.inr e); omega)⟩
set_option maxHeartbeats 800000 in
theorem rbind_arg (w : World) {rp base : Nat} {E : List (Int × Int)} {nxr nx : Int} {f : Int → Option Int} (h : RAt w base rp E nxr) (hK : Book f E) (hx : nxr = nx ∨ nxr = 0 ∧ nx = 49152) (who port : Int) (hb : port < 0 ∨ 65535 < port ∨ who < 0) :
    Calls Try.prog 26 #[.pointer (some ⟨rp, 0, none⟩), .int .i64 who, .int .i64 port] w (RBEnd w base rp E (0, 1, f, nx)) := by
  have hfin : RBEnd w base rp E (0, 1, f, nx) (.returned (.tuple #[.int .i64 0, .int .i64 1])) w := ⟨rfl, E, nxr, h, hK, hx, by omega, Touch.refl _ _⟩
  have HF := Lib.hid hfin
  clear hfin h hK hx
  by_cases h1 : port < 0
  · have g1 : decide (port < 0) = true := by simpa using h1
    clear hb
    go_enter Try.func26, Try.ntmps26
    go_wp2
    go_ret2
    exact HF.out
  have g1 : decide (port < 0) = false := by simpa using h1
  by_cases h2 : 65535 < port
  · have g2 : decide (65535 < port) = true := by simpa using h2
    clear hb
    go_enter Try.func26, Try.ntmps26
    go_wp2
    go_ret2
    exact HF.out
  have g2 : decide (65535 < port) = false := by simpa using h2
  have g3 : decide (who < 0) = true := by simp; omega
  clear hb
  go_enter Try.func26, Try.ntmps26
  go_wp2
  go_ret2
  exact HF.out
set_option maxHeartbeats 3200000 in
theorem rbind_named (w : World) {rp base : Nat} {E : List (Int × Int)} {nxr nx : Int} {f : Int → Option Int} (h : RAt w base rp E nxr) (hK : Book f E) (hl : E.length ≤ 300) (hx : nxr = nx ∨ nxr = 0 ∧ nx = 49152) (hn0 : 49152 ≤ nx) (hb : base ≤ w.heap.size) (hrb : rp < base) (who port : Int)
    (h1 : 0 < port) (h2 : port ≤ 65535) (h3 : 0 ≤ who) (R : Int × Int × (Int → Option Int) × Int) (hR : R = if (f port).isSome then (0, 130, f, nx) else (port, 0, upd f port who, nx)) :
    Calls Try.prog 26 #[.pointer (some ⟨rp, 0, none⟩), .int .i64 who, .int .i64 port] w (RBEnd w base rp E R) := by
  obtain ⟨v, hB, ho, hne⟩ := h
  have HR := Lib.hid hR
  clear hR
  have g1 : decide (port < 0) = false := by simp; omega
  have g2 : decide (65535 < port) = false := by simp; omega
  have g3 : decide (who < 0) = false := by simp; omega
  have g4 : (port == 0) = false := by simp; omega
  have p1 := hB.cell 1
  have f1 := hB.free 1
  simp only [List.getElem?_toArray, List.getElem?_cons_zero, List.getElem?_cons_succ] at p1
  go_enter Try.func26, Try.ntmps26
  go_upto_if 28 with (fail)
  go_cut [] from 29 to 31 (fun wx => Blk wx rp 40 #[v, .int .i64 nx] ∧ Touch (fun k => k = rp) w wx)
  case first =>
    rcases hx with rfl | ⟨rfl, rfl⟩
    · have g5 : (nxr == 0) = false := by simp; omega
      clear HR
      go_wp2
      go_meet
      exact ⟨hB, Touch.refl _ _⟩
    · have hB1 := hB.set 1 (.int .i64 49152)
      go_wp2
      go_meet
      exact ⟨by simpa using hB1, Touch.set (S := fun k => k = rp) w (p := ⟨rp, 1, none⟩) rfl _⟩
  case rest =>
    obtain ⟨hBw, hT⟩ := hcut
    have how : OwP wc base v E := ho.same fun g hg => hT.block g (ho.lt hg).2 (hne g hg)
    have zc := hT.size
    have hT' : Touch (fun k => k = rp ∨ base ≤ k) w wc := ⟨hT.os, hT.tape, hT.output, hT.size, fun k hk hs => hT.block k hk fun e => hs (.inl e)⟩
    clear p1 f1 hB ho hT
    have hI : InI port := ⟨by omega, by omega⟩
    obtain ⟨A, c, rfl, hc1, hc2⟩ := how.form
    by_cases ht : (f port).isSome = true
    · have hR := HR.out
      rw [if_pos ht] at hR
      have hw := rwho wc hBw how hK hl port hI
      rw [ht] at hw
      have hfin : RBEnd w base rp E R (.returned (.tuple #[.int .i64 0, .int .i64 130])) wc := by
        rw [hR]
        exact ⟨rfl, E, nx, ⟨_, hBw, how, hne⟩, hK, .inl rfl, by omega, hT'⟩
      have HF := Lib.hid hfin
      have HW := Lib.hid hw
      clear hfin hw ht hK hBw how hT' hR HR
      go_wp2_with fail
      refine HW.out.mono ?_
      rintro e w' ⟨rfl, rfl⟩
      go_wp2
      go_ret2
      exact HF.out
    · have ht' : (f port).isSome = false := by simpa using ht
      have hf : f port = none := by simpa using ht
      have hR := HR.out
      rw [if_neg ht] at hR
      have HR2 := Lib.hid hR
      clear hR HR
      have hw := rwho wc hBw how hK hl port hI
      rw [ht'] at hw
      have HW := Lib.hid hw
      clear hw ht ht'
      have hK' := hK.bind (who := who) hf hI
      go_wp2_with fail
      refine HW.out.mono ?_
      rintro e w' ⟨rfl, rfl⟩
      clear HW
      have p0 := hBw.cell 0
      simp only [List.getElem?_toArray, List.getElem?_cons_zero] at p0
      have hBA := below_alloc wc (.cells #[.int .i64 port, .int .i64 who] 49)
      have hou1 := how.mono hBA
      have hN : Blk (wc.alloc (.cells #[.int .i64 port, .int .i64 who] 49)) wc.heap.size 49 #[.int .i64 port, .int .i64 who] := Blk.new _ _ _ _ rfl
      have d0 := hN.cell 0
      have d1 := hN.cell 1
      simp only [List.getElem?_toArray, List.getElem?_cons_zero, List.getElem?_cons_succ] at d0 d1
      have HN := Lib.hid (And.intro d0 d1)
      clear d0 d1 hN
      go_wp2_with ((with_reducible refine at_slot 86 ?_); refine wpList_appP rfl (.tmp 81) (.tmp 85) rfl base hou1 rfl rfl HN.out.1 HN.out.2 (by omega) (by simp; omega) ?_; intro v5 w5 ho5 hb5 hg5; clear hg5; obtain ⟨A5, c5, e5, _, _⟩ := ho5.form; subst e5; have hB5 := (hBw.alloc (.cells #[.int .i64 port, .int .i64 who] 49)).keep hb5 hrb; have f5 := hB5.free 0; have p5 := hB5.cell 0; simp only [List.getElem?_toArray, List.getElem?_cons_zero] at p5)
      go_ret2
      have hZ := hB5.set 0 (.slice A5 (E ++ [(port, who)]).length c5)
      rw [HR2.out]
      refine ⟨rfl, E ++ [(port, who)], nx, ⟨_, by simpa using hZ, ho5.same fun g hg => Below.heap_setCell _ _ _ _ (by have := (ho5.lt hg).1; show g ≠ rp; omega), fun g hg => by have := (ho5.lt hg).1; omega⟩, hK', .inl rfl, by simp, ?_⟩
      exact ((hT'.trans (Touch.of_below' hBA)).trans (Touch.of_base hb5)).trans (Touch.set (S := fun k => k = rp ∨ base ≤ k) w5 (p := ⟨rp, 0, none⟩) (.inl rfl) _)
set_option maxRecDepth 100000 in
set_option maxHeartbeats 6400000 in
theorem rbind_free (w : World) {rp base : Nat} {E : List (Int × Int)} {nxr nx : Int} {f : Int → Option Int} (h : RAt w base rp E nxr) (hK : Book f E) (hl : E.length ≤ 300) (hx : nxr = nx ∨ nxr = 0 ∧ nx = 49152) (hn0 : 49152 ≤ nx) (hn1 : nx ≤ 65535) (hb : base ≤ w.heap.size) (hrb : rp < base) (who : Int)
    (h3 : 0 ≤ who) (R : Int × Int × (Int → Option Int) × Int) (hR : R = match search f 16384 nx with | none => (0, 130, f, nx) | some n => (n, 0, upd f n who, behindP n)) :
    Calls Try.prog 26 #[.pointer (some ⟨rp, 0, none⟩), .int .i64 who, .int .i64 0] w (RBEnd w base rp E R) := by
  obtain ⟨v, hB, ho, hne⟩ := h
  have HR := Lib.hid hR
  clear hR
  have g3 : decide (who < 0) = false := by simp; omega
  have p1 := hB.cell 1
  have f1 := hB.free 1
  simp only [List.getElem?_toArray, List.getElem?_cons_zero, List.getElem?_cons_succ] at p1
  go_enter Try.func26, Try.ntmps26
  go_upto_if 28 with (fail)
  go_cut [] from 29 to 31 (fun wx => Blk wx rp 40 #[v, .int .i64 nx] ∧ Touch (fun k => k = rp) w wx)
  case first =>
    clear HR
    rcases hx with rfl | ⟨rfl, rfl⟩
    · have g5 : (nxr == 0) = false := by simp; omega
      go_wp2
      go_meet
      exact ⟨hB, Touch.refl _ _⟩
    · have hB1 := hB.set 1 (.int .i64 49152)
      go_wp2
      go_meet
      exact ⟨by simpa using hB1, Touch.set (S := fun k => k = rp) w (p := ⟨rp, 1, none⟩) rfl _⟩
  case rest =>
    obtain ⟨hBw, hT⟩ := hcut
    have how : OwP wc base v E := ho.same fun g hg => hT.block g (ho.lt hg).2 (hne g hg)
    have zc := hT.size
    have hT' : Touch (fun k => k = rp ∨ base ≤ k) w wc := ⟨hT.os, hT.tape, hT.output, hT.size, fun k hk hs => hT.block k hk fun e => hs (.inl e)⟩
    clear p1 f1 hB ho hT
    obtain ⟨A, c, rfl, hc1, hc2⟩ := how.form
    have q1 := hBw.cell 1
    have q0 := hBw.cell 0
    have fr0 := hBw.free 0
    have fr1 := hBw.free 1
    simp only [List.getElem?_toArray, List.getElem?_cons_zero, List.getElem?_cons_succ] at q1 q0
    go_wp2
    go_loopw [2, 8, 9] (fun pt m i wr => ∃ (k : Nat) (x : Int), k ≤ 16384 ∧ pt = .int .i64 0 ∧ i = .int .i64 k ∧ m = .int .i64 x ∧ 49152 ≤ x ∧ x ≤ 65535 ∧ Hid (search f (16384 - k) x = search f 16384 nx) ∧ wr = wc) (fun _ _ i _ => 16384 - (intOf i).toNat)
    case atStart => exact ⟨0, nx, Nat.zero_le _, rfl, rfl, rfl, hn0, hn1, rfl, rfl⟩
    case round =>
      obtain ⟨k, x, hk, rfl, rfl, rfl, hx0, hx1, hs, rfl⟩ := hrel
      by_cases hlt : k < 16384
      · have hI : InI x := ⟨by omega, by omega⟩
        have hw := rwho wr hBw how hK hl x hI
        by_cases ht : (f x).isSome = true
        · rw [ht] at hw
          have HW := Lib.hid hw
          clear hw
          have hst := search_step (f := f) (k := 16384 - (k + 1)) ht
          have HST := Lib.hid hst
          clear hst ht
          obtain ⟨y0, y1⟩ := behindP_bd hx0 hx1
          have hbe : behindP x = if x = 65535 then 49152 else x + 1 := rfl
          have HBE := Lib.hid hbe
          clear hbe
          by_cases hxe : x = 65535
          · subst hxe
            go_wp2_with fail
            refine HW.out.mono ?_
            rintro e w' ⟨rfl, rfl⟩
            clear HW
            go_wp2
            go_roundw
            case rel => exact ⟨k + 1, behindP 65535, by omega, rfl, by go_num, by rw [HBE.out]; rfl, y0, y1, by unfold Hid; rw [← hs.out, show 16384 - k = (16384 - (k + 1)) + 1 from by omega, HST.out], trivial⟩
            case measure => simp [intOf]; omega
          · have g9 : decide (65535 < x + 1) = false := by simp; omega
            go_wp2_with fail
            refine HW.out.mono ?_
            rintro e w' ⟨rfl, rfl⟩
            clear HW
            go_wp2
            go_roundw
            case rel => exact ⟨k + 1, behindP x, by omega, rfl, by go_num, by rw [HBE.out, if_neg hxe], y0, y1, by unfold Hid; rw [← hs.out, show 16384 - k = (16384 - (k + 1)) + 1 from by omega, HST.out], trivial⟩
            case measure => simp [intOf]; omega
        · have ht' : (f x).isSome = false := by simpa using ht
          have hf : f x = none := by simpa using ht
          rw [ht'] at hw
          have HW := Lib.hid hw
          have hsx : search f 16384 nx = some x := by rw [← hs.out, show 16384 - k = (16384 - (k + 1)) + 1 from by omega, search_hit ht']
          have hR := HR.out
          rw [hsx] at hR
          have HR2 : Hid (R = (x, 0, upd f x who, behindP x)) := hR
          have hK' := hK.bind (who := who) hf hI
          clear hw ht ht' hR hsx HR hs
          have gx0 : (x == 0) = false := by simp; omega
          have hbe : behindP x = if x = 65535 then 49152 else x + 1 := rfl
          have HBE := Lib.hid hbe
          clear hbe
          by_cases hxe : x = 65535
          · subst hxe
            have hBW := (hBw.set 1 (.int .i64 65536)).set 1 (.int .i64 49152)
            have hoW : OwP ((wr.setCell ⟨rp, 1, none⟩ (.int .i64 65536)).setCell ⟨rp, 1, none⟩ (.int .i64 49152)) base (.slice A E.length c) E := how.same fun g hg => (Below.heap_setCell _ _ _ _ (hne g hg)).trans (Below.heap_setCell _ _ _ _ (hne g hg))
            have hTW := (hT'.trans (Touch.set (S := fun k => k = rp ∨ base ≤ k) wr (p := ⟨rp, 1, none⟩) (.inl rfl) (.int .i64 65536))).trans (Touch.set (S := fun k => k = rp ∨ base ≤ k) (wr.setCell ⟨rp, 1, none⟩ (.int .i64 65536)) (p := ⟨rp, 1, none⟩) (.inl rfl) (.int .i64 49152))
            have hBW : Blk ((wr.setCell ⟨rp, 1, none⟩ (.int .i64 65536)).setCell ⟨rp, 1, none⟩ (.int .i64 49152)) rp 40 #[.slice A E.length c, .int .i64 (behindP 65535)] := by simpa [behindP] using hBW
            have HBW := Lib.hid hBW
            have HOW := Lib.hid hoW
            have HTW := Lib.hid hTW
            clear hBW hoW hTW
            go_wp2_with fail
            refine HW.out.mono ?_
            rintro e w' ⟨rfl, rfl⟩
            clear HW
            go_upto_region 24 with (fail)
            have hBW := HBW.out
            have hoW := HOW.out
            have hTW := HTW.out
            clear HBW HOW HTW q0 q1 fr0 fr1 hBw how hT'
            obtain ⟨W, hW⟩ : ∃ W, W = (wr.setCell ⟨rp, 1, none⟩ (.int .i64 65536)).setCell ⟨rp, 1, none⟩ (.int .i64 49152) := ⟨_, rfl⟩
            rw [← hW] at hBW hoW hTW ⊢
            clear hW
            have zW := hTW.size
            have hBA := below_alloc W (.cells #[.int .i64 65535, .int .i64 who] 49)
            have hou1 := hoW.mono hBA
            have hN : Blk (W.alloc (.cells #[.int .i64 65535, .int .i64 who] 49)) W.heap.size 49 #[.int .i64 65535, .int .i64 who] := Blk.new _ _ _ _ rfl
            have d0 := hN.cell 0
            have d1 := hN.cell 1
            have p0 := hBW.cell 0
            simp only [List.getElem?_toArray, List.getElem?_cons_zero, List.getElem?_cons_succ] at d0 d1 p0
            have HN := Lib.hid (And.intro d0 d1)
            clear d0 d1 hN
            go_wp2_with ((with_reducible refine at_slot 86 ?_); refine wpList_appP rfl (.tmp 81) (.tmp 85) rfl base hou1 rfl rfl HN.out.1 HN.out.2 (by omega) (by simp; omega) ?_; intro v5 w5 ho5 hb5 hg5; clear hg5; obtain ⟨A5, c5, e5, _, _⟩ := ho5.form; subst e5; have hB5 := (hBW.alloc (.cells #[.int .i64 65535, .int .i64 who] 49)).keep hb5 hrb; have f5 := hB5.free 0; have p5 := hB5.cell 0; simp only [List.getElem?_toArray, List.getElem?_cons_zero] at p5)
            go_ret2
            have hZ := hB5.set 0 (.slice A5 (E ++ [(65535, who)]).length c5)
            rw [HR2.out]
            refine ⟨rfl, E ++ [(65535, who)], behindP 65535, ⟨_, by simpa using hZ, ho5.same fun g hg => Below.heap_setCell _ _ _ _ (by have := (ho5.lt hg).1; show g ≠ rp; omega), fun g hg => by have := (ho5.lt hg).1; omega⟩, hK', .inl rfl, by simp, ?_⟩
            exact ((hTW.trans (Touch.of_below' hBA)).trans (Touch.of_base hb5)).trans (Touch.set (S := fun k => k = rp ∨ base ≤ k) w5 (p := ⟨rp, 0, none⟩) (.inl rfl) _)
          · have g9 : decide (65535 < x + 1) = false := by simp; omega
            have hBW := hBw.set 1 (.int .i64 (x + 1))
            have hoW : OwP (wr.setCell ⟨rp, 1, none⟩ (.int .i64 (x + 1))) base (.slice A E.length c) E := how.same fun g hg => Below.heap_setCell _ _ _ _ (hne g hg)
            have hTW := hT'.trans (Touch.set (S := fun k => k = rp ∨ base ≤ k) wr (p := ⟨rp, 1, none⟩) (.inl rfl) (.int .i64 (x + 1)))
            have hBW : Blk (wr.setCell ⟨rp, 1, none⟩ (.int .i64 (x + 1))) rp 40 #[.slice A E.length c, .int .i64 (behindP x)] := by rw [HBE.out, if_neg hxe]; simpa using hBW
            have HBW := Lib.hid hBW
            have HOW := Lib.hid hoW
            have HTW := Lib.hid hTW
            clear hBW hoW hTW
            go_wp2_with fail
            refine HW.out.mono ?_
            rintro e w' ⟨rfl, rfl⟩
            clear HW
            go_upto_region 24 with (fail)
            have hBW := HBW.out
            have hoW := HOW.out
            have hTW := HTW.out
            clear HBW HOW HTW q0 q1 fr0 fr1 hBw how hT'
            obtain ⟨W, hW⟩ : ∃ W, W = wr.setCell ⟨rp, 1, none⟩ (.int .i64 (x + 1)) := ⟨_, rfl⟩
            rw [← hW] at hBW hoW hTW ⊢
            clear hW
            have zW := hTW.size
            have hBA := below_alloc W (.cells #[.int .i64 x, .int .i64 who] 49)
            have hou1 := hoW.mono hBA
            have hN : Blk (W.alloc (.cells #[.int .i64 x, .int .i64 who] 49)) W.heap.size 49 #[.int .i64 x, .int .i64 who] := Blk.new _ _ _ _ rfl
            have d0 := hN.cell 0
            have d1 := hN.cell 1
            have p0 := hBW.cell 0
            simp only [List.getElem?_toArray, List.getElem?_cons_zero, List.getElem?_cons_succ] at d0 d1 p0
            have HN := Lib.hid (And.intro d0 d1)
            clear d0 d1 hN
            go_wp2_with ((with_reducible refine at_slot 86 ?_); refine wpList_appP rfl (.tmp 81) (.tmp 85) rfl base hou1 rfl rfl HN.out.1 HN.out.2 (by omega) (by simp; omega) ?_; intro v5 w5 ho5 hb5 hg5; clear hg5; obtain ⟨A5, c5, e5, _, _⟩ := ho5.form; subst e5; have hB5 := (hBW.alloc (.cells #[.int .i64 x, .int .i64 who] 49)).keep hb5 hrb; have f5 := hB5.free 0; have p5 := hB5.cell 0; simp only [List.getElem?_toArray, List.getElem?_cons_zero] at p5)
            go_ret2
            have hZ := hB5.set 0 (.slice A5 (E ++ [(x, who)]).length c5)
            rw [HR2.out]
            refine ⟨rfl, E ++ [(x, who)], behindP x, ⟨_, by simpa using hZ, ho5.same fun g hg => Below.heap_setCell _ _ _ _ (by have := (ho5.lt hg).1; show g ≠ rp; omega), fun g hg => by have := (ho5.lt hg).1; omega⟩, hK', .inl rfl, by simp, ?_⟩
            exact ((hTW.trans (Touch.of_below' hBA)).trans (Touch.of_base hb5)).trans (Touch.set (S := fun k => k = rp ∨ base ≤ k) w5 (p := ⟨rp, 0, none⟩) (.inl rfl) _)
      · obtain rfl : k = 16384 := by omega
        have hs' := hs.out
        have hR := HR.out
        rw [← hs'] at hR
        have hfin : RBEnd w base rp E R (.returned (.tuple #[.int .i64 0, .int .i64 130])) wr := by
          rw [hR]
          exact ⟨rfl, E, nx, ⟨_, hBw, how, hne⟩, hK, .inl rfl, by omega, hT'⟩
        have HF := Lib.hid hfin
        clear hfin hR hs' HR hK hBw how hT'
        go_wp2
        go_ret2
        exact HF.out
/-- The reference's Bind. -/
theorem rbind (w : World) {rp base : Nat} {E : List (Int × Int)} {nxr nx : Int} {f : Int → Option Int} (h : RAt w base rp E nxr) (hK : Book f E) (hl : E.length ≤ 300) (hx : nxr = nx ∨ nxr = 0 ∧ nx = 49152) (hn0 : 49152 ≤ nx) (hn1 : nx ≤ 65535) (hb : base ≤ w.heap.size) (hrb : rp < base) (who port : Int) :
    Calls Try.prog 26 #[.pointer (some ⟨rp, 0, none⟩), .int .i64 who, .int .i64 port] w (RBEnd w base rp E (bindR f nx who port)) := by
  unfold bindR
  by_cases h1 : port < 0 ∨ 65535 < port ∨ who < 0
  · rw [if_pos h1]
    exact rbind_arg w h hK hx who port h1
  · rw [if_neg h1]
    by_cases h2 : 0 < port
    · rw [if_pos h2]
      exact rbind_named w h hK hl hx hn0 hb hrb who port h2 (by omega) (by omega) _ rfl
    · rw [if_neg h2]
      obtain rfl : port = 0 := by omega
      exact rbind_free w h hK hl hx hn0 hn1 hb hrb who (by omega) _ rfl
end Go.Proofs.Ytbhdojpgjmbogaa
