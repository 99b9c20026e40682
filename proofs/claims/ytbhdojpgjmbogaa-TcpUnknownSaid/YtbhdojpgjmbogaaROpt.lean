/- packhorseref14.options, whole. -/
import Derived.Test.YtbhdojpgjmbogaaTOpt
import Derived.Test.YtbhdojpgjmbogaaRef1
namespace Go.Proofs.Ytbhdojpgjmbogaa
open Go.RowKit Go.Shelf
set_option maxRecDepth 100000 in
set_option maxHeartbeats 8000000 in
theorem ropts_all (s : SG) (E : List (Int × Int)) (w : World) (hms : 0 ≤ s.ms ∧ s.ms ≤ 65535) (hg : RdS w s.gt E) (h3 : E.length ≤ 3) (hU : SpansU E) :
    Calls Try.prog 82 #[s.v] w (OEnd w (optB s.ms s.sk E)) := by
  obtain ⟨Ag, cg, eg, hc1, hc2⟩ := hg.form
  have HG := Lib.hid eg
  rw [eg] at hg
  clear eg
  go_enter Try.func82, Try.ntmps82
  go_upto_region 1 with (fail)
  refine box1 (s := s) (motive := fun X => Code.wp Try.prog _ _ _ X) ?_
  intro X hB hX hs
  have hgX := hg.mono hB
  have c6 := hs.sg.2.2.2.2.2.2.1
  go_upto_if 7 with (fail)
  go_cut [3] from 5 to 11 (fun b wx => Ow wx X.heap.size b (oM s.ms) ∧ Below X.heap.size X wx)
  case first =>
    by_cases hm : s.ms = 0
    · have g0 : (s.ms != 0) = false := by simpa using hm
      have HM := Lib.hid hm
      clear hm
      go_wp2_with fail
      go_meet
      exact ⟨by rw [oM, if_pos HM.out]; exact Ow.nil _ _, Below.refl _ _⟩
    · have g0 : (s.ms != 0) = true := by simpa using hm
      have HM := Lib.hid hm
      clear hm
      have hl : Rd (X.alloc (.cells #[.int .u8 2, .int .u8 4] 5)) (.slice (some ⟨X.heap.size, 0, none⟩) 2 2) [2, 4] := rd_at X _ [2, 4] 2 _ rfl rfl (by omega) rfl
      have q6 := (hs.alloc (.cells #[.int .u8 2, .int .u8 4] 5)).sg.2.2.2.2.2.2.1
      have hBA := below_alloc X (.cells #[.int .u8 2, .int .u8 4] 5)
      obtain ⟨m0, m1⟩ := hms
      go_wp2_with fail
      refine (rput2 _ _ s.ms _ hl (by simp) m0 (by omega)).mono ?_
      rintro e w2 ⟨v2, rfl, ho2, hb2⟩
      have ho3 := ho2.less hBA.size
      have hB2 := below_step hBA hBA.size hb2
      have HO3 := Lib.hid (And.intro ho3 hB2)
      clear c6 q6 hl hb2 ho2 ho3 hB2 hBA
      go_wp2_with fail
      go_meet
      exact ⟨by rw [oM, if_neg HM.out]; exact HO3.out.1, HO3.out.2⟩
  case rest =>
    obtain ⟨ho1, hB1⟩ := hcut
    have hs1 := hs.mono hB1
    have hg1 := hgX.mono hB1
    have c7 := hs1.sg.2.2.2.2.2.2.2.1
    clear c6
    obtain ⟨A1, c1, e1, _, _⟩ := ho1.rd.form
    subst e1
    have hl1 := oM_len s.ms
    obtain ⟨b1, hb1⟩ : ∃ b1, b1 = oM s.ms := ⟨_, rfl⟩
    rw [← hb1] at ho1 hl1 ⊢
    have HB1 := Lib.hid hb1
    clear hb1
    go_upto_if 13 with (fail)
    go_cut [3] from 12 to 16 (fun b wx => Ow wx X.heap.size b (b1 ++ oS s.sk) ∧ Below X.heap.size X wx)
    case first =>
      cases hk : s.sk with
      | false =>
        rw [hk] at c7
        go_wp2_with fail
        go_meet
        exact ⟨by rw [hk]; simpa [oS] using ho1, hB1⟩
      | true =>
        rw [hk] at c7
        have hBA := below_alloc wc (.cells #[.int .u8 4, .int .u8 2] 5)
        have hl : Rd (wc.alloc (.cells #[.int .u8 4, .int .u8 2] 5)) (.slice (some ⟨wc.heap.size, 0, none⟩) 2 2) [4, 2] := rd_at wc _ [4, 2] 2 _ rfl rfl (by omega) rfl
        have ho2 := ho1.mono hBA
        have zc := hB1.size
        go_wp2_with ((with_reducible refine at_slot 16 ?_); refine wpList_app rfl (.tmp 14) (.tmp 15) rfl X.heap.size ho2 hl rfl rfl (by simp; omega) (by simp; omega) ?_; intro v3 w3 ho3 hb3 hg3; clear hg3)
        go_meet
        exact ⟨by rw [hk]; exact ho3, (hB1.trans (hBA.mono zc)).trans hb3⟩
    case rest =>
      obtain ⟨ho2, hB2⟩ := hcut
      clear c7 hs1 hg1 ho1 hB1
      have hs2 := hs.mono hB2
      have hg2 := hgX.mono hB2
      have c8 := hs2.sg.2.2.2.2.2.2.2.2.1
      rw [HG.out] at c8
      obtain ⟨A2, c2, e2, _, _⟩ := ho2.rd.form
      subst e2
      have hl2 := oS_len s.sk
      obtain ⟨b2, hb2⟩ : ∃ b2, b2 = b1 ++ oS s.sk := ⟨_, rfl⟩
      have hlb2 : b2.length ≤ 6 := by rw [hb2]; simp; omega
      rw [← hb2] at ho2 ⊢
      have HB2 := Lib.hid hb2
      clear hb2 hl2
      go_upto_if 20 with (fail)
      go_cut [3, 4] from 17 to 54 (fun b _ wx => Ow wx X.heap.size b (b2 ++ oG E) ∧ Below X.heap.size X wx)
      case first =>
        by_cases hE : E = []
        · subst hE
          go_wp2_with fail
          go_meet
          exact ⟨by simpa [oG] using ho2, hB2⟩
        · have hE0 : 0 < E.length := List.length_pos_iff.2 hE
          have HE := Lib.hid hE
          clear hE
          have hBA := below_alloc wc (.cells #[.int .u8 5, .int .u8 (2 + 8 * (E.length : Int))] 5)
          have g8 : (2 + 8 * (E.length : Int)) % 256 = 2 + 8 * (E.length : Int) := by omega
          have hl : Rd (wc.alloc (.cells #[.int .u8 5, .int .u8 (2 + 8 * (E.length : Int))] 5)) (.slice (some ⟨wc.heap.size, 0, none⟩) 2 2) [5, by8 (2 + 8 * E.length)] := rd_at wc _ _ 2 _ (by rw [List.map_cons, List.map_cons, List.map_nil, bv_by8, g8]; rfl) rfl (by omega) rfl
          have ho3 := ho2.mono hBA
          have zc := hB2.size
          go_upto_region 8 with ((with_reducible refine at_slot 29 ?_); refine wpList_app rfl (.tmp 21) (.tmp 28) rfl X.heap.size ho3 hl rfl rfl (by simp; omega) (by simp; omega) ?_; intro v4 w4 ho4 hb4 hg4; clear hg4)
          obtain ⟨A4, c4, e4, _, _⟩ := ho4.rd.form
          subst e4
          have hB4 := (hB2.trans (hBA.mono zc)).trans hb4
          have hg4 := hgX.mono hB4
          have hs4 := hs.mono hB4
          clear c8 ho2 hl ho3 hb4 hBA hs2 hg2
          obtain ⟨b4, hb4⟩ : ∃ b4, b4 = b2 ++ [5, by8 (2 + 8 * E.length)] := ⟨_, rfl⟩
          have hlb4 : b4.length ≤ 8 := by rw [hb4]; simp; omega
          rw [← hb4] at ho4 ⊢
          have HB4 := Lib.hid hb4
          clear hb4
          have c8 := hs4.sg.2.2.2.2.2.2.2.2.1
          rw [HG.out] at c8
          go_wp2
          go_loopw [3, 4] (fun b i wx => ∃ k : Nat, i = .int .i64 k ∧ k ≤ E.length ∧ Ow wx X.heap.size b (b4 ++ spanL (E.take k)) ∧ Below X.heap.size X wx) (fun _ i _ => E.length - (intOf i).toNat)
          case atStart => exact ⟨0, rfl, Nat.zero_le _, by simpa [spanL] using ho4, hB4⟩
          case round =>
            obtain ⟨k, rfl, hk, ho5, hB5⟩ := hrel
            clear ho4 hB4 hg4 hs4 c8 hB2 zc
            have c8r := (hs.mono hB5).sg.2.2.2.2.2.2.2.2.1
            rw [HG.out] at c8r
            by_cases hlt : k < E.length
            · obtain ⟨bb, oo, rfl, hbl, d0, d1⟩ := (hgX.mono hB5).at_ k hlt
              have htk : E.take (k + 1) = E.take k ++ [E[k]] := List.take_succ_eq_append_getElem hlt
              obtain ⟨⟨hy0, hy1⟩, ⟨hz0, hz1⟩⟩ := hU E[k] (List.getElem_mem hlt)
              obtain ⟨⟨y, z⟩, hyz⟩ : ∃ x, x = E[k] := ⟨_, rfl⟩
              rw [← hyz] at d0 d1 htk hy0 hy1 hz0 hz1
              dsimp only at d0 d1 hy0 hy1 hz0 hz1
              have HTK := Lib.hid htk
              have HYZ := Lib.hid hyz
              obtain ⟨A5, c5, e5, _, _⟩ := ho5.rd.form
              subst e5
              obtain ⟨l5, hl5⟩ : ∃ l5, l5 = b4 ++ spanL (E.take k) := ⟨_, rfl⟩
              have hl5n : l5.length ≤ 32 := by rw [hl5]; simp [spanL_len]; omega
              rw [← hl5] at ho5 ⊢
              obtain ⟨n5, hn5⟩ : ∃ n5, n5 = l5.length := ⟨_, rfl⟩
              rw [← hn5] at ho5 ⊢
              have HL5 := Lib.hid (And.intro hl5 hn5)
              clear htk hyz hl5 hn5
              have z5 := hB5.size
              have hl6 : (l5 ++ p32 y).length = l5.length + 4 := by simp [p32_len]
              have hs5 := hs.mono hB5
              have c8 := hs5.sg.2.2.2.2.2.2.2.2.1
              rw [HG.out] at c8
              go_wp2_with fail
              refine (rput4 _ _ y _ ho5.rd (by omega) hy0 (by omega)).mono ?_
              rintro e w6 ⟨v6, rfl, ho6, hb6⟩
              have hs6 := hs5.mono hb6
              have c8' := hs6.sg.2.2.2.2.2.2.2.2.1
              rw [HG.out] at c8'
              have d1' := ((hgX.mono hB5).mono hb6).at_ k hlt
              rw [← HYZ.out] at d1'
              obtain ⟨_, _, e9, _, _, d1'⟩ := d1'
              injection e9 with e9
              injection e9 with e9 e10
              subst e9 e10
              dsimp only at d1'
              clear d1 d0
              go_wp2_with fail
              refine (rput4 _ _ z _ ho6.rd (by omega) hz0 (by omega)).mono ?_
              rintro e w7 ⟨v7, rfl, ho7, hb7⟩
              have hB7 := (hB5.trans (hb6.mono z5)).trans (hb7.mono (by have := hb6.size; omega))
              have hall := And.intro (ho7.less (show X.heap.size ≤ w6.heap.size by have := hb6.size; omega)) hB7
              have HALL := Lib.hid hall
              have HS7 := Lib.hid ((hs6.mono hb7).sg.2.2.2.2.2.2.2.2.1)
              clear hall ho7 hb7 ho6 hb6 c8 c8' hs5 hs6 d1'
              go_wp2
              go_roundw
              case rel => exact ⟨k + 1, by go_num, by omega, by rw [HTK.out, spanL_snoc]; have h := HALL.out.1; rw [HL5.out.1] at h; simpa [List.append_assoc] using h, HALL.out.2⟩
              case measure => simp [intOf]; omega
            · obtain rfl : k = E.length := by omega
              rw [List.take_length] at ho5
              go_wp2_with fail
              go_meet
              exact ⟨by rw [oG, if_neg HE.out, ← List.append_assoc, ← HB4.out]; exact ho5, hB5⟩
      case rest =>
        obtain ⟨ho6, hB6⟩ := hcut
        clear c8 ho2 hB2 hs2 hg2
        have hl6 := oG_len E
        obtain ⟨b6, hb6⟩ : ∃ b6, b6 = b2 ++ oG E := ⟨_, rfl⟩
        have hlb6 : b6.length ≤ 32 := by rw [hb6]; simp; omega
        rw [← hb6] at ho6
        have HB6 := Lib.hid hb6
        clear hb6 hl6
        obtain ⟨pd, hpd⟩ : ∃ pd, pd = (4 - b6.length % 4) % 4 := ⟨_, rfl⟩
        go_wp2
        go_loopw [3] (fun b wx => ∃ k : Nat, k ≤ pd ∧ (∃ A c, b = .slice A (b6.length + k) c) ∧ Ow wx X.heap.size b (b6 ++ List.replicate k 1) ∧ Below X.heap.size X wx) (fun b _ => b6.length + pd - lenV b)
        case atStart =>
          obtain ⟨A6, c6, e6, _, _⟩ := ho6.rd.form
          exact ⟨0, Nat.zero_le _, ⟨A6, c6, e6⟩, by simpa using ho6, hB6⟩
        case round =>
          obtain ⟨k, hk, ⟨A7, c7, rfl⟩, ho7, hB7⟩ := hrel
          clear ho6 hB6
          have hlr : (b6 ++ List.replicate k (1 : UInt8)).length = b6.length + k := by simp
          obtain ⟨m, hm⟩ : ∃ m, m = b6.length + k := ⟨_, rfl⟩
          rw [← hm] at ho7 ⊢
          have HM := Lib.hid hm
          have z7 := hB7.size
          by_cases hlt : k < pd
          · have g : ((m : Int) % 4 != 0) = true := by simp; omega
            have hm32 : m ≤ 40 := by omega
            have hBA := below_alloc wr (.cells #[.int .u8 1] 5)
            have hl : Rd (wr.alloc (.cells #[.int .u8 1] 5)) (.slice (some ⟨wr.heap.size, 0, none⟩) 1 1) [1] := rd_at wr _ [1] 1 _ rfl rfl (by omega) rfl
            have ho8 := ho7.mono hBA
            clear hm
            go_wp2_with ((with_reducible refine at_slot 61 ?_); refine wpList_app rfl (.tmp 59) (.tmp 60) rfl X.heap.size ho8 hl rfl rfl (by rw [hlr]; simp; omega) (by simp; omega) ?_; intro v9 w9 ho9 hb9 hg9; clear hg9)
            obtain ⟨A9, c9, e9, _, _⟩ := ho9.rd.form
            subst e9
            have hB9 := (hB7.trans (hBA.mono z7)).trans hb9
            have hrep : b6 ++ List.replicate k (1 : UInt8) ++ [1] = b6 ++ List.replicate (k + 1) 1 := by rw [List.append_assoc, ← List.replicate_succ']
            rw [hrep] at ho9 ⊢
            go_roundw
            case rel => exact ⟨k + 1, by omega, ⟨A9, c9, by simp⟩, ho9, hB9⟩
            case measure => have := HM.out; simp [lenV]; omega
          · have g : ((m : Int) % 4 != 0) = false := by simp; omega
            have hkp : k = pd := by omega
            clear hm
            go_wp2
            go_ret
            refine ⟨_, rfl, ?_, below_step hB hB.size hB7⟩
            have h := ho7.less hB.size
            rw [hkp, hpd] at h
            rw [optB, padL, ← HB1.out, ← HB2.out, ← HB6.out]
            exact h
end Go.Proofs.Ytbhdojpgjmbogaa
