/- tcp.options, whole. -/
import Derived.Test.YtbhdojpgjmbogaaTcp5
import Derived.Test.YtbhdojpgjmbogaaSpans
import Derived.Test.YtbhdojpgjmbogaaDrawn2
namespace Go.Proofs.Ytbhdojpgjmbogaa
open Go.RowKit Go.Shelf
def oM (ms : Int) : List UInt8 := if ms = 0 then [] else [2, 4] ++ p16 ms
def oS (sk : Bool) : List UInt8 := if sk then [4, 2] else []
def spanL (E : List (Int × Int)) : List UInt8 := E.flatMap fun x => p32 x.1 ++ p32 x.2
def oG (E : List (Int × Int)) : List UInt8 := if E = [] then [] else [5, by8 (2 + 8 * E.length)] ++ spanL E
def padL (b : List UInt8) : List UInt8 := b ++ List.replicate ((4 - b.length % 4) % 4) 1
/-- The bytes of a segment's options. -/
def optB (ms : Int) (sk : Bool) (E : List (Int × Int)) : List UInt8 := padL (oM ms ++ oS sk ++ oG E)
theorem p32_len (n : Int) : (p32 n).length = 4 := rfl
theorem spanL_len (E : List (Int × Int)) : (spanL E).length = 8 * E.length := by
  induction E with
  | nil => rfl
  | cons x E ih => simp [spanL, List.flatMap_cons, p32_len] at ih ⊢; rw [ih]; omega
theorem spanL_snoc (E : List (Int × Int)) (x : Int × Int) : spanL (E ++ [x]) = spanL E ++ p32 x.1 ++ p32 x.2 := by simp [spanL]
theorem oM_len (ms : Int) : (oM ms).length ≤ 4 := by unfold oM; split <;> simp [p16]
theorem oS_len (sk : Bool) : (oS sk).length ≤ 2 := by unfold oS; split <;> simp
theorem oG_len (E : List (Int × Int)) : (oG E).length ≤ 2 + 8 * E.length := by
  unfold oG
  split
  · simp
  · simp [spanL_len]; omega
def lenV (v : Value) : Nat := match v with | .slice _ n _ => n | _ => 0
/-- Spans whose numbers are numbers. -/
def SpansU (E : List (Int × Int)) : Prop := ∀ x ∈ E, U32 x.1 ∧ U32 x.2
set_option maxRecDepth 100000 in
set_option maxHeartbeats 8000000 in
theorem topts_all (s : SG) (E : List (Int × Int)) (w : World) (hg : RdS w s.gt E) (h3 : E.length ≤ 3) (hU : SpansU E) :
    Calls Try.prog 64 #[s.v] w (OEnd w (optB s.ms s.sk E)) := by
  obtain ⟨Ag, cg, eg, hc1, hc2⟩ := hg.form
  have HG := Lib.hid eg
  rw [eg] at hg
  clear eg
  go_enter Try.func64, Try.ntmps64
  go_upto_region 1 with (fail)
  refine box1 (s := s) (motive := fun X => Code.wp Try.prog _ _ _ X) ?_
  intro X hB hX hs
  have hgX := hg.mono hB
  have c6 := hs.sg.2.2.2.2.2.2.1
  go_upto_if 8 with (fail)
  go_cut [3] from 6 to 14 (fun b wx => Ow wx X.heap.size b (oM s.ms) ∧ Below X.heap.size X wx)
  case first =>
    by_cases hm : s.ms = 0
    · have g0 : (s.ms != 0) = false := by simpa using hm
      have HM := Lib.hid hm
      clear hm
      go_wp2_with fail
      go_meet
      exact ⟨by rw [oM, if_pos HM.out]; exact Ow.nil _ _, Below.refl _ _⟩
    · have g0 : (s.ms != 0) = true := by simpa using hm
      have HM := Lib.hid hm
      clear hm
      go_upto_region 3 with (fail)
      have hl : Rd (X.alloc (.cells #[.int .u8 2, .int .u8 4] 5)) (.slice (some ⟨X.heap.size, 0, none⟩) 2 2) [2, 4] := rd_at X _ [2, 4] 2 _ rfl rfl (by omega) rfl
      have q6 := (hs.alloc (.cells #[.int .u8 2, .int .u8 4] 5)).sg.2.2.2.2.2.2.1
      go_region_law (first | (refine step_app rfl (.tmp 9) (.tmp 10) rfl X.heap.size (Ow.nil _ _) hl.drew rfl rfl (by simp) (by simp) ?_; intro v1 w1 ho1 hb1 hg1; clear hg1; have c6' := ((hs.alloc _).drw.keep hb1 hs.lt).sg.2.2.2.2.2.2.1) | (refine step_call rfl rfl (enters_of Try.func52 (by kernel_rfl) rfl) (put16 _ _ s.ms _ ho1.rd (by simp)) rfl ?_; rintro e w2 ⟨v2, rfl, ho2, hb2⟩; refine ⟨_, rfl, ?_⟩))
      all_goals
        have hB1 := (((Below.refl X.heap.size X).alloc (Nat.le_refl _) (.cells #[.int .u8 2, .int .u8 4] 5)).drew.trans hb1)
        have hB2 := below_step hB1 hB1.size hb2
        rw [List.nil_append] at ho2
        have ho3 := ho2.less hB1.size
        have HO3 := Lib.hid (And.intro ho3 hB2)
        clear c6 c6' q6 hl ho1 hb1 hb2 ho2 ho3 hB2
        go_wp2_with fail
        go_meet
        exact ⟨by rw [oM, if_neg HM.out]; exact HO3.out.1, HO3.out.2⟩
  case rest =>
    obtain ⟨ho1, hB1⟩ := hcut
    have hs1 := hs.mono hB1
    have hg1 := hgX.mono hB1
    have c7 := hs1.sg.2.2.2.2.2.2.2.1
    clear c6
    obtain ⟨A1, c1, e1, _, _⟩ := ho1.rd.form
    subst e1
    have hl1 := oM_len s.ms
    obtain ⟨b1, hb1⟩ : ∃ b1, b1 = oM s.ms := ⟨_, rfl⟩
    rw [← hb1] at ho1 hl1 ⊢
    have HB1 := Lib.hid hb1
    clear hb1
    go_upto_if 16 with (fail)
    go_cut [3] from 15 to 19 (fun b wx => Ow wx X.heap.size b (b1 ++ oS s.sk) ∧ Below X.heap.size X wx)
    case first =>
      cases hk : s.sk with
      | false =>
        rw [hk] at c7
        go_wp2_with fail
        go_meet
        exact ⟨by rw [hk]; simpa [oS] using ho1, hB1⟩
      | true =>
        rw [hk] at c7
        have hBA := below_alloc wc (.cells #[.int .u8 4, .int .u8 2] 5)
        have hl : Rd (wc.alloc (.cells #[.int .u8 4, .int .u8 2] 5)) (.slice (some ⟨wc.heap.size, 0, none⟩) 2 2) [4, 2] := rd_at wc _ [4, 2] 2 _ rfl rfl (by omega) rfl
        have ho2 := ho1.mono hBA
        have zc := hB1.size
        go_wp2_with ((with_reducible refine at_slot 19 ?_); refine wpList_app rfl (.tmp 17) (.tmp 18) rfl X.heap.size ho2 hl rfl rfl (by simp; omega) (by simp; omega) ?_; intro v3 w3 ho3 hb3 hg3; clear hg3)
        go_meet
        exact ⟨by rw [hk]; exact ho3, (hB1.trans (hBA.mono zc)).trans hb3⟩
    case rest =>
      obtain ⟨ho2, hB2⟩ := hcut
      clear c7 hs1 hg1 ho1 hB1
      have hs2 := hs.mono hB2
      have hg2 := hgX.mono hB2
      have c8 := hs2.sg.2.2.2.2.2.2.2.2.1
      rw [HG.out] at c8
      obtain ⟨A2, c2, e2, _, _⟩ := ho2.rd.form
      subst e2
      have hl2 := oS_len s.sk
      obtain ⟨b2, hb2⟩ : ∃ b2, b2 = b1 ++ oS s.sk := ⟨_, rfl⟩
      have hlb2 : b2.length ≤ 6 := by rw [hb2]; simp; omega
      rw [← hb2] at ho2 ⊢
      have HB2 := Lib.hid hb2
      clear hb2 hl2
      go_upto_if 23 with (fail)
      go_cut [3] from 20 to 47 (fun b wx => Ow wx X.heap.size b (b2 ++ oG E) ∧ Below X.heap.size X wx)
      case first =>
        by_cases hE : E = []
        · subst hE
          go_wp2_with fail
          go_meet
          exact ⟨by simpa [oG] using ho2, hB2⟩
        · have hE0 : 0 < E.length := List.length_pos_iff.2 hE
          have HE := Lib.hid hE
          clear hE
          have hBA := below_alloc wc (.cells #[.int .u8 5, .int .u8 (2 + 8 * (E.length : Int))] 5)
          have g8 : (2 + 8 * (E.length : Int)) % 256 = 2 + 8 * (E.length : Int) := by omega
          have hl : Rd (wc.alloc (.cells #[.int .u8 5, .int .u8 (2 + 8 * (E.length : Int))] 5)) (.slice (some ⟨wc.heap.size, 0, none⟩) 2 2) [5, by8 (2 + 8 * E.length)] := rd_at wc _ _ 2 _ (by rw [List.map_cons, List.map_cons, List.map_nil, bv_by8, g8]; rfl) rfl (by omega) rfl
          have ho3 := ho2.mono hBA
          have zc := hB2.size
          go_upto_region 8 with ((with_reducible refine at_slot 32 ?_); refine wpList_app rfl (.tmp 24) (.tmp 31) rfl X.heap.size ho3 hl rfl rfl (by simp; omega) (by simp; omega) ?_; intro v4 w4 ho4 hb4 hg4; clear hg4)
          obtain ⟨A4, c4, e4, _, _⟩ := ho4.rd.form
          subst e4
          have hB4 := (hB2.trans (hBA.mono zc)).trans hb4
          have hg4 := hgX.mono hB4
          have hs4 := hs.mono hB4
          clear c8 ho2 hl ho3 hb4 hBA hs2 hg2
          obtain ⟨b4, hb4⟩ : ∃ b4, b4 = b2 ++ [5, by8 (2 + 8 * E.length)] := ⟨_, rfl⟩
          have hlb4 : b4.length ≤ 8 := by rw [hb4]; simp; omega
          rw [← hb4] at ho4 ⊢
          have HB4 := Lib.hid hb4
          clear hb4
          have c8 := hs4.sg.2.2.2.2.2.2.2.2.1
          rw [HG.out] at c8
          go_wp2
          go_loopw [3, 36] (fun b i wx => ∃ k : Nat, i = .int .i64 k ∧ k ≤ E.length ∧ Ow wx X.heap.size b (b4 ++ spanL (E.take k)) ∧ Below X.heap.size X wx) (fun _ i _ => E.length - (intOf i).toNat)
          case atStart => exact ⟨0, rfl, Nat.zero_le _, by simpa [spanL] using ho4, hB4⟩
          case round =>
            obtain ⟨k, rfl, hk, ho5, hB5⟩ := hrel
            clear ho4 hB4 hg4 hs4 c8 hB2 zc
            by_cases hlt : k < E.length
            · obtain ⟨bb, oo, rfl, hbl, d0, d1⟩ := (hgX.mono hB5).at_ k hlt
              have htk : E.take (k + 1) = E.take k ++ [E[k]] := List.take_succ_eq_append_getElem hlt
              obtain ⟨⟨hy0, hy1⟩, ⟨hz0, hz1⟩⟩ := hU E[k] (List.getElem_mem hlt)
              obtain ⟨⟨y, z⟩, hyz⟩ : ∃ x, x = E[k] := ⟨_, rfl⟩
              rw [← hyz] at d0 d1 htk hy0 hy1 hz0 hz1
              dsimp only at d0 d1 hy0 hy1 hz0 hz1
              have HTK := Lib.hid htk
              obtain ⟨A5, c5, e5, _, _⟩ := ho5.rd.form
              subst e5
              obtain ⟨l5, hl5⟩ : ∃ l5, l5 = b4 ++ spanL (E.take k) := ⟨_, rfl⟩
              have hl5n : l5.length ≤ 32 := by rw [hl5]; simp [spanL_len]; omega
              rw [← hl5] at ho5 ⊢
              obtain ⟨n5, hn5⟩ : ∃ n5, n5 = l5.length := ⟨_, rfl⟩
              rw [← hn5] at ho5 ⊢
              have HL5 := Lib.hid (And.intro hl5 hn5)
              clear htk hyz hl5 hn5
              have z5 := hB5.size
              have hBx := below_alloc wr (.cells #[.int .u32 y, .int .u32 z] 117)
              have hbx : Blk (wr.alloc (.cells #[.int .u32 y, .int .u32 z] 117)).drew wr.heap.size 117 #[.int .u32 y, .int .u32 z] := Blk.new _ _ _ _ rfl
              have hoX : Ow (wr.alloc (.cells #[.int .u32 y, .int .u32 z] 117)).drew X.heap.size (.slice A5 n5 c5) l5 := (ho5.mono hBx).drew
              have hS0 : (fun w' => w'.cell? ⟨wr.heap.size, 0, none⟩ = some (.int .u32 y) ∧ w'.cell? ⟨wr.heap.size, 1, none⟩ = some (.int .u32 z)) (wr.alloc (.cells #[.int .u32 y, .int .u32 z] 117)).drew := ⟨hbx.cell 0, hbx.cell 1⟩
              go_upto_region 11 with (fail)
              rename_i K11 hK11
              refine wp_region_any (by kernel_rfl) (wpAny_of_G (n := 7) (S := fun w' => w'.cell? ⟨wr.heap.size, 0, none⟩ = some (.int .u32 y) ∧ w'.cell? ⟨wr.heap.size, 1, none⟩ = some (.int .u32 z)) _ _ _ _ ?_)
              refine G.pure' (i := 0) (v := .slice A5 n5 c5) rfl (by kernel_rfl) (fun _ _ _ h => h) (.inl ⟨rfl, fun w' _ => ?_⟩) (fun _ => hS0) ?_
              · simp [execOp, Act.eval, go_sem]
              simp only [Act.put, List.getElem_toArray, List.getElem_cons_zero, List.setIfInBounds_toArray, List.set_cons_zero, List.set_cons_succ]
              refine G.pure' (i := 1) (v := .pointer (some ⟨wr.heap.size, 0, none⟩)) rfl (by kernel_rfl) (fun _ _ _ h => h) (.inl ⟨rfl, fun w' _ => ?_⟩) (fun _ => hS0) ?_
              · simp [execOp, Act.eval, go_sem]
              simp only [Act.put, List.getElem_toArray, List.getElem_cons_zero, List.getElem_cons_succ, List.setIfInBounds_toArray, List.set_cons_zero, List.set_cons_succ]
              refine G.load (i := 2) (v := .int .u32 y) rfl (by kernel_rfl) (fun _ _ _ h => h) (.inl ⟨rfl, fun w' hS => ?_⟩) (hS0) ?_
              · simp [execOp, Act.eval, hS, go_sem]
              simp only [Act.put, List.getElem_toArray, List.getElem_cons_zero, List.getElem_cons_succ, List.setIfInBounds_toArray, List.set_cons_zero, List.set_cons_succ]
              refine G.pure' (i := 4) (v := .pointer (some ⟨wr.heap.size, 1, none⟩)) rfl (by kernel_rfl) (fun _ _ _ h => h) (.inl ⟨rfl, fun w' _ => ?_⟩) (fun _ => hS0) ?_
              · simp [execOp, Act.eval, go_sem]
              simp only [Act.put, List.getElem_toArray, List.getElem_cons_zero, List.getElem_cons_succ, List.setIfInBounds_toArray, List.set_cons_zero, List.set_cons_succ]
              refine G.load (i := 5) (v := .int .u32 z) rfl (by kernel_rfl) (fun _ _ _ h => h) (.inl ⟨rfl, fun w' hS => ?_⟩) (hS0) ?_
              · simp [execOp, Act.eval, hS, go_sem]
              simp only [Act.put, List.getElem_toArray, List.getElem_cons_zero, List.getElem_cons_succ, List.setIfInBounds_toArray, List.set_cons_zero, List.set_cons_succ]
              refine G.only' (i := 3) ?r3 rfl ?o3
              case r3 => kernel_rfl
              intro K hK
              refine step_call rfl rfl (enters_of Try.func65 (by kernel_rfl) rfl) (put32 _ _ y _ hoX.rd (by omega) hy0 (by omega)) rfl ?_
              rintro e w6 ⟨v6, rfl, ho6, hb6⟩
              have hS6 : (fun w' => w'.cell? ⟨wr.heap.size, 0, none⟩ = some (.int .u32 y) ∧ w'.cell? ⟨wr.heap.size, 1, none⟩ = some (.int .u32 z)) w6 := ⟨(hbx.mono hb6).cell 0, (hbx.mono hb6).cell 1⟩
              have hl6 : (l5 ++ p32 y).length = l5.length + 4 := by simp [p32_len]
              refine ⟨_, rfl, hK _ _ (fun _ => hS6) ?_⟩
              clear hK K
              simp only [Act.put, List.getElem_toArray, List.getElem_cons_zero, List.getElem_cons_succ, List.setIfInBounds_toArray, List.set_cons_zero, List.set_cons_succ]
              refine G.only' (i := 6) ?r6 rfl ?o6
              case r6 => kernel_rfl
              intro K hK
              refine step_call rfl rfl (enters_of Try.func65 (by kernel_rfl) rfl) (put32 _ _ z _ ho6.rd (by omega) hz0 (by omega)) rfl ?_
              rintro e w7 ⟨v7, rfl, ho7, hb7⟩
              have hS7 : (fun w' => w'.cell? ⟨wr.heap.size, 0, none⟩ = some (.int .u32 y) ∧ w'.cell? ⟨wr.heap.size, 1, none⟩ = some (.int .u32 z)) w7 := ⟨((hbx.mono hb6).mono hb7).cell 0, ((hbx.mono hb6).mono hb7).cell 1⟩
              refine ⟨_, rfl, hK _ _ (fun _ => hS7) ?_⟩
              clear hK K
              simp only [Act.put, List.getElem_toArray, List.getElem_cons_zero, List.getElem_cons_succ, List.setIfInBounds_toArray, List.set_cons_zero, List.set_cons_succ]
              refine G.lastPure (i := 7) (v := v7) (by kernel_rfl) (by kernel_rfl) rfl (.inl ⟨rfl, fun w' _ => ?_⟩) (fun e => Bool.noConfusion (show true = false from e)) ?_
              · simp [execOp, Act.eval, go_sem]
              simp only [Act.put, List.getElem_toArray, List.getElem_cons_zero, List.getElem_cons_succ, List.setIfInBounds_toArray, List.set_cons_zero, List.set_cons_succ]
              simp only [Exit.inBlock, Exit.then]
              refine hK11 _ _ ?_
              clear hK11 K11
              have hB7 := ((hB5.trans ((hBx.drew).mono z5)).trans (hb6.mono (by simp; omega))).trans (hb7.mono (by have := hb6.size; simp at this; omega))
              have hall := And.intro (ho7.less (show X.heap.size ≤ w6.heap.size by have := hb6.size; simp at this; omega)) hB7
              have HALL := Lib.hid hall
              clear hall ho7 hb7 ho6 hb6 hS6 hS7 hS0 hoX hbx hBx
              go_wp2
              go_roundw
              case rel => exact ⟨k + 1, by go_num, by omega, by rw [HTK.out, spanL_snoc]; have h := HALL.out.1; rw [HL5.out.1] at h; simpa [List.append_assoc] using h, HALL.out.2⟩
              case measure => simp [intOf]; omega
            · obtain rfl : k = E.length := by omega
              rw [List.take_length] at ho5
              go_wp2_with fail
              go_meet
              exact ⟨by rw [oG, if_neg HE.out, ← List.append_assoc, ← HB4.out]; exact ho5, hB5⟩
      case rest =>
        obtain ⟨ho6, hB6⟩ := hcut
        clear c8 ho2 hB2 hs2 hg2
        have hl6 := oG_len E
        obtain ⟨b6, hb6⟩ : ∃ b6, b6 = b2 ++ oG E := ⟨_, rfl⟩
        have hlb6 : b6.length ≤ 32 := by rw [hb6]; simp; omega
        rw [← hb6] at ho6
        have HB6 := Lib.hid hb6
        clear hb6 hl6
        obtain ⟨pd, hpd⟩ : ∃ pd, pd = (4 - b6.length % 4) % 4 := ⟨_, rfl⟩
        go_wp2
        go_loopw [3] (fun b wx => ∃ k : Nat, k ≤ pd ∧ (∃ A c, b = .slice A (b6.length + k) c) ∧ Ow wx X.heap.size b (b6 ++ List.replicate k 1) ∧ Below X.heap.size X wx) (fun b _ => b6.length + pd - lenV b)
        case atStart =>
          obtain ⟨A6, c6, e6, _, _⟩ := ho6.rd.form
          exact ⟨0, Nat.zero_le _, ⟨A6, c6, e6⟩, by simpa using ho6, hB6⟩
        case round =>
          obtain ⟨k, hk, ⟨A7, c7, rfl⟩, ho7, hB7⟩ := hrel
          clear ho6 hB6
          have hlr : (b6 ++ List.replicate k (1 : UInt8)).length = b6.length + k := by simp
          obtain ⟨m, hm⟩ : ∃ m, m = b6.length + k := ⟨_, rfl⟩
          rw [← hm] at ho7 ⊢
          have HM := Lib.hid hm
          have z7 := hB7.size
          by_cases hlt : k < pd
          · have g : ((m : Int) % 4 != 0) = true := by simp; omega
            have hm32 : m ≤ 40 := by omega
            have hBA := below_alloc wr (.cells #[.int .u8 1] 5)
            have hl : Rd (wr.alloc (.cells #[.int .u8 1] 5)) (.slice (some ⟨wr.heap.size, 0, none⟩) 1 1) [1] := rd_at wr _ [1] 1 _ rfl rfl (by omega) rfl
            have ho8 := ho7.mono hBA
            clear hm
            go_wp2_with ((with_reducible refine at_slot 54 ?_); refine wpList_app rfl (.tmp 52) (.tmp 53) rfl X.heap.size ho8 hl rfl rfl (by rw [hlr]; simp; omega) (by simp; omega) ?_; intro v9 w9 ho9 hb9 hg9; clear hg9)
            obtain ⟨A9, c9, e9, _, _⟩ := ho9.rd.form
            subst e9
            have hB9 := (hB7.trans (hBA.mono z7)).trans hb9
            have hrep : b6 ++ List.replicate k (1 : UInt8) ++ [1] = b6 ++ List.replicate (k + 1) 1 := by rw [List.append_assoc, ← List.replicate_succ']
            rw [hrep] at ho9 ⊢
            go_roundw
            case rel => exact ⟨k + 1, by omega, ⟨A9, c9, by simp⟩, ho9, hB9⟩
            case measure => have := HM.out; simp [lenV]; omega
          · have g : ((m : Int) % 4 != 0) = false := by simp; omega
            have hkp : k = pd := by omega
            clear hm
            go_wp2
            go_ret
            refine ⟨_, rfl, ?_, below_step hB hB.size hB7⟩
            have h := ho7.less hB.size
            rw [hkp, hpd] at h
            rw [optB, padL, ← HB1.out, ← HB2.out, ← HB6.out]
            exact h
end Go.Proofs.Ytbhdojpgjmbogaa
