/- TcpUnknown: the walk over the law: it answers true. -/
import Derived.Test.YtbhdojpgjmbogaaTAwake
import Derived.Test.YtbhdojpgjmbogaaUnkLaw
import Derived.Test.YtbhdojpgjmbogaaTDec
import Derived.Test.YtbhdojpgjmbogaaTcp7
import Derived.Test.YtbhdojpgjmbogaaREnc
import Derived.Test.YtbhdojpgjmbogaaRSame
import Derived.Test.YtbhdojpgjmbogaaLForms
namespace Go.Proofs.Ytbhdojpgjmbogaa
open Go.RowKit Go.Shelf
/-- Encode, in any case. -/
theorem tenc_one (s d : IP) (g : SG) (E : List (Int × Int)) (b : List UInt8) (w0 : World) (hq : U32 g.sq) (ha : U32 g.ak) (hgt : RdS w0 g.gt E) (hU : SpansU E) (hda : Rd w0 g.da b) :
    (∃ n : Int, (n != 0) = true ∧ ∀ W, Below w0.heap.size w0 W → Calls Try.prog 42 #[s.v, d.v, g.v] W (CEnd W [] n)) ∨
    (g.Ok ∧ E.length ≤ 3 ∧ b.length ≤ 1024 ∧ ∀ W, Below w0.heap.size w0 W → Calls Try.prog 42 #[s.v, d.v, g.v] W (CEnd W (segL g (optB g.ms g.sk E) b (encS6 s d g (optB g.ms g.sk E) b)) 0)) := by
  obtain ⟨A, c, eg, hc1, hc2⟩ := hgt.form
  by_cases hl : 1024 < b.length
  · exact .inl ⟨2, by decide, fun W hW => tenc_long s d g b W (hda.mono hW) hl⟩
  · by_cases hk : (1 ≤ g.fr ∧ g.fr ≤ 65535) ∧ (1 ≤ g.too ∧ g.too ≤ 65535) ∧ (0 ≤ g.fl ∧ g.fl ≤ 31) ∧ (0 ≤ g.wn ∧ g.wn ≤ 65535) ∧ (0 ≤ g.ms ∧ g.ms ≤ 65535) ∧ E.length ≤ 3
    · obtain ⟨k1, k2, k3, k4, k5, k6⟩ := hk
      refine .inr ⟨⟨decide_eq_true k1, decide_eq_true k2, decide_eq_true k3, decide_eq_true k4, decide_eq_true k5, hq, ha⟩, k6, by omega, fun W hW => ?_⟩
      exact tenc s d g (optB g.ms g.sk E) b W ⟨decide_eq_true k1, decide_eq_true k2, decide_eq_true k3, decide_eq_true k4, decide_eq_true k5, hq, ha⟩ A E.length c eg k6 (hda.mono hW) (by omega) ((optB_len g.ms g.sk E k6).1)
        fun W' hW' => topts_all g E W' (hgt.mono (below_step hW hW.size hW')) k6 hU
    · exact .inl ⟨1, by decide, fun W hW => tenc_arg s d g b W A E.length c eg (by omega) (hda.mono hW) (by omega) hk⟩
/-- A segment that was laid with any options that are right is read. -/
theorem tdec_opt (s d : IP) (g : SG) (o b : List UInt8) (hok : g.Ok) (o1 : o.length ≤ 40) (o2 : o.length % 4 = 0) (hb : b.length ≤ 1024) (syn : Bool) (hsyn : g.fl / 2 % 2 = if syn then 1 else 0) (st : OSt) (hor : rdAll syn ⟨0, false, []⟩ (optsOf o) = (true, st))
    (L : List UInt8) (hL : L = segL g o b (encS6 s d g o b)) (v : Value) (w : World) (hr : Rd w v L) :
    Calls Try.prog 44 #[s.v, d.v, v] w fun e w' => ∃ g' v', e = .returned (.tuple #[SG.v ⟨g.fr, g.too, g.sq, g.ak, g.fl, g.wn, st.ms, st.sk, g', v'⟩, .int .i64 0]) ∧ Ow w' w.heap.size v' b ∧ OwS w' w.heap.size g' st.got ∧ Below w.heap.size w w' := by
  obtain ⟨a0, a1, a2, a3, a4, a5, a6, a7, a8⟩ := seg_heads g hok o b (encS6 s d g o b) o1 o2
  have hl := segL_len' g o b (encS6 s d g o b)
  have hz := seg_sum s d g o b
  have hfl := hok.fl
  have hfr := hok.fr
  have htoo := hok.too
  simp only [decide_eq_true_eq] at hfl hfr htoo
  rw [← hL] at a0 a1 a2 a3 a4 a5 a6 a7 a8 hl hz
  have h12 : 12 < L.length := by omega
  have e12 : L.getD 12 0 = L[12] := by rw [List.getD_eq_getElem?_getD, List.getElem?_eq_getElem h12]; rfl
  refine (tdec s d L v w hr (by omega) (by omega) (20 + o.length) L[12] rfl (by rw [← e12]; exact a6.symm) (by omega) (by omega) hz (by omega) (by rw [a0]; omega) (by rw [a1]; omega) syn ?_ _ (by rw [a7]; exact hor)).mono ?_
  · rw [a5, show g.fl % 32 = g.fl by omega]
    exact hsyn
  · rintro e w' ⟨g', v', rfl, h1, h2, h3⟩
    refine ⟨g', v', ?_, by rw [a8] at h1; exact h1, h2, h3⟩
    unfold decSG
    rw [a0, a1, a2, a3, a4, a5, show g.fl % 32 = g.fl by omega]
theorem ow_some {w : World} {base g n cap : Nat} {l : List UInt8} (h : Ow w base (.slice (some ⟨g, 0, none⟩) n cap) l) (k : Nat) (hk : k < l.length) : ∃ u, w.cell? ⟨g, k, none⟩ = some u ∧ w.frozen? ⟨g, k, none⟩ = false :=
  ⟨_, ow_cells h k hk⟩
theorem made_zeros (n : Nat) : (madeCells (Value.int .u8 0).cells (n * 1)).toList = (List.replicate n (0 : UInt8)).map bv := by
  apply List.ext_getElem
  · simp [madeCells, Value.cells]
  · intro i h1 h2
    simp [madeCells, Value.cells, bv, Nat.mod_one]
theorem unkB_set (kind : UInt8) (n : Nat) (h : 2 ≤ n) : ((List.replicate n (0 : UInt8)).set 0 kind).set 1 (by8 n) = unkB kind n := by
  obtain ⟨m, rfl⟩ : ∃ m, n = m + 2 := ⟨n - 2, by omega⟩
  rfl
set_option maxRecDepth 100000 in
set_option maxHeartbeats 40000000 in
theorem law_unk (s d : IP) (g : SG) (E : List (Int × Int)) (b : List UInt8) (kind : UInt8) (size : Int) (w : World) (hq : U32 g.sq) (ha : U32 g.ak) (hgt : RdS w g.gt E) (hU : SpansU E) (hda : Rd w g.da b) :
    Calls Try.prog 15 #[s.v, d.v, g.v, .int .u8 (kind.toNat : Int), .int .i64 size] w fun e w' => e = .returned (.bool true) ∧ Below w.heap.size w w' := by
  have HE := Lib.hid (tenc_one s d g E b w hq ha hgt hU hda)
  obtain ⟨ib, hib, hiz, hi1, hi2⟩ := info_parts byte_info
  have HIB := Lib.hid (And.intro hib (And.intro hiz (And.intro hi1 hi2)))
  clear hib hiz hi1 hi2
  go_enter Try.func15, Try.ntmps15
  go_upto_region 1 with (fail)
  refine box5 (s := s) (d := d) (g := g) (motive := fun X => Code.wp Try.prog _ _ _ X) ?_
  intro X hBX _ hbs hbd hbg
  go_wp2_with fail
  refine (tawake _).mono ?_
  rintro e w1 ⟨rfl, hb1⟩
  have hbs1 := hbs.mono hb1
  have hbd1 := hbd.mono hb1
  have hbg1 := hbg.mono hb1
  have hB1 := below_step hBX hBX.size hb1
  clear hbs hbd hbg hb1
  go_wp2_with (first | ((with_reducible refine at_slot 25 ?_); refine wpList_loadB rfl 23 (.tmp 5) rfl hbs1 rfl Try.underlying23 rfl IP.info ?_) | ((with_reducible refine at_slot 26 ?_); refine wpList_loadB rfl 23 (.tmp 6) rfl hbd1 rfl Try.underlying23 rfl IP.info ?_) | ((with_reducible refine at_slot 27 ?_); refine wpList_loadB rfl 67 (.tmp 7) rfl hbg1 rfl Try.underlying67 rfl SG.info ?_))
  rcases HE.out with ⟨n, hn, hE⟩ | ⟨hok, h3, hbl, hE⟩
  · refine (hE _ hB1).mono ?_
    rintro e w2 ⟨v2, rfl, ho2, hb2⟩
    obtain ⟨A2, c2, rfl, _, _⟩ := ho2.rd.form
    have hB2 := below_step hB1 hB1.size hb2
    clear hE hbs1 hbd1 hbg1 ho2 hb2
    go_wp2
    go_ret
    exact ⟨rfl, hB2⟩
  · refine (hE _ hB1).mono ?_
    rintro e w2 ⟨v2, rfl, ho2, hb2⟩
    have hbs2 := hbs1.mono hb2
    have hbd2 := hbd1.mono hb2
    have hB2 := below_step hB1 hB1.size hb2
    have z12 := hb2.size
    clear hbs1 hbd1 hbg1 hb2 HE hE
    obtain ⟨A2, c2, rfl, hA2, hc2⟩ := ho2.rd.form
    by_cases hkd : kind.toNat < 9
    · have q1 : decide ((kind.toNat : Int) < 9) = true := by simp; omega
      go_wp2
      go_ret
      exact ⟨rfl, hB2⟩
    have q1 : decide ((kind.toNat : Int) < 9) = false := by simp; omega
    by_cases hs2 : size < 2
    · have q2 : decide (size < 2) = true := by simpa using hs2
      go_wp2
      go_ret
      exact ⟨rfl, hB2⟩
    have q2 : decide (size < 2) = false := by simpa using hs2
    by_cases hs9 : 9 < size
    · have q3 : decide (9 < size) = true := by simpa using hs9
      go_wp2
      go_ret
      exact ⟨rfl, hB2⟩
    have q3 : decide (9 < size) = false := by simpa using hs9
    obtain ⟨n, rfl⟩ := Int.eq_ofNat_of_zero_le (show 0 ≤ size by omega)
    have n2 : 2 ≤ n := by omega
    have n9 : n ≤ 9 := by omega
    clear hs2 hs9
    go_upto_region 6 with ((with_reducible refine at_slot 51 ?_); refine wpList_make_full _ rfl (.tmp 50) (.tmp 50) 24 rfl w2.heap.size 5 ib _ 1 und_bytes HIB.out.1 HIB.out.2.1 HIB.out.2.2.1 .i64 .i64 _ _ n rfl rfl rfl rfl (by rw [HIB.out.2.2.2]; omega) (by unfold maxLen; omega) (Nat.le_refl _) ?_; intro w3 ho3 hg3)
    have hB23 : Below w2.heap.size w2 w3 := (Below.refl _ _).grown hg3 (Nat.le_refl _) (fun k hk => by cases hk)
    have ho3' : Ow w3 w2.heap.size (.slice (some ⟨w2.heap.size, 0, none⟩) n n) (List.replicate n 0) := by
      unfold Ow
      rw [List.length_replicate]
      rw [made_zeros] at ho3
      exact ho3
    clear ho3 hg3
    obtain ⟨x, hx⟩ : ∃ x, x = segL g (optB g.ms g.sk E) b (encS6 s d g (optB g.ms g.sk E) b) := ⟨_, rfl⟩
    rw [← hx] at ho2 hA2 ⊢
    obtain ⟨N, hN⟩ : ∃ N, N = x.length := ⟨_, rfl⟩
    rw [← hN] at ho2 hA2 ⊢
    have HX := Lib.hid hx
    have HN := Lib.hid hN
    clear hx hN
    have hO2 := Lib.hid (show Ow w2 w1.heap.size (.slice A2 N c2) x from ho2)
    have HBS := Lib.hid (And.intro hbs2 hbd2)
    have hB3 := below_step hB2 hB2.size hB23
    have z3 := hB23.size
    obtain ⟨G, hG⟩ : ∃ G, G = w2.heap.size := ⟨_, rfl⟩
    rw [← hG] at ho3' hB23 z3 ⊢
    have HG := Lib.hid hG
    clear hG hbs2 hbd2 ho2
    obtain ⟨x0, x1⟩ := ow_cells ho3' 0 (by simp; omega)
    have p0 : 0 < n := by omega
    have p1 : 1 < n := by omega
    go_upto_region 7 with (fail)
    have ho4 := ow_set (k := 0) ho3' kind
    have hB34 : Below G w3 (w3.setCell ⟨G, 0, none⟩ (.int .u8 kind.toNat)) := (Below.refl _ _).setCell (p := ⟨G, 0, none⟩) (Nat.le_refl _) _
    clear x0 x1 ho3'
    obtain ⟨w4, hw4⟩ : ∃ w4, w4 = w3.setCell ⟨G, 0, none⟩ (.int .u8 kind.toNat) := ⟨_, rfl⟩
    rw [← hw4] at ho4 hB34 ⊢
    clear hw4
    obtain ⟨x0, x1⟩ := ow_cells ho4 1 (by simp; omega)
    go_upto_region 8 with (fail)
    have e5 : ((by8 (n : Int)).toNat : Int) = n := by rw [by8_toNat]; omega
    have ho5 := ow_set (k := 1) ho4 (by8 n)
    have hB35 : Below G w3 (w4.setCell ⟨G, 1, none⟩ (.int .u8 (n : Int))) := hB34.setCell (p := ⟨G, 1, none⟩) (Nat.le_refl _) _
    rw [e5, unkB_set kind n n2] at ho5
    clear x0 x1 ho4 e5 hB34
    obtain ⟨w5, hw5⟩ : ∃ w5, w5 = w4.setCell ⟨G, 1, none⟩ (.int .u8 (n : Int)) := ⟨_, rfl⟩
    rw [← hw5] at ho5 hB35 ⊢
    clear hw5
    have hB25 := hB23.trans hB35
    clear hB35 hB23
    obtain ⟨pd, hpd⟩ : ∃ pd, pd = (4 - n % 4) % 4 := ⟨_, rfl⟩
    obtain ⟨O, hO⟩ : ∃ O, O = unkB kind n := ⟨_, rfl⟩
    have hOl : O.length = n := by rw [hO]; exact unkB_len kind n n2
    rw [← hO] at ho5
    have HO := Lib.hid (And.intro hO hOl)
    clear hO hOl
    go_wp2
    go_loopw [14] (fun v wx => ∃ k : Nat, k ≤ pd ∧ (∃ A c, v = .slice A (n + k) c) ∧ Ow wx G v (O ++ List.replicate k 1) ∧ Below G w2 wx) (fun v _ => n + pd - lenV v)
    case atStart => exact ⟨0, Nat.zero_le _, ⟨_, _, rfl⟩, by simpa using ho5, hB25⟩
    case round =>
      obtain ⟨k, hk, ⟨A7, c7, rfl⟩, ho7, hB7⟩ := hrel
      clear ho5 hB25
      have hlr : (O ++ List.replicate k (1 : UInt8)).length = n + k := by rw [List.length_append, HO.out.2, List.length_replicate]
      obtain ⟨m, hm⟩ : ∃ m, m = n + k := ⟨_, rfl⟩
      rw [← hm] at ho7 hlr ⊢
      have HM := Lib.hid hm
      have z7 := hB7.size
      rw [← HG.out] at z7
      by_cases hlt : k < pd
      · have gg : ((m : Int) % 4 != 0) = true := by simp; omega
        have hm32 : m ≤ 40 := by omega
        have hBA := below_alloc wr (.cells #[.int .u8 1] 5)
        have hl : Rd (wr.alloc (.cells #[.int .u8 1] 5)) (.slice (some ⟨wr.heap.size, 0, none⟩) 1 1) [1] := rd_at wr _ [1] 1 _ rfl rfl (by omega) rfl
        have ho8 := ho7.mono hBA
        have HLR := Lib.hid hlr
        clear hm hlr
        go_wp2_with ((with_reducible refine at_slot 65 ?_); refine wpList_app rfl (.tmp 63) (.tmp 64) rfl G ho8 hl rfl rfl (by rw [HLR.out]; simp; omega) (by simp; omega) ?_; intro v9 w9 ho9 hb9 hg9; clear hg9)
        obtain ⟨A9, c9, e9, _, _⟩ := ho9.rd.form
        subst e9
        have hB9 := (hB7.trans (hBA.mono z7)).trans hb9
        have hrep : O ++ List.replicate k (1 : UInt8) ++ [1] = O ++ List.replicate (k + 1) 1 := by rw [List.append_assoc, ← List.replicate_succ']
        rw [hrep] at ho9 ⊢
        go_roundw
        case rel => exact ⟨k + 1, by omega, ⟨A9, c9, by rw [List.length_append, HO.out.2, List.length_replicate]⟩, ho9, hB9⟩
        case measure => have := HM.out; simp only [lenV, List.length_append, HO.out.2, List.length_replicate]; omega
      · have gg : ((m : Int) % 4 != 0) = false := by simp; omega
        have hkp : k = pd := by omega
        have hOP : O ++ List.replicate k 1 = unkL kind n := by rw [hkp, hpd, unkL, padL, HO.out.1, unkB_len kind n n2]
        rw [hOP] at ho7 hlr
        obtain ⟨hP1, hP2, hP3⟩ := unkL_len kind n n2 n9
        rw [hlr] at hP1 hP2 hP3
        obtain ⟨P, hP⟩ : ∃ P, P = unkL kind n := ⟨_, rfl⟩
        rw [← hP] at ho7 hlr
        have HP := Lib.hid (And.intro hP hlr)
        obtain ⟨w6, rfl⟩ : ∃ x, x = wr := ⟨_, rfl⟩
        clear hm hkp hOP hlr hP hpd hk hlt
        have hB26 : Below w2.heap.size w2 w6 := by rw [← HG.out]; exact hB7
        have hx6 := hO2.out.mono hB26
        have hB6 := below_step hB2 hB2.size hB26
        have z26 := hB26.size
        obtain ⟨o1, o2⟩ := optB_len g.ms g.sk E h3
        obtain ⟨o, ho⟩ : ∃ o, o = optB g.ms g.sk E := ⟨_, rfl⟩
        have hxl := segL_len' g o b (encS6 s d g o b)
        obtain ⟨_, _, _, _, _, _, a6, _, _⟩ := seg_heads g hok o b (encS6 s d g o b) (by rw [ho]; exact o1) (by rw [ho]; exact o2)
        have hx' : x = segL g o b (encS6 s d g o b) := by rw [ho]; exact HX.out
        rw [← hx', ← HN.out] at hxl
        rw [← hx'] at a6
        rw [← ho] at o1 o2
        have h12 : 12 < x.length := by rw [← HN.out]; omega
        have e12 : x.getD 12 0 = x[12] := by rw [List.getD_eq_getElem?_getD, List.getElem?_eq_getElem h12]; rfl
        rw [e12] at a6
        obtain ⟨G2, cap2, e, g1, g2, g3, g4⟩ := ow_form hx6 (by omega)
        injection e with e1 e2 e3
        subst e1 e3
        obtain ⟨y0, y1⟩ := ow_cells hx6 12 h12
        obtain ⟨y, hy⟩ : ∃ y, y = x[12] := ⟨_, rfl⟩
        rw [← hy] at y0 a6
        have hy2 := UInt8.toNat_lt y
        obtain ⟨H, hH⟩ : ∃ H, H = 20 + o.length := ⟨_, rfl⟩
        rw [← hH] at a6
        have hN12 : 12 < N := by omega
        have hH0 : 20 ≤ H := by omega
        have hH1 : H ≤ N := by omega
        have hH2 : H ≤ 60 := by omega
        have hN2 : N ≤ 1084 := by omega
        have HH := Lib.hid (And.intro hH (And.intro ho (And.intro o1 (And.intro o2 (And.intro hx' hxl)))))
        have HA := Lib.hid a6
        clear hy e2 e12 a6 o1 o2 hx' hxl ho hH h12
        go_upto_region 11 with (fail)
        rw [show ((y.toNat : Int) / 16 * 4) = (H : Int) by have := HA.out; omega]
        clear y0 y1 HA hy2
        by_cases h60 : 60 < H + m
        · have q4 : decide (60 < (H : Int) + (m : Int)) = true := by simp; omega
          go_wp2
          go_ret
          exact ⟨rfl, hB6⟩
        have q4 : decide (60 < (H : Int) + (m : Int)) = false := by simp; omega
        have hm40 : m ≤ 40 := by omega
        go_upto_region 14 with (first | ((with_reducible refine at_slot 78 ?_); refine wpList_slice rfl (.tmp 77) none (some (.const (.int .i64 20))) rfl _ x rfl hx6.rd 0 20 .no (.yes rfl rfl) (by omega) (by omega) (by rw [← HN.out]; omega) ?_; intro m1 A1 c1 hm1 k1 k2 k3 k4 hr1) | ((with_reducible refine at_slot 79 ?_); refine wpList_app rfl (.const (.slice none 0 0)) (.tmp 78) rfl w6.heap.size (Ow.nil _ _) hr1 rfl rfl (by simp; omega) (Nat.le_refl _) ?_; intro v8 w8 ho8 hb8 hg8; rw [List.nil_append] at ho8; clear hg8 hr1))
        have hP8 := ho7.rd.mono hb8
        obtain ⟨A8, c8, rfl, _, _⟩ := ho8.rd.form
        have k5 : m1.length = 20 := by omega
        clear k1 k2
        have hPl := HP.out.2
        go_upto_region 15 with ((with_reducible refine at_slot 82 ?_); refine wpList_app rfl (.tmp 80) (.tmp 81) rfl w6.heap.size ho8 hP8 rfl rfl (by omega) hb8.size ?_; intro v9 w9 ho9 hb9 hg9; clear hg9)
        have hB69 := hb8.trans hb9
        have hx9 := hx6.mono hB69
        have hl9 : (m1 ++ P).length = 20 + m := by rw [List.length_append]; omega
        clear hP8 ho8 hb8 hb9
        go_upto_region 16 with (first | ((with_reducible refine at_slot 85 ?_); refine wpList_slice rfl (.tmp 84) (some (.const (.int .i64 20))) none rfl _ x rfl hx9.rd 20 (x.length : Int) (.yes rfl rfl) .no (by omega) (by rw [← HN.out]; omega) (Int.le_refl _) ?_; intro m2 A10 c10 hm2 k1 k2 k6 k7 hr2) | ((with_reducible refine at_slot 86 ?_); refine wpList_app rfl (.tmp 83) (.tmp 85) rfl w6.heap.size ho9 hr2 rfl rfl (by rw [← HN.out] at k2; omega) hB69.size ?_; intro v10 w10 ho10 hb10 hg10; clear hg10 hr2))
        have hB610 := hB69.trans hb10
        have hl10 : (m1 ++ P ++ m2).length = N + m := by rw [List.length_append, hl9]; rw [← HN.out] at k1 k2; omega
        have hY : m1 ++ P ++ m2 = (segL g o b (encS6 s d g o b)).take 20 ++ P ++ (segL g o b (encS6 s d g o b)).drop 20 := by
          rw [hm1.out, hm2.out, ← HH.out.2.2.2.2.1]
          simp
        rw [hY] at ho10 hl10
        obtain ⟨Y, hYY⟩ : ∃ Y, Y = (segL g o b (encS6 s d g o b)).take 20 ++ P ++ (segL g o b (encS6 s d g o b)).drop 20 := ⟨_, rfl⟩
        rw [← hYY] at ho10 hl10
        obtain ⟨q, hq0⟩ : ∃ q, q = N + m := ⟨_, rfl⟩
        rw [← hq0] at hl10
        obtain ⟨GY, cY, rfl, j1, j2, j3, j4⟩ := ow_form ho10 (by omega)
        rw [hl10] at ho10 ⊢
        have HYY := Lib.hid (And.intro hYY (And.intro hl10 hq0))
        have q12 : 12 < q := by omega
        have q16 : 16 < q := by omega
        have q17 : 17 < q := by omega
        have qmx : q ≤ 1200 := by omega
        obtain ⟨yv, y0, y1⟩ := ow_some ho10 12 (by omega)
        clear hY hYY hl10 hq0 hm1 hm2 k1 k2 k3 k4 k5 k6 k7 hPl hl9 ho9 hb10 hB69 hx9 j3 j4
        go_upto_region 17 with (fail)
        have e12 : ((by8 (((H : Int) + (m : Int)) / 4 * 16)).toNat : Int) = ((H : Int) + (m : Int)) / 4 * 16 := by rw [by8_toNat]; omega
        have ho11 := ow_set (k := 12) ho10 (by8 (((H : Int) + (m : Int)) / 4 * 16))
        rw [e12] at ho11
        have hB11 := hB610.setCell (p := ⟨GY, 12, none⟩) j1 (.int .u8 (((H : Int) + (m : Int)) / 4 * 16))
        clear e12 y0 y1 ho10 hB610
        obtain ⟨w11, hw11⟩ : ∃ w11, w11 = w10.setCell ⟨GY, 12, none⟩ (.int .u8 (((H : Int) + (m : Int)) / 4 * 16)) := ⟨_, rfl⟩
        rw [← hw11] at ho11 hB11 ⊢
        clear hw11
        obtain ⟨yv, y0, y1⟩ := ow_some ho11 16 (by rw [List.length_set, HYY.out.2.1]; omega)
        go_upto_region 18 with (fail)
        have ho12 : Ow (w11.setCell ⟨GY, 16, none⟩ (.int .u8 0)) _ _ _ := ow_set (k := 16) ho11 0
        have hB12 := hB11.setCell (p := ⟨GY, 16, none⟩) j1 (.int .u8 0)
        clear y0 y1 ho11 hB11
        obtain ⟨w12, hw12⟩ : ∃ w12, w12 = w11.setCell ⟨GY, 16, none⟩ (.int .u8 0) := ⟨_, rfl⟩
        rw [← hw12] at ho12 hB12 ⊢
        clear hw12
        obtain ⟨yv, y0, y1⟩ := ow_some ho12 17 (by rw [List.length_set, List.length_set, HYY.out.2.1]; omega)
        go_upto_region 19 with (fail)
        have ho13 : Ow (w12.setCell ⟨GY, 17, none⟩ (.int .u8 0)) _ _ _ := ow_set (k := 17) ho12 0
        have hB13 := hB12.setCell (p := ⟨GY, 17, none⟩) j1 (.int .u8 0)
        clear y0 y1 ho12 hB12
        obtain ⟨w13, hw13⟩ : ∃ w13, w13 = w12.setCell ⟨GY, 17, none⟩ (.int .u8 0) := ⟨_, rfl⟩
        rw [← hw13] at ho13 hB13 ⊢
        clear hw13
        have hlaid : ((Y.set 12 (by8 (((H : Int) + (m : Int)) / 4 * 16))).set 16 0).set 17 0 = segL g (P ++ o) b 0 := by
          have := unk_laid g P o b (encS6 s d g o b) H HH.out.1
          rw [HP.out.2] at this
          rw [HYY.out.1]
          exact this
        rw [hlaid] at ho13
        have hS2 : csum 6 s d (segL g (P ++ o) b 0) = encS6 s d g (P ++ o) b := rfl
        obtain ⟨hSa, hSb⟩ := csum_bd 6 s d (segL g (P ++ o) b 0)
        rw [hS2] at hSa hSb
        obtain ⟨S2, hS⟩ : ∃ S2, S2 = encS6 s d g (P ++ o) b := ⟨_, rfl⟩
        rw [← hS] at hSa hSb hS2
        have HS := Lib.hid (And.intro hS hS2)
        have hlz := segL_len' g (P ++ o) b 0
        have HLZ := Lib.hid hlz
        have hoP : (P ++ o).length = m + o.length := by rw [List.length_append, HP.out.2]
        have hlq : (segL g (P ++ o) b 0).length = q := by
          rw [hlz, hoP, HYY.out.2.2, HH.out.2.2.2.2.2]; omega
        have HLQ := Lib.hid hlq
        clear hS hS2 hlaid hlz hoP hlq
        have hBw13 := below_step hB6 hB6.size hB13
        have hB213 := below_step hB26 hB26.size hB13
        have hbs13 := HBS.out.1.mono hB213
        have hbd13 := HBS.out.2.mono hB213
        have hx13 := hO2.out.mono hB213
        have HX13 := Lib.hid (And.intro hBw13 (And.intro hB213 hx13))
        have HB13 := Lib.hid hB13
        have HJ1 := Lib.hid j1
        have HB7 := Lib.hid hB7
        have HB2 := Lib.hid hB2
        have H3 := Lib.hid (And.intro h3 hbl)
        clear hx6 hBw13 hB213 hx13 hB13 hB6 hB26 ho7 hB7 z7 z26 z12 hB2 hbl h3 hB1 hBX
        go_wp2_with (first | ((with_reducible refine at_slot 100 ?_); refine wpList_loadB rfl 23 (.tmp 5) rfl hbs13 rfl Try.underlying23 rfl IP.info ?_) | ((with_reducible refine at_slot 101 ?_); refine wpList_loadB rfl 23 (.tmp 6) rfl hbd13 rfl Try.underlying23 rfl IP.info ?_))
        refine (rsum14 s d _ _ w13 ho13.rd (by rw [HLQ.out]; omega)).mono ?_
        rintro e w14 ⟨rfl, hb14⟩
        rw [HS.out.2]
        have hbs14 := hbs13.mono hb14
        have hbd14 := hbd13.mono hb14
        have ho14 := ho13.mono hb14
        have hB14 := HB13.out.trans (hb14.mono HB13.out.size)
        clear hbs13 hbd13 ho13 hb14
        obtain ⟨yv, y0, y1⟩ := ow_some ho14 16 (by rw [HLQ.out]; omega)
        go_upto_region 21 with (fail)
        have e16 : ((by8 (S2 / 256)).toNat : Int) = S2 / 256 := by rw [by8_toNat]; omega
        have ho15 := ow_set (k := 16) ho14 (by8 (S2 / 256))
        rw [e16] at ho15
        have hB15 := hB14.setCell (p := ⟨GY, 16, none⟩) HJ1.out (.int .u8 (S2 / 256))
        have hb1 : Below w6.heap.size w14 (w14.setCell ⟨GY, 16, none⟩ (.int .u8 (S2 / 256))) := (Below.refl _ _).setCell (p := ⟨GY, 16, none⟩) HJ1.out _
        clear e16 y0 y1 ho14
        obtain ⟨w15, hw15⟩ : ∃ w15, w15 = w14.setCell ⟨GY, 16, none⟩ (.int .u8 (S2 / 256)) := ⟨_, rfl⟩
        rw [← hw15] at ho15 hB15 hb1 ⊢
        clear hw15
        obtain ⟨yv, y0, y1⟩ := ow_some ho15 17 (by rw [List.length_set, HLQ.out]; omega)
        go_upto_region 22 with (fail)
        have e17 : ((by8 S2).toNat : Int) = S2 % 256 := by rw [by8_toNat]
        have ho16 := ow_set (k := 17) ho15 (by8 S2)
        rw [e17, unk_sum] at ho16
        have hB16 := hB15.setCell (p := ⟨GY, 17, none⟩) HJ1.out (.int .u8 (S2 % 256))
        clear e17 y0 y1 ho15 hB15 hb1
        obtain ⟨w16, hw16⟩ : ∃ w16, w16 = w15.setCell ⟨GY, 17, none⟩ (.int .u8 (S2 % 256)) := ⟨_, rfl⟩
        rw [← hw16] at ho16 hB16 ⊢
        clear hw16
        have hBw6 : Below w2.heap.size w2 w6 := by rw [← HG.out]; exact HB7.out
        have hB216 := below_step hBw6 hBw6.size hB16
        have hbs16 := HBS.out.1.mono hB216
        have hbd16 := HBS.out.2.mono hB216
        have hx16 := hO2.out.mono hB216
        have hBw16 := below_step HB2.out HB2.out.size hB216
        obtain ⟨syn, hsyn⟩ : ∃ syn : Bool, g.fl / 2 % 2 = if syn then 1 else 0 := by
          by_cases h : g.fl / 2 % 2 = 1
          · exact ⟨true, h⟩
          · exact ⟨false, by show g.fl / 2 % 2 = 0; omega⟩
        have hor := opt_read g.ms (by simpa using hok.ms) g.sk E H3.out.1 hU syn
        rw [← HH.out.2.1] at hor
        have hor2 := (unk_read kind (by omega) n n2 n9 o syn ⟨0, false, []⟩).trans hor
        rw [← HP.out.1] at hor2
        obtain ⟨m', hm'⟩ : ∃ m', m' = if syn then g.ms else 0 := ⟨_, rfl⟩
        obtain ⟨k', hk'⟩ : ∃ k', k' = if syn then g.sk else false := ⟨_, rfl⟩
        rw [← hm', ← hk'] at hor hor2
        have HD := Lib.hid (fun v w h => tdec_opt s d g o b hok HH.out.2.2.1 HH.out.2.2.2.1 H3.out.2 syn hsyn _ hor x HH.out.2.2.2.2.1 v w h)
        have HD2 := Lib.hid (fun v w h => tdec_opt s d g (P ++ o) b hok (by rw [List.length_append, HP.out.2]; have := HH.out.1; omega) (by rw [List.length_append, HP.out.2]; have := HH.out.2.2.2.1; omega) H3.out.2 syn hsyn _ hor2 (segL g (P ++ o) b S2) (by rw [HS.out.1]) v w h)
        clear hsyn hor hor2 hm' hk' hB216 hBw6 hB16 hB14
        go_wp2_with (first | ((with_reducible refine at_slot 114 ?_); refine wpList_loadB rfl 23 (.tmp 5) rfl hbs16 rfl Try.underlying23 rfl IP.info ?_) | ((with_reducible refine at_slot 115 ?_); refine wpList_loadB rfl 23 (.tmp 6) rfl hbd16 rfl Try.underlying23 rfl IP.info ?_))
        refine (HD.out _ w16 hx16.rd).mono ?_
        rintro e w17 ⟨vg, vd, rfl, hod, hog, hb17⟩
        have hbs17 := hbs16.mono hb17
        have hbd17 := hbd16.mono hb17
        have ho17 := ho16.mono hb17
        have hBw17 := below_step hBw16 hBw16.size hb17
        have hrd17 := hod.rd
        have hrg17 := hog.rd
        obtain ⟨Ad, cd, rfl, _, _⟩ := hrd17.form
        obtain ⟨Ag, cg, rfl, _, _⟩ := hrg17.form
        clear hbs16 hbd16 hx16 ho16 hBw16 hb17 hod hog
        go_upto_region 23 with (fail)
        refine box1 (s := ⟨g.fr, g.too, g.sq, g.ak, g.fl, g.wn, m', k', .slice Ag E.length cg, .slice Ad b.length cd⟩) (motive := fun X => Code.wp Try.prog _ _ _ X) ?_
        intro X18 hBX18 hX18 hbt18
        have hbs18 := hbs17.mono hBX18
        have hbd18 := hbd17.mono hBX18
        have ho18 := ho17.mono hBX18
        have hBw18 := below_step hBw17 hBw17.size hBX18
        have hrd18 := hrd17.mono hBX18
        have hrg18 := hrg17.mono hBX18
        clear hbs17 hbd17 ho17 hBw17 hBX18 hrd17 hrg17
        go_wp2_with (first | ((with_reducible refine at_slot 121 ?_); refine wpList_loadB rfl 23 (.tmp 5) rfl hbs18 rfl Try.underlying23 rfl IP.info ?_) | ((with_reducible refine at_slot 122 ?_); refine wpList_loadB rfl 23 (.tmp 6) rfl hbd18 rfl Try.underlying23 rfl IP.info ?_))
        refine (HD2.out _ X18 ho18.rd).mono ?_
        rintro e w19 ⟨vg, vd, rfl, hod, hog, hb19⟩
        have hbt19 := hbt18.mono hb19
        have hBw19 := below_step hBw18 hBw18.size hb19
        have hrd19 := hrd18.mono hb19
        have hrg19 := hrg18.mono hb19
        have hsd19 := hod.rd
        have hsg19 := hog.rd
        obtain ⟨Ad2, cd2, rfl, _, _⟩ := hsd19.form
        obtain ⟨Ag2, cg2, rfl, _, _⟩ := hsg19.form
        clear hbs18 hbd18 ho18 hBw18 hb19 hod hog hrd18 hrg18 hbt18
        go_upto_region 24 with (fail)
        refine box1 (s := ⟨g.fr, g.too, g.sq, g.ak, g.fl, g.wn, m', k', .slice Ag2 E.length cg2, .slice Ad2 b.length cd2⟩) (motive := fun X => Code.wp Try.prog _ _ _ X) ?_
        intro X20 hBX20 hX20 hbu20
        have hbt20 := hbt19.mono hBX20
        have hBw20 := below_step hBw19 hBw19.size hBX20
        have hrd20 := hrd19.mono hBX20
        have hrg20 := hrg19.mono hBX20
        have hsd20 := hsd19.mono hBX20
        have hsg20 := hsg19.mono hBX20
        clear hbt19 hBw19 hBX20 hrd19 hrg19 hsd19 hsg19
        go_wp2_with (first | ((with_reducible refine at_slot 127 ?_); refine wpList_loadB rfl 67 (.tmp 18) rfl hbt20 rfl Try.underlying67 rfl SG.info ?_) | ((with_reducible refine at_slot 128 ?_); refine wpList_loadB rfl 67 (.tmp 20) rfl hbu20 rfl Try.underlying67 rfl SG.info ?_))
        refine (rsameS ⟨g.fr, g.too, g.sq, g.ak, g.fl, g.wn, m', k', .slice Ag E.length cg, .slice Ad b.length cd⟩ ⟨g.fr, g.too, g.sq, g.ak, g.fl, g.wn, m', k', .slice Ag2 E.length cg2, .slice Ad2 b.length cd2⟩ b E _ rfl rfl rfl rfl rfl rfl rfl rfl hrg20 hsg20 hrd20 hsd20).mono ?_
        rintro e w21 ⟨rfl, hb21⟩
        have hBw21 := below_step hBw20 hBw20.size hb21
        clear hbt20 hbu20 hBw20 hb21 hrd20 hrg20 hsd20 hsg20
        go_wp2
        go_ret
        exact ⟨rfl, hBw21⟩
end Go.Proofs.Ytbhdojpgjmbogaa
