/- packhorseref14.Encode and what it calls. -/
import Derived.Test.YtbhdojpgjmbogaaROpt
import Derived.Test.YtbhdojpgjmbogaaTcp6
import Derived.BigQuiet
import Derived.Test.YtbhdojpgjmbogaaDrawn2
namespace Go.Proofs.Ytbhdojpgjmbogaa
open Go.RowKit Go.Shelf
theorem optB_len (ms : Int) (sk : Bool) (E : List (Int × Int)) (h : E.length ≤ 3) : (optB ms sk E).length ≤ 40 ∧ (optB ms sk E).length % 4 = 0 := by
  have h1 := oM_len ms
  have h2 := oS_len sk
  have h3 := oG_len E
  unfold optB padL
  constructor
  · simp; omega
  · simp; omega
set_option maxRecDepth 100000 in
set_option maxHeartbeats 8000000 in
theorem rlaid14 (s : SG) (E : List (Int × Int)) (b : List UInt8) (sum : Int) (w : World) (hok : s.Ok) (hg : RdS w s.gt E) (h3 : E.length ≤ 3) (hU : SpansU E) (hd : Rd w s.da b) (hb : b.length ≤ 1024) (hs0 : 0 ≤ sum) (hs1 : sum ≤ 65535) :
    Calls Try.prog 70 #[s.v, .int .i64 sum] w fun e w' => ∃ v, e = .returned v ∧ Ow w' w.heap.size v (segL s (optB s.ms s.sk E) b sum) ∧ Below w.heap.size w w' := by
  obtain ⟨hfr, htoo, hfl, hwn, hms, ⟨hq0, hq1⟩, ⟨ha0, ha1⟩⟩ := hok
  simp only [decide_eq_true_eq] at hfr htoo hfl hwn hms
  obtain ⟨ol, om⟩ := optB_len s.ms s.sk E h3
  obtain ⟨o, ho⟩ : ∃ o, o = optB s.ms s.sk E := ⟨_, rfl⟩
  rw [← ho] at ol om ⊢
  have HO := Lib.hid ho
  clear ho
  go_enter Try.func70, Try.ntmps70
  go_upto_region 1 with (fail)
  refine box1 (s := s) (motive := fun X => Code.wp Try.prog _ _ _ X) ?_
  intro X hB hX hs
  have hgX := hg.mono hB
  have hdX := hd.mono hB
  go_wp2_with ((with_reducible refine at_slot 7 ?_); refine wpList_loadB rfl 67 (.tmp 2) rfl hs rfl Try.underlying67 rfl SG.info ?_)
  refine (ropts_all s E X hms hgX h3 hU).mono ?_
  rintro e w1 ⟨v1, rfl, ho1, hb1⟩
  rw [← HO.out] at ho1
  have HS := Lib.hid (fun W' (h : Below X.heap.size X W') => (hs.mono h).sg)
  obtain ⟨c0, c1, c2, c3, c4, c5, c6, c7, c8, c9⟩ := HS.out _ hb1
  obtain ⟨A1, k1, e1, _, _⟩ := ho1.rd.form
  subst e1
  go_wp2_with fail
  refine (rput2 _ [] s.fr _ (Rd.nil _) (by simp) (by omega) (by omega)).mono ?_
  rintro e w2 ⟨v2, rfl, ho2, hb2⟩
  have hB2 := below_step hb1 hb1.size hb2
  obtain ⟨c0, c1, c2, c3, c4, c5, c6, c7, c8, c9⟩ := HS.out _ hB2
  go_wp2_with fail
  refine (rput2 _ _ s.too _ ho2.rd (by simp [p16_len]) (by omega) (by omega)).mono ?_
  rintro e w3 ⟨v3, rfl, ho3, hb3⟩
  have hB3 := below_step hB2 hB2.size hb3
  obtain ⟨c0, c1, c2, c3, c4, c5, c6, c7, c8, c9⟩ := HS.out _ hB3
  go_wp2_with fail
  refine (rput4 _ _ s.sq _ ho3.rd (by simp [p16_len]) (by omega) (by omega)).mono ?_
  rintro e w4 ⟨v4, rfl, ho4, hb4⟩
  have hB4 := below_step hB3 hB3.size hb4
  obtain ⟨c0, c1, c2, c3, c4, c5, c6, c7, c8, c9⟩ := HS.out _ hB4
  go_wp2_with fail
  refine (rput4 _ _ s.ak _ ho4.rd (by simp [p16_len, p32_len]) (by omega) (by omega)).mono ?_
  rintro e w5 ⟨v5, rfl, ho5, hb5⟩
  have hB5 := below_step hB4 hB4.size hb5
  clear c0 c1 c2 c3 c4 c5 c6 c7 c8 c9
  obtain ⟨c0, c1, c2, c3, c4, c5, c6, c7, c8, c9⟩ := HS.out _ hB5
  obtain ⟨l5, hl5⟩ : ∃ l5, l5 = [] ++ p16 s.fr ++ p16 s.too ++ p32 s.sq ++ p32 s.ak := ⟨_, rfl⟩
  have hn5 : l5.length = 12 := by rw [hl5]; rfl
  rw [← hl5] at ho5
  have HL5 := Lib.hid (And.intro hl5 hn5)
  have zB4 : X.heap.size ≤ w4.heap.size := hB4.size
  have z5 := hb5.size
  have zB5 := hB5.size
  have hz14 : w1.heap.size ≤ w4.heap.size := by have := hb2.size; have := hb3.size; have := hb4.size; omega
  have H15 : Below w1.heap.size w1 w5 := (hb2.trans (hb3.mono hb2.size)).trans ((hb4.mono (Nat.le_trans hb2.size hb3.size)).trans (hb5.mono hz14))
  clear hl5 hn5 ho2 ho3 ho4 hb2 hb3 hb4 hb5 hb1 hB2 hB3 hB4
  obtain ⟨A5, k5, e5, _, _⟩ := ho5.rd.form
  subst e5
  have hl : Rd (w5.alloc (.cells #[.int .u8 ((20 + (o.length : Int)) / 4 * 16), .int .u8 s.fl] 5)) (.slice (some ⟨w5.heap.size, 0, none⟩) 2 2) [by8 ((20 + o.length) / 4 * 16), by8 s.fl] := by
    refine rd_at w5 _ _ 2 _ ?_ rfl (by omega) rfl
    simp only [List.map_cons, List.map_nil, bv_by8]
    rw [Int.emod_eq_of_lt (show (0 : Int) ≤ (20 + (o.length : Int)) / 4 * 16 by omega) (by omega), Int.emod_eq_of_lt (show (0 : Int) ≤ s.fl by omega) (by omega)]
  have hBA := below_alloc w5 (.cells #[.int .u8 ((20 + (o.length : Int)) / 4 * 16), .int .u8 s.fl] 5)
  have ho6 := ho5.mono hBA
  go_upto_region 7 with ((with_reducible refine at_slot 37 ?_); refine wpList_app rfl (.tmp 26) (.tmp 36) rfl w4.heap.size ho6 hl rfl rfl (by have := HL5.out.2; simp; omega) (by simp; omega) ?_; intro v7 w7 ho7 hb7 hg7; clear hg7)
  have hb57 : Below w4.heap.size w5 w7 := (hBA.mono z5).trans hb7
  have hB7 : Below X.heap.size X w7 := hB5.trans (hb57.mono zB4)
  obtain ⟨l7, hl7⟩ : ∃ l7, l7 = l5 ++ [by8 ((20 + o.length) / 4 * 16), by8 s.fl] := ⟨_, rfl⟩
  have hn7 : l7.length = 14 := by rw [hl7, List.length_append, HL5.out.2]; rfl
  rw [← hl7] at ho7
  have HL7 := Lib.hid (And.intro hl7 hn7)
  have H17 := H15.trans (hb57.mono hz14)
  clear hl7 c0 c1 c2 c3 c4 c5 c6 c7 c8 c9 hl hBA ho6 ho5 hb7 H15 hb57
  obtain ⟨c0, c1, c2, c3, c4, c5, c6, c7, c8, c9⟩ := HS.out _ hB7
  go_wp2_with fail
  refine (rput2 _ _ s.wn _ ho7.rd (by omega) (by omega) (by omega)).mono ?_
  rintro e w8 ⟨v8, rfl, ho8, hb8⟩
  have hB8 := below_step hB7 hB7.size hb8
  have hz18 : w1.heap.size ≤ w8.heap.size := Nat.le_trans H17.size hb8.size
  clear hn7
  go_wp2_with fail
  refine (rput2 _ _ sum _ ho8.rd (by have := HL7.out.2; simp [p16_len]; omega) hs0 (by omega)).mono ?_
  rintro e w9 ⟨v9, rfl, ho9, hb9⟩
  have hB9 := below_step hB8 hB8.size hb9
  have H19 := (H17.trans (hb8.mono H17.size)).trans (hb9.mono (Nat.le_trans H17.size hb8.size))
  obtain ⟨l9, hl9⟩ : ∃ l9, l9 = l7 ++ p16 s.wn ++ p16 sum := ⟨_, rfl⟩
  have hn9 : l9.length = 18 := by have := HL7.out.2; rw [hl9]; simp [p16_len]; omega
  rw [← hl9] at ho9
  have HL9 := Lib.hid (And.intro hl9 hn9)
  have hz9 := hb9.size
  have zB8 := hB8.size
  clear hl9 hn9 ho8 hb8 ho7 H17 hb9 c0 c1 c2 c3 c4 c5 c6 c7 c8 c9
  obtain ⟨A9, k9, e9, _, _⟩ := ho9.rd.form
  subst e9
  have hl : Rd (w9.alloc (.cells #[.int .u8 0, .int .u8 0] 5)) (.slice (some ⟨w9.heap.size, 0, none⟩) 2 2) [0, 0] := rd_at w9 _ [0, 0] 2 _ rfl rfl (by omega) rfl
  have hBA := below_alloc w9 (.cells #[.int .u8 0, .int .u8 0] 5)
  have hoA := ho9.mono hBA
  go_upto_region 10 with ((with_reducible refine at_slot 47 ?_); refine wpList_app rfl (.tmp 45) (.tmp 46) rfl w8.heap.size hoA hl rfl rfl (by have := HL9.out.2; simp; omega) (by simp; omega) ?_; intro v10 w10 ho10 hb10 hg10; clear hg10)
  have hB10 : Below X.heap.size X w10 := hB9.trans (((hBA.mono hz9).trans hb10).mono zB8)
  have H110 := H19.trans (((hBA.mono hz9).trans hb10).mono hz18)
  have hro := ho1.rd.mono H110
  obtain ⟨l10, hl10⟩ : ∃ l10, l10 = l9 ++ [0, 0] := ⟨_, rfl⟩
  have hn10 : l10.length = 20 := by rw [hl10, List.length_append, HL9.out.2]; rfl
  rw [← hl10] at ho10
  have HL10 := Lib.hid (And.intro hl10 hn10)
  have z10 : w8.heap.size ≤ w10.heap.size := by have := hb10.size; simp at this; omega
  clear hl10 hn10 hl hBA hoA ho9 hb10 H110 H19
  obtain ⟨A10, k10, e10, _, _⟩ := ho10.rd.form
  subst e10
  go_upto_region 11 with ((with_reducible refine at_slot 50 ?_); refine wpList_app rfl (.tmp 48) (.tmp 49) rfl w8.heap.size ho10 hro rfl rfl (by have := HL10.out.2; omega) z10 ?_; intro v11 w11 ho11 hb11 hg11; clear hg11)
  have hB11 : Below X.heap.size X w11 := hB10.trans (hb11.mono zB8)
  have hrd := hdX.mono hB11
  obtain ⟨l11, hl11⟩ : ∃ l11, l11 = l10 ++ o := ⟨_, rfl⟩
  have hn11 : l11.length ≤ 60 := by rw [hl11, List.length_append, HL10.out.2]; omega
  rw [← hl11] at ho11
  have HL11 := Lib.hid (And.intro hl11 hn11)
  have z11 : w8.heap.size ≤ w11.heap.size := Nat.le_trans z10 hb11.size
  obtain ⟨c0, c1, c2, c3, c4, c5, c6, c7, c8, c9⟩ := HS.out _ hB11
  obtain ⟨Ad, kd, ed, _, _⟩ := hrd.form
  rw [ed] at c9 hrd
  clear hl11 hn11 hro ho10 hb11
  go_wp2_with ((with_reducible refine at_slot 54 ?_); refine wpList_app rfl (.tmp 51) (.tmp 53) rfl w8.heap.size ho11 hrd rfl rfl (by have := HL11.out.2; omega) z11 ?_; intro v12 w12 ho12 hb12 hg12; clear hg12)
  go_ret
  refine ⟨_, rfl, ?_, below_step hB hB.size (hB11.trans (hb12.mono zB8))⟩
  have h := ho12.less (show w.heap.size ≤ w8.heap.size by have := hB.size; omega)
  rw [HL11.out.1, HL10.out.1, HL9.out.1, HL7.out.1, HL5.out.1] at h
  simpa [segL, headL, List.append_assoc] using h
set_option maxHeartbeats 400000 in
theorem rsum14 (s d : IP) (v : Value) (l : List UInt8) (w : World) (hr : Rd w v l) (hl : l.length ≤ 140737488355000) :
    Calls Try.prog 50 #[s.v, d.v, v] w fun e w' => e = .returned (.int .i64 (csum 6 s d l)) ∧ Below w.heap.size w w' := by
  obtain ⟨A, c, rfl, hc1, hc2⟩ := hr.form
  go_enter Try.func50, Try.ntmps50
  go_wp2_with fail
  refine (rpseudo s d _ _ _).mono ?_
  rintro e w1 ⟨v1, rfl, ho1, hb1⟩
  have hB : Below w.heap.size w ((w.alloc (.cells s.cells 23)).alloc (.cells d.cells 23)) := ((Below.refl w.heap.size w).alloc (Nat.le_refl _) _).alloc (by simp) _
  have hB1 := below_step hB hB.size hb1
  have hr1 := hr.mono hB1
  have ho2 := ho1.less hB.size
  clear hB hb1 ho1
  go_wp2_with ((with_reducible refine at_slot 15 ?_); refine wpList_app rfl (.tmp 13) (.tmp 14) rfl w.heap.size ho2 hr1 rfl rfl (by simp [psl_len]; omega) hB1.size ?_; intro v2 w2 ho3 hb2 hg2; clear hg2)
  refine (rsum _ _ _ ho3.rd (by simp [psl_len]; omega)).mono ?_
  rintro e w3 ⟨rfl, rfl⟩
  go_wp2
  go_ret
  exact ⟨rfl, hB1.trans hb2⟩
set_option maxHeartbeats 400000 in
theorem rin (n m : Int) (b : Bool) (hb : decide (0 ≤ n ∧ n ≤ m) = b) (w : World) : Calls Try.prog 69 #[.int .i64 n, .int .i64 m] w fun e w' => e = .returned (.bool b) ∧ w = w' := by
  subst hb
  by_cases h1 : 0 ≤ n
  · by_cases h2 : n ≤ m
    · have e : decide (0 ≤ n ∧ n ≤ m) = true := by simp [h1, h2]
      rw [e]
      go_enter Try.func69, Try.ntmps69
      go_wp2
      go_ret
      exact ⟨ret_bool (by simp), rfl⟩
    · have e : decide (0 ≤ n ∧ n ≤ m) = false := by simp [h2]
      rw [e]
      go_enter Try.func69, Try.ntmps69
      go_wp2
      go_ret
      exact ⟨ret_bool (by simp), rfl⟩
  · have e : decide (0 ≤ n ∧ n ≤ m) = false := by simp [h1]
    rw [e]
    go_enter Try.func69, Try.ntmps69
    go_wp2
    go_ret
    exact ⟨ret_bool (by simp), rfl⟩
theorem segL_len (s : SG) (o b : List UInt8) (S : Int) : (segL s o b S).length = 20 + o.length + b.length := by simp [segL, headL_len, p16_len]; omega
set_option maxRecDepth 100000 in
set_option maxHeartbeats 8000000 in
theorem renc14_ok (s d : IP) (g : SG) (E : List (Int × Int)) (b : List UInt8) (w : World) (hok : g.Ok) (hg : RdS w g.gt E) (h3 : E.length ≤ 3) (hU : SpansU E) (hda : Rd w g.da b) (hb : b.length ≤ 1024) :
    Calls Try.prog 43 #[s.v, d.v, g.v] w (CEnd w (segL g (optB g.ms g.sk E) b (csum 6 s d (segL g (optB g.ms g.sk E) b 0))) 0) := by
  obtain ⟨A1, c1, e1, _, hm⟩ := hda.form
  obtain ⟨Ag, cg, eg, _, hmg⟩ := hg.form
  have hobl := (optB_len g.ms g.sk E h3).1
  have HD := Lib.hid e1
  have HG := Lib.hid eg
  clear e1 eg
  have q0 : decide ((1024 : Int) < (b.length : Int)) = false := by simp; omega
  have q3 : decide ((3 : Int) < (E.length : Int)) = false := by simp; omega
  have hok' := hok
  obtain ⟨hfr, htoo, hfl, hwn, hms, -, -⟩ := hok'
  simp only [decide_eq_true_eq] at hfr htoo hfl hwn hms
  have i1 := fun W => rin (g.fr - 1) 65534 true (by simp; omega) W
  have i2 := fun W => rin (g.too - 1) 65534 true (by simp; omega) W
  have i3 := fun W => rin g.fl 31 true (by simp; omega) W
  have i4 := fun W => rin g.wn 65535 true (by simp; omega) W
  have i5 := fun W => rin g.ms 65535 true (by simp; omega) W
  have I := Lib.hid (And.intro i1 (And.intro i2 (And.intro i3 (And.intro i4 i5))))
  clear i1 i2 i3 i4 i5
  go_enter Try.func43, Try.ntmps43
  go_upto_region 1 with (fail)
  refine box5 (s := s) (d := d) (g := g) (motive := fun X => Code.wp Try.prog _ _ _ X) ?_
  intro X hB hX hbs hbd hs
  obtain ⟨c0, c1', c2, c3, c4, c5, c6, c7, c8, c9⟩ := hs.sg
  rw [HG.out] at c8
  rw [HD.out] at c9
  go_upto_region 7 with (first | ((with_reducible refine (I.out.1 _).mono ?_); rintro e w' ⟨rfl, rfl⟩) | ((with_reducible refine (I.out.2.1 _).mono ?_); rintro e w' ⟨rfl, rfl⟩) | ((with_reducible refine (I.out.2.2.1 _).mono ?_); rintro e w' ⟨rfl, rfl⟩) | ((with_reducible refine (I.out.2.2.2.1 _).mono ?_); rintro e w' ⟨rfl, rfl⟩) | ((with_reducible refine (I.out.2.2.2.2 _).mono ?_); rintro e w' ⟨rfl, rfl⟩))
  clear c0 c1' c2 c3 c4 c5 c6 c7 c8 c9
  rename_i K7 hK7
  have hgX : RdS X.drew g.gt E := (hg.mono hB).old (Nat.le_refl _) (fun _ _ => rfl)
  have hdX : Rd X.drew g.da b := (hda.mono hB).drew
  have HK := Lib.hid (fun W' (h : Below X.drew.heap.size X.drew W') => show (fun w' => w'.cell? ⟨w.heap.size + 1 + 1, 0, none⟩ = some (.int .i64 g.fr) ∧ w'.cell? ⟨w.heap.size + 1 + 1, 1, none⟩ = some (.int .i64 g.too) ∧ w'.cell? ⟨w.heap.size + 1 + 1, 2, none⟩ = some (.int .u32 g.sq) ∧ w'.cell? ⟨w.heap.size + 1 + 1, 3, none⟩ = some (.int .u32 g.ak) ∧ w'.cell? ⟨w.heap.size + 1 + 1, 4, none⟩ = some (.int .i64 g.fl) ∧ w'.cell? ⟨w.heap.size + 1 + 1, 5, none⟩ = some (.int .i64 g.wn) ∧ w'.cell? ⟨w.heap.size + 1 + 1, 6, none⟩ = some (.int .i64 g.ms) ∧ w'.cell? ⟨w.heap.size + 1 + 1, 7, none⟩ = some (.bool g.sk) ∧ w'.cell? ⟨w.heap.size + 1 + 1, 8, none⟩ = some (g.gt) ∧ w'.cell? ⟨w.heap.size + 1 + 1, 9, none⟩ = some (g.da) ∧ w'.cell? ⟨w.heap.size, 0, none⟩ = some (.int .u8 (s.a.toNat : Int)) ∧ w'.cell? ⟨w.heap.size, 1, none⟩ = some (.int .u8 (s.b.toNat : Int)) ∧ w'.cell? ⟨w.heap.size, 2, none⟩ = some (.int .u8 (s.c.toNat : Int)) ∧ w'.cell? ⟨w.heap.size, 3, none⟩ = some (.int .u8 (s.d.toNat : Int)) ∧ w'.cell? ⟨w.heap.size + 1, 0, none⟩ = some (.int .u8 (d.a.toNat : Int)) ∧ w'.cell? ⟨w.heap.size + 1, 1, none⟩ = some (.int .u8 (d.b.toNat : Int)) ∧ w'.cell? ⟨w.heap.size + 1, 2, none⟩ = some (.int .u8 (d.c.toNat : Int)) ∧ w'.cell? ⟨w.heap.size + 1, 3, none⟩ = some (.int .u8 (d.d.toNat : Int))) W' from
    have a := (hs.drw.mono h).sg
    have b := (hbs.drw.mono h).ip4
    have c := (hbd.drw.mono h).ip4
    ⟨a.1, a.2.1, a.2.2.1, a.2.2.2.1, a.2.2.2.2.1, a.2.2.2.2.2.1, a.2.2.2.2.2.2.1, a.2.2.2.2.2.2.2.1, a.2.2.2.2.2.2.2.2.1, a.2.2.2.2.2.2.2.2.2, b.1, b.2.1, b.2.2.1, b.2.2.2, c.1, c.2.1, c.2.2.1, c.2.2.2⟩)
  have hS0 := HK.out X.drew (Below.refl _ _)
  refine wp_region_any (by kernel_rfl) (wpAny_of_G (n := 8) (S := fun w' => w'.cell? ⟨w.heap.size + 1 + 1, 0, none⟩ = some (.int .i64 g.fr) ∧ w'.cell? ⟨w.heap.size + 1 + 1, 1, none⟩ = some (.int .i64 g.too) ∧ w'.cell? ⟨w.heap.size + 1 + 1, 2, none⟩ = some (.int .u32 g.sq) ∧ w'.cell? ⟨w.heap.size + 1 + 1, 3, none⟩ = some (.int .u32 g.ak) ∧ w'.cell? ⟨w.heap.size + 1 + 1, 4, none⟩ = some (.int .i64 g.fl) ∧ w'.cell? ⟨w.heap.size + 1 + 1, 5, none⟩ = some (.int .i64 g.wn) ∧ w'.cell? ⟨w.heap.size + 1 + 1, 6, none⟩ = some (.int .i64 g.ms) ∧ w'.cell? ⟨w.heap.size + 1 + 1, 7, none⟩ = some (.bool g.sk) ∧ w'.cell? ⟨w.heap.size + 1 + 1, 8, none⟩ = some (g.gt) ∧ w'.cell? ⟨w.heap.size + 1 + 1, 9, none⟩ = some (g.da) ∧ w'.cell? ⟨w.heap.size, 0, none⟩ = some (.int .u8 (s.a.toNat : Int)) ∧ w'.cell? ⟨w.heap.size, 1, none⟩ = some (.int .u8 (s.b.toNat : Int)) ∧ w'.cell? ⟨w.heap.size, 2, none⟩ = some (.int .u8 (s.c.toNat : Int)) ∧ w'.cell? ⟨w.heap.size, 3, none⟩ = some (.int .u8 (s.d.toNat : Int)) ∧ w'.cell? ⟨w.heap.size + 1, 0, none⟩ = some (.int .u8 (d.a.toNat : Int)) ∧ w'.cell? ⟨w.heap.size + 1, 1, none⟩ = some (.int .u8 (d.b.toNat : Int)) ∧ w'.cell? ⟨w.heap.size + 1, 2, none⟩ = some (.int .u8 (d.c.toNat : Int)) ∧ w'.cell? ⟨w.heap.size + 1, 3, none⟩ = some (.int .u8 (d.d.toNat : Int))) _ _ _ _ ?_)
  refine G.load (i := 0) (v := .agg #[.int .i64 g.fr, .int .i64 g.too, .int .u32 g.sq, .int .u32 g.ak, .int .i64 g.fl, .int .i64 g.wn, .int .i64 g.ms, .bool g.sk, g.gt, g.da]) rfl (by kernel_rfl) (fun _ _ _ h => h) (.inl ⟨rfl, fun w' hS => ?_⟩) (hS0) ?_
  · simp [execOp, Act.eval, hS, go_sem]
  simp only [Act.put, List.getElem_toArray, List.getElem_cons_zero, List.setIfInBounds_toArray, List.set_cons_zero, List.set_cons_succ]
  refine G.load (i := 1) (v := .agg #[.int .u8 (s.a.toNat : Int), .int .u8 (s.b.toNat : Int), .int .u8 (s.c.toNat : Int), .int .u8 (s.d.toNat : Int)]) rfl (by kernel_rfl) (fun _ _ _ h => h) (.inl ⟨rfl, fun w' hS => ?_⟩) (hS0) ?_
  · simp [execOp, Act.eval, hS, go_sem]
  simp only [Act.put, List.getElem_toArray, List.getElem_cons_zero, List.getElem_cons_succ, List.setIfInBounds_toArray, List.set_cons_zero, List.set_cons_succ]
  refine G.load (i := 2) (v := .agg #[.int .u8 (d.a.toNat : Int), .int .u8 (d.b.toNat : Int), .int .u8 (d.c.toNat : Int), .int .u8 (d.d.toNat : Int)]) rfl (by kernel_rfl) (fun _ _ _ h => h) (.inl ⟨rfl, fun w' hS => ?_⟩) (hS0) ?_
  · simp [execOp, Act.eval, hS, go_sem]
  simp only [Act.put, List.getElem_toArray, List.getElem_cons_zero, List.getElem_cons_succ, List.setIfInBounds_toArray, List.set_cons_zero, List.set_cons_succ]
  refine G.load (i := 3) (v := .agg #[.int .i64 g.fr, .int .i64 g.too, .int .u32 g.sq, .int .u32 g.ak, .int .i64 g.fl, .int .i64 g.wn, .int .i64 g.ms, .bool g.sk, g.gt, g.da]) rfl (by kernel_rfl) (fun _ _ _ h => h) (.inl ⟨rfl, fun w' hS => ?_⟩) (hS0) ?_
  · simp [execOp, Act.eval, hS, go_sem]
  simp only [Act.put, List.getElem_toArray, List.getElem_cons_zero, List.getElem_cons_succ, List.setIfInBounds_toArray, List.set_cons_zero, List.set_cons_succ]
  refine G.only' (i := 4) ?r4 rfl ?o4
  case r4 => kernel_rfl
  intro K hK
  refine step_call rfl rfl (enters_of Try.func70 (by kernel_rfl) rfl) (rlaid14 g E b 0 X.drew hok hgX h3 hU hdX hb (by omega) (by omega)) rfl ?_
  rintro e w1 ⟨v1, rfl, ho1, hb1⟩
  have hS1 := HK.out w1 hb1
  refine ⟨_, rfl, hK _ _ (fun _ => hS1) ?_⟩
  clear hK K
  simp only [Act.put, List.getElem_toArray, List.getElem_cons_zero, List.getElem_cons_succ, List.setIfInBounds_toArray, List.set_cons_zero, List.set_cons_succ]
  refine G.only' (i := 5) ?r5 rfl ?o5
  case r5 => kernel_rfl
  intro K hK
  refine step_call rfl rfl (enters_of Try.func50 (by kernel_rfl) rfl) (rsum14 s d _ _ w1 ho1.rd (by rw [segL_len]; omega)) rfl ?_
  rintro e w2 ⟨rfl, hb2⟩
  have hB2 := below_step hb1 hb1.size hb2
  have hS2 := HK.out w2 hB2
  obtain ⟨S, hS⟩ : ∃ S, S = csum 6 s d (segL g (optB g.ms g.sk E) b 0) := ⟨_, rfl⟩
  obtain ⟨hS0', hS1'⟩ := csum_bd 6 s d (segL g (optB g.ms g.sk E) b 0)
  rw [← hS] at hS0' hS1' ⊢
  refine ⟨_, rfl, hK _ _ (fun _ => hS2) ?_⟩
  clear hK K
  simp only [Act.put, List.getElem_toArray, List.getElem_cons_zero, List.getElem_cons_succ, List.setIfInBounds_toArray, List.set_cons_zero, List.set_cons_succ]
  refine G.only' (i := 6) ?r6 rfl ?o6
  case r6 => kernel_rfl
  intro K hK
  refine step_call rfl rfl (enters_of Try.func70 (by kernel_rfl) rfl) (rlaid14 g E b S w2 hok (hgX.mono hB2) h3 hU (hdX.mono hB2) hb hS0' hS1') rfl ?_
  rintro e w3 ⟨v3, rfl, ho3, hb3⟩
  have hB3 := below_step hB2 hB2.size hb3
  have hS3 := HK.out w3 hB3
  refine ⟨_, rfl, hK _ _ (fun _ => hS3) ?_⟩
  clear hK K
  simp only [Act.put, List.getElem_toArray, List.getElem_cons_zero, List.getElem_cons_succ, List.setIfInBounds_toArray, List.set_cons_zero, List.set_cons_succ]
  refine G.pure' (i := 7) (v := v3) rfl (by kernel_rfl) (fun _ _ _ h => h) (.inl ⟨rfl, fun w' _ => ?_⟩) (fun _ => hS3) ?_
  · simp [execOp, Act.eval, go_sem]
  simp only [Act.put, List.getElem_toArray, List.getElem_cons_zero, List.getElem_cons_succ, List.setIfInBounds_toArray, List.set_cons_zero, List.set_cons_succ]
  refine G.lastPure (i := 8) (v := .int .i64 0) (by kernel_rfl) (by kernel_rfl) rfl (.inl ⟨rfl, fun w' _ => ?_⟩) (fun e => Bool.noConfusion (show true = false from e)) ?_
  · simp [execOp, Act.eval, go_sem]
  simp only [Act.put, List.getElem_toArray, List.getElem_cons_zero, List.getElem_cons_succ, List.setIfInBounds_toArray, List.set_cons_zero, List.set_cons_succ]

  simp only [Exit.then]
  refine hK7 _ _ ?_
  have hBz : Below X.heap.size X w3 := ((Below.refl X.heap.size X).drew).trans hB3
  clear hK7 K7 hS0 hS1 hS2 hS3 HK
  go_wp2
  go_ret2
  rw [← hS]
  refine ⟨_, rfl, ho3.less ?_, below_step hB hB.size hBz⟩
  have := hB.size
  have := hB2.size
  exact Nat.le_trans hB.size hB2.size
end Go.Proofs.Ytbhdojpgjmbogaa
