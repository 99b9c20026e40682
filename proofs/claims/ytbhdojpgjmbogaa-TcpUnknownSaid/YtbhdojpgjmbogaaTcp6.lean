/- tcp.Encode, where nothing is refused. -/
import Derived.Test.YtbhdojpgjmbogaaTcp5
import Derived.Deep.RegionHeld3
import Derived.Deep.DrawnRows
namespace Go.Proofs.Ytbhdojpgjmbogaa
open Go.RowKit Go.Shelf
theorem p32_len (n : Int) : (p32 n).length = 4 := rfl
/-- A segment's head up to its sum. -/
def headL (s : SG) (n : Int) : List UInt8 := p16 s.fr ++ p16 s.too ++ p32 s.sq ++ p32 s.ak ++ [by8 ((20 + n) / 4 * 16), by8 s.fl] ++ p16 s.wn
theorem headL_len (s : SG) (n : Int) : (headL s n).length = 16 := rfl
/-- A segment's bytes. -/
def segL (s : SG) (o b : List UInt8) (sum : Int) : List UInt8 := headL s o.length ++ p16 sum ++ [0, 0] ++ o ++ b
theorem Blk.ip8 {w : World} {g h : Nat} {i j : IP} (h1 : Blk w g 23 i.cells) (h2 : Blk w h 23 j.cells) :
    w.cell? ⟨g, 0, none⟩ = some (.int .u8 i.a.toNat) ∧ w.cell? ⟨g, 1, none⟩ = some (.int .u8 i.b.toNat) ∧ w.cell? ⟨g, 2, none⟩ = some (.int .u8 i.c.toNat) ∧ w.cell? ⟨g, 3, none⟩ = some (.int .u8 i.d.toNat) ∧
    w.cell? ⟨h, 0, none⟩ = some (.int .u8 j.a.toNat) ∧ w.cell? ⟨h, 1, none⟩ = some (.int .u8 j.b.toNat) ∧ w.cell? ⟨h, 2, none⟩ = some (.int .u8 j.c.toNat) ∧ w.cell? ⟨h, 3, none⟩ = some (.int .u8 j.d.toNat) := by
  obtain ⟨a0, a1, a2, a3⟩ := h1.ip4
  obtain ⟨b0, b1, b2, b3⟩ := h2.ip4
  exact ⟨a0, a1, a2, a3, b0, b1, b2, b3⟩
/-- A segment that may be sent. -/
structure SG.Ok (s : SG) : Prop where
  fr : decide (1 ≤ s.fr ∧ s.fr ≤ 65535) = true
  too : decide (1 ≤ s.too ∧ s.too ≤ 65535) = true
  fl : decide (0 ≤ s.fl ∧ s.fl ≤ 31) = true
  wn : decide (0 ≤ s.wn ∧ s.wn ≤ 65535) = true
  ms : decide (0 ≤ s.ms ∧ s.ms ≤ 65535) = true
  sq : U32 s.sq
  ak : U32 s.ak
/-- The boxes of two addresses and a segment. -/
theorem box5 {w : World} {s d : IP} {g : SG} {motive : World → Prop}
    (h : ∀ X, Below w.heap.size w X → w.heap.size + 3 = X.heap.size → Blk X w.heap.size 23 s.cells → Blk X (w.heap.size + 1) 23 d.cells → Blk X (w.heap.size + 1 + 1) 67 g.cells → motive X) :
    motive (((w.alloc (.cells s.cells 23)).alloc (.cells d.cells 23)).alloc (.cells g.cells 67)) :=
  h _ ((((Below.refl w.heap.size w).alloc (Nat.le_refl _) _).alloc (by simp) _).alloc (by simp; omega) _) (by simp) (((Blk.new w 23 s.cells _ rfl).alloc _).alloc _) ((Blk.new _ 23 d.cells _ (by simp)).alloc _) (Blk.new _ 67 g.cells _ (by simp))
/-- The sum over the pseudo head and a segment, as Encode and Decode call it. -/
theorem two_sum (s d : IP) (n : Nat) (L : List UInt8) (S : Int) (A : Option Addr) (c G cap : Nat) (hn : n = L.length) (hS : S = csum 6 s d L) (hn1 : n ≤ 1084) {w : World} {base base' : Nat}
    (h1 : Ow w base (.slice A (psl s d 6 n).length c) (psl s d 6 n)) (h2 : Ow w base' (.slice (some ⟨G, 0, none⟩) n cap) L) :
    Calls Try.prog 67 #[.slice (some ⟨w.heap.size, 0, none⟩) 2 2] (w.alloc (.cells #[.slice A (psl s d 6 n).length c, .slice (some ⟨G, 0, none⟩) n cap] 24)) fun e w' =>
      e = .returned (.int .i64 S) ∧ Below w.heap.size w w' := by
  have hls : RdL (w.alloc (.cells #[.slice A (psl s d 6 n).length c, .slice (some ⟨G, 0, none⟩) n cap] 24)) (.slice (some ⟨w.heap.size, 0, none⟩) 2 2) [psl s d 6 n, L] := by
    refine rdL_new _ _ _ _ 2 _ rfl rfl (by omega) rfl ?_
    intro i h h'
    match i, h' with
    | 0, _ => exact h1.rd
    | 1, _ => exact h2.rd
  refine (wsum _ _ (by simp [psl_len]; omega) _ hls).mono ?_
  rintro e w' ⟨rfl, hb⟩
  subst hS hn
  exact ⟨by simp [csum], below_step (below_alloc w _) (by simp) hb⟩
attribute [local go_sem ↓] Go.wp_at_zero Go.wp_at_succ
set_option maxRecDepth 100000 in
set_option maxHeartbeats 40000000 in
theorem tenc (s d : IP) (g : SG) (o b : List UInt8) (w : World) (hok : g.Ok) (A : Option Addr) (k c : Nat) (hgt : g.gt = .slice A k c) (hk : k ≤ 3) (hda : Rd w g.da b) (hb : b.length ≤ 1024) (ho : o.length ≤ 40)
    (hopt : ∀ W, Below w.heap.size w W → Calls Try.prog 64 #[g.v] W (OEnd W o)) :
    Calls Try.prog 42 #[s.v, d.v, g.v] w (CEnd w (segL g o b (csum 6 s d (segL g o b 0))) 0) := by
  obtain ⟨q1, q2, q3, q4, q5, q6, q7⟩ := hok
  obtain ⟨A1, c1, e1, _, _⟩ := hda.form
  have HG := Lib.hid hgt
  have HD := Lib.hid e1
  have HO := Lib.hid hopt
  clear hgt e1 hopt
  go_enter Try.func42, Try.ntmps42
  go_upto_region 1 with (fail)
  refine box5 (s := s) (d := d) (g := g) (motive := fun X => Code.wp Try.prog _ _ _ X) ?_
  intro X hB hX hbs hbd hs
  have hrX := hda.mono hB
  obtain ⟨c0, c1', c2, c3, c4, c5, c6, c7, c8, c9⟩ := hs.sg
  rw [HG.out] at c8
  rw [HD.out] at c9
  go_upto_region 5 with (go_at_call 63; refine (ttwithin _ _ _ _).mono ?_; rintro e w' ⟨rfl, rfl⟩)
  clear c0 c1' c2 c3 c4 c5 c6 c7 c8 c9
  go_wp2_with ((with_reducible refine at_slot 50 ?_); refine wpList_loadB rfl 67 (.tmp 5) rfl hs rfl Try.underlying67 rfl SG.info ?_)
  refine (HO.out _ hB).mono ?_
  rintro e w1 ⟨v1, rfl, ho1, hb1⟩
  have hbs1 := hbs.mono hb1
  have hbd1 := hbd.mono hb1
  have hs1 := hs.mono hb1
  have hr1 := hrX.mono hb1
  have hB1 := below_step hB hB.size hb1
  have z1 := hb1.size
  clear hbs hbd hs hrX hB hb1 HO
  obtain ⟨c0, c1', -⟩ := hs1.sg
  have q1' : 1 ≤ g.fr ∧ g.fr ≤ 65535 := by simpa using q1
  have HS := Lib.hid (fun w2 (h : Below w1.heap.size w1 w2) => (hs1.mono h).sg)
  go_upto_region 6 with (fail)
  go_cut [9] from 52 to 57 (fun v9 wx => Ow wx w1.heap.size v9 (p16 g.fr ++ p16 g.too) ∧ Below w1.heap.size w1 wx)
  case first =>
    go_region_law (first | (refine step_call rfl rfl (enters_of Try.func52 (by kernel_rfl) rfl) (put16 _ [] g.fr _ (Rd.nil _) (by simp)) rfl ?_; rintro e w2 ⟨v2, rfl, ho2, hb2⟩; refine ⟨_, rfl, ?_⟩; obtain ⟨d0, d1, -⟩ := HS.out w2 ((Below.refl w1.heap.size w1).drew.trans hb2)) | (refine step_call rfl rfl (enters_of Try.func52 (by kernel_rfl) rfl) (put16 _ _ g.too _ ho2.rd (by simp [p16_len])) rfl ?_; rintro e w3 ⟨v3, rfl, ho3, hb3⟩; refine ⟨_, rfl, ?_⟩))
    all_goals (go_wp2_with fail; go_meet)
    all_goals (rw [List.nil_append] at ho3; have hBz := (Below.refl w1.heap.size w1).drew.trans hb2; exact ⟨ho3.less hBz.size, hBz.trans (hb3.mono hBz.size)⟩)
  case rest =>
    obtain ⟨ho3, hb3⟩ := hcut
    obtain ⟨w3, rfl⟩ : ∃ x, x = wc := ⟨_, rfl⟩
    obtain ⟨v3, rfl⟩ : ∃ x, x = u9 := ⟨_, rfl⟩
    clear c0 c1' HS q1'
    have hbs3 := hbs1.mono hb3
    have hbd3 := hbd1.mono hb3
    have hs3 := hs1.mono hb3
    have hr3 := hr1.mono hb3
    have ho1 := ho1.mono hb3
    have hB3 := below_step hB1 hB1.size hb3
    have z3 := hb3.size
    clear hbs1 hbd1 hs1 hr1 hB1 hb3
    obtain ⟨-, -, c2, c3, -⟩ := hs3.sg
    obtain ⟨q60, q61⟩ := q6
    obtain ⟨q70, q71⟩ := q7
    have HS := Lib.hid (fun w2 (h : Below w3.heap.size w3 w2) => (hs3.mono h).sg)
    go_upto_region 7 with (fail)
    go_cut [9] from 58 to 64 (fun v9 wx => Ow wx w3.heap.size v9 (p16 g.fr ++ p16 g.too ++ p32 g.sq ++ p32 g.ak) ∧ Below w3.heap.size w3 wx)
    case first =>
      go_region_law (first | (refine step_call rfl rfl (enters_of Try.func65 (by kernel_rfl) rfl) (put32 _ _ g.sq _ ho3.rd (by simp [p16_len]) q60 (by omega)) rfl ?_; rintro e w4 ⟨v4, rfl, ho4, hb4⟩; refine ⟨_, rfl, ?_⟩; obtain ⟨-, -, d0, d1, -⟩ := HS.out w4 ((Below.refl w3.heap.size w3).drew.trans hb4)) | (refine step_call rfl rfl (enters_of Try.func65 (by kernel_rfl) rfl) (put32 _ _ g.ak _ ho4.rd (by simp [p16_len, p32_len]) q70 (by omega)) rfl ?_; rintro e w5 ⟨v5, rfl, ho5, hb5⟩; refine ⟨_, rfl, ?_⟩))
      all_goals (go_wp2_with fail; go_meet)
      all_goals (have hBz := (Below.refl w3.heap.size w3).drew.trans hb4; exact ⟨ho5.less hBz.size, hBz.trans (hb5.mono hBz.size)⟩)
    case rest =>
      obtain ⟨ho5, hb5⟩ := hcut
      obtain ⟨w5, rfl⟩ : ∃ x, x = wc := ⟨_, rfl⟩
      obtain ⟨v5, rfl⟩ : ∃ x, x = u9 := ⟨_, rfl⟩
      clear c2 c3 HS ho3
      have hs5 := hs3.mono hb5
      have z5 := hb5.size
      obtain ⟨-, -, -, -, c4, -⟩ := hs5.sg
      obtain ⟨A2, c2, rfl, _, _⟩ := ho1.rd.form
      go_upto_region 8 with (fail)
      have hn2 : Rd (w5.alloc (.cells #[.int .u8 ((20 + (o.length : Int)) / 4 * 16), .int .u8 (g.fl % 256)] 5)) (.slice (some ⟨w5.heap.size, 0, none⟩) 2 2) [by8 ((20 + o.length) / 4 * 16), by8 g.fl] := by
        refine rd_at w5 _ _ 2 _ ?_ rfl (by omega) rfl
        simp only [List.map_cons, List.map_nil, bv_by8]
        rw [Int.emod_eq_of_lt (show (0 : Int) ≤ (20 + (o.length : Int)) / 4 * 16 by omega) (by omega)]
      have hB57 := below_alloc w5 (.cells #[.int .u8 ((20 + (o.length : Int)) / 4 * 16), .int .u8 (g.fl % 256)] 5)
      have ho6 := ho5.mono hB57
      go_upto_region 9 with ((with_reducible refine at_slot 76 ?_); refine wpList_app rfl (.tmp 65) (.tmp 75) rfl w3.heap.size ho6 hn2 rfl rfl (by simp [p16_len, p32_len]) (by simp; omega) ?_; intro v7 w7 ho7 hb7 hg7; clear hg7)
      have hb37 : Below w3.heap.size w3 w7 := (hb5.trans (hB57.mono z5)).trans hb7
      have hbs7 := hbs3.mono hb37
      have hbd7 := hbd3.mono hb37
      have hs7 := hs3.mono hb37
      have hr7 := hr3.mono hb37
      have ho1 := ho1.mono hb37
      have hB7 := below_step hB3 hB3.size hb37
      have z7 := hb37.size
      clear hbs3 hbd3 hs3 hr3 hB3 hb5 hs5 c4 hn2 hB57 ho6 hb7 ho5 hb37
      obtain ⟨-, -, -, -, -, c5, -⟩ := hs7.sg
      go_wp2_with fail
      refine (put16 _ _ g.wn _ ho7.rd (by simp [p16_len, p32_len])).mono ?_
      rintro e w8 ⟨v8, rfl, ho8, hb8⟩
      have hbs8 := hbs7.mono hb8
      have hbd8 := hbd7.mono hb8
      have hs8 := hs7.mono hb8
      have hr8 := hr7.mono hb8
      have ho1 := ho1.mono hb8
      have hB8 := below_step hB7 hB7.size hb8
      have z8 := hb8.size
      clear hbs7 hbd7 hs7 hr7 hB7 hb8 c5 ho7
      have hh8 : Ow w8 w7.heap.size v8 (headL g o.length) := ho8
      clear ho8
      obtain ⟨A8, c8, rfl, _, _⟩ := hh8.rd.form
      obtain ⟨-, -, -, -, -, -, -, -, -, c9⟩ := (hs8.alloc (.cells #[.int .u8 0, .int .u8 0, .int .u8 0, .int .u8 0] 5)).sg
      rw [HD.out] at c9 hr8
      have hn0 : Rd (w8.alloc (.cells #[.int .u8 0, .int .u8 0, .int .u8 0, .int .u8 0] 5)) (.slice (some ⟨w8.heap.size, 0, none⟩) 4 4) [0, 0, 0, 0] := rd_at w8 _ [0, 0, 0, 0] 4 _ rfl rfl (by omega) rfl
      have hB80 := below_alloc w8 (.cells #[.int .u8 0, .int .u8 0, .int .u8 0, .int .u8 0] 5)
      have hls : RdL ((w8.alloc (.cells #[.int .u8 0, .int .u8 0, .int .u8 0, .int .u8 0] 5)).alloc (.cells #[.slice A8 (headL g o.length).length c8, .slice (some ⟨w8.heap.size, 0, none⟩) 4 4, .slice A2 o.length c2, .slice A1 b.length c1] 24)) (.slice (some ⟨w8.heap.size + 1, 0, none⟩) 4 4) [headL g o.length, [0, 0, 0, 0], o, b] := by
        refine rdL_new _ _ _ _ 4 _ rfl rfl (by omega) (by simp) ?_
        intro i h h'
        match i, h' with
        | 0, _ => exact hh8.rd.mono hB80
        | 1, _ => exact hn0
        | 2, _ => exact ho1.rd.mono hB80
        | 3, _ => exact hr8.mono hB80
      rw [headL_len] at hls ⊢
      go_wp2_with fail
      refine (concat _ _ _ hls (by simp [headL_len]; omega)).mono ?_
      rintro e w9 ⟨v9, rfl, ho9, hb9⟩
      have hB89 := below_step (boxes_below w8 (.cells #[.int .u8 0, .int .u8 0, .int .u8 0, .int .u8 0] 5) (.cells #[.slice A8 16 c8, .slice (some ⟨w8.heap.size, 0, none⟩) 4 4, .slice A2 o.length c2, .slice A1 b.length c1] 24)) (by simp; omega) hb9
      have hbs9 := hbs8.mono hB89
      have hbd9 := hbd8.mono hB89
      have hB9 := below_step hB8 hB8.size hB89
      have hfl : [headL g o.length, [0, 0, 0, 0], o, b].flatten = segL g o b 0 := by simp [segL, p16, by8]
      rw [hfl] at ho9
      have ho10 : Ow w9 w8.heap.size v9 (segL g o b 0) := ho9.less (by simp; omega)
      have hlen : (segL g o b 0).length = 20 + o.length + b.length := by simp [segL, headL_len, p16_len]; omega
      have hspl : ∀ S, splice (segL g o b 0) 16 (p16 S) = segL g o b S := fun S => by simp [splice, segL, headL, p16, p32]
      have HSP := Lib.hid hspl
      obtain ⟨L, hL⟩ : ∃ L, L = segL g o b 0 := ⟨_, rfl⟩
      rw [← hL] at ho10 hlen ⊢
      obtain ⟨S, hS⟩ : ∃ S, S = csum 6 s d L := ⟨_, rfl⟩
      rw [← hS]
      have HL := Lib.hid hL
      have HSS := Lib.hid hS
      have z9 := hB89.size
      clear hspl hL hS hbs8 hbd8 hB8 hls ho9 hb9 hfl hn0 hB80 hh8 c9 hs8 hr8 hB89 ho1
      obtain ⟨G, cap, rfl, hG1, hG2, hG3, hG4⟩ := ow_form ho10 (by omega)
      obtain ⟨n, hn⟩ : ∃ n, n = L.length := ⟨_, rfl⟩
      rw [← hn] at ho10 hlen hG3 ⊢
      have h16 : (16 : Int) ≤ (n : Int) := by omega
      have hcap : ¬ cap = 16 := by omega
      have HN := Lib.hid hlen
      have hn1 : n ≤ 1084 := by omega
      have hn18 : 18 ≤ n := by omega
      have hn20 : 16 + (p16 S).length ≤ L.length := by rw [p16_len]; omega
      have Hn := Lib.hid hn
      clear hlen hn
      obtain ⟨a0, a1, a2, a3⟩ := hbs9.ip4
      obtain ⟨b0, b1, b2, b3⟩ := hbd9.ip4
      have hc0 : (n : Int) ≤ (cap : Int) := by omega
      go_upto_region 11 with (fail)
      have hKeep : ∀ wx : World, Below w9.heap.size w9 wx → wx.cell? ⟨w.heap.size, 0, none⟩ = some (.int .u8 s.a.toNat) ∧ wx.cell? ⟨w.heap.size, 1, none⟩ = some (.int .u8 s.b.toNat) ∧ wx.cell? ⟨w.heap.size, 2, none⟩ = some (.int .u8 s.c.toNat) ∧ wx.cell? ⟨w.heap.size, 3, none⟩ = some (.int .u8 s.d.toNat) ∧
          wx.cell? ⟨w.heap.size + 1, 0, none⟩ = some (.int .u8 d.a.toNat) ∧ wx.cell? ⟨w.heap.size + 1, 1, none⟩ = some (.int .u8 d.b.toNat) ∧ wx.cell? ⟨w.heap.size + 1, 2, none⟩ = some (.int .u8 d.c.toNat) ∧ wx.cell? ⟨w.heap.size + 1, 3, none⟩ = some (.int .u8 d.d.toNat) := fun wx hx => (hbs9.mono hx).ip8 (hbd9.mono hx)
      have hKeep2 : ∀ wx wy : World, Below w9.heap.size w9 wx → Below G wx wy → wy.cell? ⟨w.heap.size, 0, none⟩ = some (.int .u8 s.a.toNat) ∧ wy.cell? ⟨w.heap.size, 1, none⟩ = some (.int .u8 s.b.toNat) ∧ wy.cell? ⟨w.heap.size, 2, none⟩ = some (.int .u8 s.c.toNat) ∧ wy.cell? ⟨w.heap.size, 3, none⟩ = some (.int .u8 s.d.toNat) ∧
          wy.cell? ⟨w.heap.size + 1, 0, none⟩ = some (.int .u8 d.a.toNat) ∧ wy.cell? ⟨w.heap.size + 1, 1, none⟩ = some (.int .u8 d.b.toNat) ∧ wy.cell? ⟨w.heap.size + 1, 2, none⟩ = some (.int .u8 d.c.toNat) ∧ wy.cell? ⟨w.heap.size + 1, 3, none⟩ = some (.int .u8 d.d.toNat) := fun wx wy hx hy => ((hbs9.mono hx).keep hy (by omega)).ip8 ((hbd9.mono hx).keep hy (by omega))
      have HKeep := Lib.hid hKeep
      have HKeep2 := Lib.hid hKeep2
      clear hKeep hKeep2
      go_cut [] from 88 to 99 (fun wx => Ow wx w8.heap.size (.slice (some ⟨G, 0, none⟩) n cap) (segL g o b S) ∧ Below w.heap.size w wx)
      case first =>
        go_region_held3 (fun w' => w'.cell? ⟨w.heap.size, 0, none⟩ = some (.int .u8 s.a.toNat) ∧ w'.cell? ⟨w.heap.size, 1, none⟩ = some (.int .u8 s.b.toNat) ∧ w'.cell? ⟨w.heap.size, 2, none⟩ = some (.int .u8 s.c.toNat) ∧ w'.cell? ⟨w.heap.size, 3, none⟩ = some (.int .u8 s.d.toNat) ∧ w'.cell? ⟨w.heap.size + 1, 0, none⟩ = some (.int .u8 d.a.toNat) ∧ w'.cell? ⟨w.heap.size + 1, 1, none⟩ = some (.int .u8 d.b.toNat) ∧ w'.cell? ⟨w.heap.size + 1, 2, none⟩ = some (.int .u8 d.c.toNat) ∧ w'.cell? ⟨w.heap.size + 1, 3, none⟩ = some (.int .u8 d.d.toNat))
          ((first
            | go_keep
            | exact HKeep.out _ ((Below.refl w9.heap.size w9).drew.trans hb11)
            | exact HKeep.out _ (((Below.refl w9.heap.size w9).drew.trans hb11).alloc (by have := hb11.size; simp at this; omega) _)
            | exact HKeep.out _ (((Below.refl w9.heap.size w9).drew.trans hb11).trans (hb12.mono hb11.size))
            | exact HKeep2.out _ _ ((((Below.refl w9.heap.size w9).drew.trans hb11).trans (hb12.mono hb11.size)).trans (hb13.mono (by have := hb11.size; have := hb12.size; simp at *; omega))) hb14
            | exact HKeep.out _ ((((Below.refl w9.heap.size w9).drew.trans hb11).trans (hb12.mono hb11.size)).trans (hb13.mono (by have := hb11.size; have := hb12.size; simp at *; omega)))))
          ((first
          | (refine step_copyB rfl (.tmp 89) (.tmp 98) rfl ((((ho10.drew).mono hb11).mono hb12).mono hb13) ho13.rd rfl rfl hn20 (by show (p16 S).length ≤ n - 16; rw [p16_len]; omega) ?_; intro w14 ho14 hb14)
          | (have _g := hb12; refine step_call rfl rfl (enters_of Try.func52 (by kernel_rfl) rfl) (put16 _ [] S _ (Rd.nil _) (by simp)) rfl ?_; rintro e w13 ⟨v13, rfl, ho13, hb13⟩; refine ⟨_, rfl, ?_⟩)
          | (refine step_call rfl rfl (enters_of Try.func67 (by kernel_rfl) rfl) (two_sum s d n L S A11 c11 G cap Hn.out HSS.out hn1 ho11 ((ho10.drew).mono hb11)) rfl ?_; rintro e w12 ⟨rfl, hb12⟩; refine ⟨_, rfl, ?_⟩)
          | (refine step_call rfl rfl (enters_of Try.func68 (by kernel_rfl) rfl) (pseudo s d 6 n _) rfl ?_; rintro e w11 ⟨v11, rfl, ho11, hb11⟩; refine ⟨_, rfl, ?_⟩; obtain ⟨A11, c11, rfl, _, _⟩ := ho11.rd.form)))
        go_wp2_with fail
        go_meet
        have hB13 := ((((Below.refl w9.heap.size w9).drew.trans hb11).trans (hb12.mono hb11.size)).trans (hb13.mono (by have := hb11.size; have := hb12.size; simp at *; omega)))
        refine ⟨by rw [← HSP.out S, ← HL.out]; exact ho14, (below_step hB9 hB9.size hB13).trans (hb14.mono (by omega))⟩
      case rest =>
        obtain ⟨ho15, hB14⟩ := hcut
        clear a0 a1 a2 a3 b0 b1 b2 b3 ho10 hbs9 hbd9 HKeep HKeep2
        go_wp2
        go_ret2
        rw [← HL.out, ← HSS.out]
        exact ⟨_, rfl, ho15.less (by omega), hB14⟩
end Go.Proofs.Ytbhdojpgjmbogaa
