/- tcp.Decode, where a port is none, or the options are not right (no spans). -/
import Derived.Test.YtbhdojpgjmbogaaTDec2
namespace Go.Proofs.Ytbhdojpgjmbogaa
open Go.RowKit Go.Shelf
set_option maxRecDepth 100000 in
set_option maxHeartbeats 40000000 in
theorem tdec_port (s d : IP) (L : List UInt8) (v : Value) (w : World) (hr : Rd w v L) (hmax : L.length ≤ 140737488355000) (h20 : 20 ≤ L.length) (hd : Nat) (x : UInt8) (hx : L[12]'(by omega) = x) (hhd : hd = x.toNat / 16 * 4) (h1 : 20 ≤ hd) (h2 : hd ≤ L.length)
    (hsum : csum 6 s d L = 0) (h3 : L.length - hd ≤ 1024) (hf : be ((L.drop 0).take 2) = 0 ∨ be ((L.drop 2).take 2) = 0) : Calls Try.prog 44 #[s.v, d.v, v] w (ZEnd w 1) := by
  obtain ⟨A, c, rfl, hc1, hc2⟩ := hr.form
  obtain ⟨n, hn⟩ : ∃ n, n = L.length := ⟨_, rfl⟩
  obtain ⟨bb, oo, rfl, hbl, hcs⟩ := hr.at_ 0 (by omega)
  have d12 := hcs 12 (by omega)
  have d13 := hcs 13 (by omega)
  rw [hx] at d12
  obtain ⟨y, hy⟩ : ∃ y, y = L[13]'(by omega) := ⟨_, rfl⟩
  rw [← hy] at d13
  have hy2 : L.getD 13 0 = y := by rw [hy, List.getD_eq_getElem?_getD, List.getElem?_eq_getElem (by omega)]; rfl
  have Hy := Lib.hid hy2
  clear hy2 hy
  have HN := Lib.hid hn
  have HSUM := Lib.hid hsum
  have HHD := Lib.hid hhd
  rw [← hn] at hr hc1 hmax h20 h2 h3 ⊢
  have HF := Lib.hid hf
  have g1 : decide ((n : Int) < 20) = false := by simp; omega
  have i12 : (12 : Int) < (n : Int) := by omega
  have i13 : (13 : Int) < (n : Int) := by omega
  clear hcs hn hsum hf hx hhd
  have hxl := UInt8.toNat_lt x
  go_enter Try.func44, Try.ntmps44
  go_upto_region 1 with (fail)
  refine box5 (s := s) (d := d) (g := SG.zero) (motive := fun X => Code.wp Try.prog _ _ _ X) ?_
  intro X hB hX hbs hbd hz
  have hrX := hr.mono hB
  have e12 := (hB.cell (p := ⟨bb, oo + 12, none⟩) hbl).trans d12
  clear d12
  go_upto_region 4 with (fail)
  have hh : (x.toNat : Int) / 16 * 4 = (hd : Int) := by rw [HHD.out]; omega
  rw [hh]
  clear hh e12
  have gA : decide ((hd : Int) < 20) = false := by simp; omega
  have gA2 : decide (hd < 20) = false := by simp; omega
  have gB : decide (n < hd) = false := by simp; omega
  obtain ⟨a0, a1, a2, a3⟩ := hbs.ip4
  obtain ⟨b0, b1, b2, b3⟩ := hbd.ip4
  go_wp2_with fail
  refine (pseudo s d 6 n _).mono ?_
  rintro e w1 ⟨v1, rfl, ho1, hb1⟩
  obtain ⟨A1, c1, rfl, _, _⟩ := ho1.rd.form
  go_wp2_with fail
  refine (two_sumR s d n L A1 _ c1 c HN.out (by omega) ho1 (hrX.mono hb1)).mono ?_
  rintro e w2 ⟨rfl, hb2⟩
  rw [HSUM.out]
  have hB2 := below_step hB hB.size (below_step hb1 hb1.size hb2)
  have hz2 := (hz.mono hb1).mono hb2
  have z2 := (below_step hb1 hb1.size hb2).size
  have hr2 := (hrX.mono hb1).mono hb2
  have e13 := (hB2.cell (p := ⟨bb, oo + 13, none⟩) hbl).trans d13
  clear a0 a1 a2 a3 b0 b1 b2 b3 hbs hbd hb1 hb2 ho1 hz hrX hB d13
  have gC : decide ((1024 : Int) < (n : Int) - (hd : Int)) = false := by simp; omega
  go_upto_region 10 with (fail)
  have hy31 : bits .and .u8 (y.toNat : Int) 31 = (y.toNat : Int) % 32 := and31 y
  have hdn0 : (0 : Int) ≤ (hd : Int) := by omega
  have hdn : (hd : Int) ≤ (n : Int) := by omega
  have hdc : (hd : Int) ≤ (c : Int) := by omega
  have hw31 : IntKind.i64.wrap ((y.toNat : Int) % 32) = (y.toNat : Int) % 32 := by rw [IntKind.wrap_i64]; omega
  obtain ⟨q, hq⟩ : ∃ q : Int, q = (n : Int) - (hd : Int) := ⟨_, rfl⟩
  rw [← hq]
  clear hq gC
  go_cut [9] from 48 to 57 (fun v9 wx => DMid w2 ((y.toNat : Int) % 32) (L.drop hd) v9 wx)
  case first =>
    by_cases hcap : c = hd
    · obtain rfl : n = hd := by omega
      subst hcap
      have hrd : Rd w2 (.slice (some ⟨bb, oo, none⟩) 0 0) (L.drop c) := by
        have := hr2.dropAt c (by rw [← HN.out]; exact h2)
        simpa using this
      have hKeep : ∀ wx, Below w2.heap.size w2 wx → wx.cell? ⟨bb, oo + 13, none⟩ = some (.int .u8 (y.toNat : Int)) := fun wx h => (h.cell (p := ⟨bb, oo + 13, none⟩) (by show bb < w2.heap.size; omega)).trans e13
      have HK := Lib.hid hKeep
      clear hKeep
      have hne13 := World.new_ne w2 _ e13
      go_region_held3 (fun w' => w'.cell? ⟨bb, oo + 13, none⟩ = some (.int .u8 (y.toNat : Int)))
        ((first
          | go_keep
          | exact HK.out _ ((Below.refl w2.heap.size w2).drew.trans hb3)
          | exact HK.out _ (((Below.refl w2.heap.size w2).drew.trans hb3).alloc hb3.size _)
          | exact HK.out _ ((((Below.refl w2.heap.size w2).drew).alloc (Nat.le_refl _) _).trans (hb3.mono (by simp)))))
        ((first
          | (refine step_call rfl rfl (enters_of Try.func57 (by kernel_rfl) rfl) (clone_b _ (L.drop c) _ hrd.drew (by rw [List.length_drop]; omega)) rfl ?_; rintro e w3 ⟨v3, rfl, ho3, hb3⟩; refine ⟨_, rfl, ?_⟩; obtain ⟨A3, c3, rfl, _, _⟩ := ho3.rd.form)
          | (refine step_call rfl rfl (enters_of Try.func57 (by kernel_rfl) rfl) (clone_b _ (L.drop c) _ (hrd.drew.mono (below_alloc _ _)) (by rw [List.length_drop]; omega)) rfl ?_; rintro e w3 ⟨v3, rfl, ho3, hb3⟩; refine ⟨_, rfl, ?_⟩; obtain ⟨A3, c3, rfl, _, _⟩ := ho3.rd.form; have hN3 : Blk w3 w2.heap.size 67 SG.zero.cells := (Blk.new w2.drew 67 SG.zero.cells _ rfl).mono hb3; obtain ⟨k0, k1, k2, k3, k4, k5, k6, k7, k8, k9⟩ := hN3.sg; have f0 := hN3.free 0; have f1 := hN3.free 1; have f2 := hN3.free 2; have f3 := hN3.free 3; have f4 := hN3.free 4; have f5 := hN3.free 5; have f6 := hN3.free 6; have f7 := hN3.free 7; have f8 := hN3.free 8; have f9 := hN3.free 9)))
      all_goals (go_wp2_with fail; go_meet)
      · rw [List.length_drop] at ho3
        have hlt3 := fun g hg => owns_block_lt ho3 (g := g) hg
        refine ⟨w3.heap.size, .slice A3 (L.length - c) c3, rfl, hb3.size, Blk.new _ _ _ _ rfl, (ho3.mono (below_alloc _ _)).less (Nat.le_refl _), fun k hk => ?_, ((Below.refl w2.heap.size w2).drew.trans hb3).alloc hb3.size _⟩
        have := (hlt3 k hk).2
        omega
      · rw [List.length_drop] at ho3
        obtain ⟨t1, t2, t3⟩ := seg_ten hN3 (.int .i64 0) (.int .i64 0) (.int .u32 0) (.int .u32 0) (.int .i64 ((y.toNat : Int) % 32)) (.int .i64 0) (.int .i64 0) (.bool false) noS (.slice A3 (L.length - c) c3)
        have hlt3 := fun g hg => owns_block_lt ho3 (g := g) hg
        have hz3 : w2.heap.size + 1 ≤ ((w2.drew).alloc (.cells SG.zero.cells 67)).heap.size := by simp
        have hB3 := (((Below.refl w2.heap.size w2).drew).alloc (Nat.le_refl _) (.cells SG.zero.cells 67)).trans (hb3.mono (Nat.le_trans (Nat.le_succ _) hz3))
        refine ⟨w2.heap.size, .slice A3 (L.length - c) c3, rfl, Nat.le_refl _, t1, owns_same (ho3.less (Nat.le_trans (Nat.le_succ _) hz3)) fun k hk => t2 k ?_, fun k hk => ?_, t3 _ _ hB3 (Nat.le_refl _)⟩
        · have := Nat.le_trans hz3 (hlt3 k hk).1
          omega
        · have := Nat.le_trans hz3 (hlt3 k hk).1
          omega
    · have hrd : Rd w2 (.slice (some ⟨bb, oo + hd, none⟩) (n - hd) (c - hd)) (L.drop hd) := by
        have := hr2.dropAt hd (by rw [← HN.out]; exact h2)
        simpa [hcap, Addr.add_lit, ← HN.out] using this
      have hKeep : ∀ wx, Below w2.heap.size w2 wx → wx.cell? ⟨bb, oo + 13, none⟩ = some (.int .u8 (y.toNat : Int)) := fun wx h => (h.cell (p := ⟨bb, oo + 13, none⟩) (by show bb < w2.heap.size; omega)).trans e13
      have HK := Lib.hid hKeep
      clear hKeep
      have hne13 := World.new_ne w2 _ e13
      go_region_held3 (fun w' => w'.cell? ⟨bb, oo + 13, none⟩ = some (.int .u8 (y.toNat : Int)))
        ((first
          | go_keep
          | exact HK.out _ ((Below.refl w2.heap.size w2).drew.trans hb3)
          | exact HK.out _ (((Below.refl w2.heap.size w2).drew.trans hb3).alloc hb3.size _)
          | exact HK.out _ ((((Below.refl w2.heap.size w2).drew).alloc (Nat.le_refl _) _).trans (hb3.mono (by simp)))))
        ((first
          | (refine step_call rfl rfl (enters_of Try.func57 (by kernel_rfl) rfl) (clone_b _ (L.drop hd) _ hrd.drew (by rw [List.length_drop]; omega)) rfl ?_; rintro e w3 ⟨v3, rfl, ho3, hb3⟩; refine ⟨_, rfl, ?_⟩; obtain ⟨A3, c3, rfl, _, _⟩ := ho3.rd.form)
          | (refine step_call rfl rfl (enters_of Try.func57 (by kernel_rfl) rfl) (clone_b _ (L.drop hd) _ (hrd.drew.mono (below_alloc _ _)) (by rw [List.length_drop]; omega)) rfl ?_; rintro e w3 ⟨v3, rfl, ho3, hb3⟩; refine ⟨_, rfl, ?_⟩; obtain ⟨A3, c3, rfl, _, _⟩ := ho3.rd.form; have hN3 : Blk w3 w2.heap.size 67 SG.zero.cells := (Blk.new w2.drew 67 SG.zero.cells _ rfl).mono hb3; obtain ⟨k0, k1, k2, k3, k4, k5, k6, k7, k8, k9⟩ := hN3.sg; have f0 := hN3.free 0; have f1 := hN3.free 1; have f2 := hN3.free 2; have f3 := hN3.free 3; have f4 := hN3.free 4; have f5 := hN3.free 5; have f6 := hN3.free 6; have f7 := hN3.free 7; have f8 := hN3.free 8; have f9 := hN3.free 9)))
      all_goals (go_wp2_with fail; go_meet)
      · rw [List.length_drop] at ho3
        have hlt3 := fun g hg => owns_block_lt ho3 (g := g) hg
        refine ⟨w3.heap.size, .slice A3 (L.length - hd) c3, rfl, hb3.size, Blk.new _ _ _ _ rfl, (ho3.mono (below_alloc _ _)).less (Nat.le_refl _), fun k hk => ?_, ((Below.refl w2.heap.size w2).drew.trans hb3).alloc hb3.size _⟩
        have := (hlt3 k hk).2
        omega
      · rw [List.length_drop] at ho3
        obtain ⟨t1, t2, t3⟩ := seg_ten hN3 (.int .i64 0) (.int .i64 0) (.int .u32 0) (.int .u32 0) (.int .i64 ((y.toNat : Int) % 32)) (.int .i64 0) (.int .i64 0) (.bool false) noS (.slice A3 (L.length - hd) c3)
        have hlt3 := fun g hg => owns_block_lt ho3 (g := g) hg
        have hz3 : w2.heap.size + 1 ≤ ((w2.drew).alloc (.cells SG.zero.cells 67)).heap.size := by simp
        have hB3 := (((Below.refl w2.heap.size w2).drew).alloc (Nat.le_refl _) (.cells SG.zero.cells 67)).trans (hb3.mono (Nat.le_trans (Nat.le_succ _) hz3))
        refine ⟨w2.heap.size, .slice A3 (L.length - hd) c3, rfl, Nat.le_refl _, t1, owns_same (ho3.less (Nat.le_trans (Nat.le_succ _) hz3)) fun k hk => t2 k ?_, fun k hk => ?_, t3 _ _ hB3 (Nat.le_refl _)⟩
        · have := Nat.le_trans hz3 (hlt3 k hk).1
          omega
        · have := Nat.le_trans hz3 (hlt3 k hk).1
          omega
  case rest =>
    obtain ⟨g, vd, rfl, hg, hsg, hod, hgd, hB3⟩ := hcut
    have HZ := Lib.hid hz2
    clear e13 hz2
    obtain ⟨Ad, cd, hvd, _, _⟩ := hod.rd.form
    obtain ⟨dl, hdl⟩ : ∃ dl, dl = (L.drop hd).length := ⟨_, rfl⟩
    rw [← hdl] at hvd
    subst hvd
    clear hdl
    obtain ⟨s0, hs0⟩ : ∃ s0 : SG, s0 = ⟨0, 0, 0, 0, (y.toNat : Int) % 32, 0, 0, false, noS, .slice Ad dl cd⟩ := ⟨_, rfl⟩
    rw [← hs0] at hsg
    obtain ⟨w3, hw3⟩ : ∃ w3, w3 = wc := ⟨_, rfl⟩
    rw [← hw3] at hsg hod hB3 ⊢
    clear hw3
    have e0 := (hsg.sg).1
    have f0 := hsg.free 0
    go_wp2_with fail
    refine (at16 _ L 0 _ (hr2.mono hB3) (by omega) (by rw [← HN.out]; omega)).mono ?_
    rintro e w' ⟨rfl, rfl⟩
    obtain ⟨F0, hF0⟩ : ∃ F, F = be ((L.drop (0 : Int).toNat).take 2) := ⟨_, rfl⟩
    rw [← hF0]
    have HF0 := Lib.hid hF0
    clear hF0
    have hs0' : Blk (w3.setCell ⟨g, 0, none⟩ (.int .i64 F0)) g 67 (SG.cells { s0 with fr := F0 }) := by simpa using hsg.set 0 (.int .i64 F0)
    have hB0' := hB3.setCell (p := ⟨g, 0, none⟩) hg (.int .i64 F0)
    obtain ⟨s1, hs0e⟩ : ∃ t : SG, t = { s0 with fr := F0 } := ⟨_, rfl⟩
    rw [← hs0e] at hs0'
    have e1 := (hs0'.sg).2.1
    have f1 := hs0'.free 1
    go_wp2_with fail
    refine (at16 _ L 2 _ (hr2.mono hB0') (by omega) (by rw [← HN.out]; omega)).mono ?_
    rintro e w' ⟨rfl, rfl⟩
    obtain ⟨F1, hF1⟩ : ∃ F, F = be ((L.drop (2 : Int).toNat).take 2) := ⟨_, rfl⟩
    rw [← hF1]
    have HF1 := Lib.hid hF1
    clear hF1
    have hs1' : Blk ((w3.setCell ⟨g, 0, none⟩ (.int .i64 F0)).setCell ⟨g, 1, none⟩ (.int .i64 F1)) g 67 (SG.cells { s1 with too := F1 }) := by simpa using hs0'.set 1 (.int .i64 F1)
    have hB1' := hB0'.setCell (p := ⟨g, 1, none⟩) hg (.int .i64 F1)
    obtain ⟨s2, hs1e⟩ : ∃ t : SG, t = { s1 with too := F1 } := ⟨_, rfl⟩
    rw [← hs1e] at hs1'
    have e2 := (hs1'.sg).2.2.1
    have f2 := hs1'.free 2
    go_wp2_with fail
    refine (at32 _ L 4 _ (hr2.mono hB1') (by omega) (by rw [← HN.out]; omega)).mono ?_
    rintro e w' ⟨rfl, rfl⟩
    obtain ⟨F2, hF2⟩ : ∃ F, F = be ((L.drop (4 : Int).toNat).take 4) := ⟨_, rfl⟩
    rw [← hF2]
    have HF2 := Lib.hid hF2
    clear hF2
    have hs2' : Blk (((w3.setCell ⟨g, 0, none⟩ (.int .i64 F0)).setCell ⟨g, 1, none⟩ (.int .i64 F1)).setCell ⟨g, 2, none⟩ (.int .u32 F2)) g 67 (SG.cells { s2 with sq := F2 }) := by simpa using hs1'.set 2 (.int .u32 F2)
    have hB2' := hB1'.setCell (p := ⟨g, 2, none⟩) hg (.int .u32 F2)
    obtain ⟨s3, hs2e⟩ : ∃ t : SG, t = { s2 with sq := F2 } := ⟨_, rfl⟩
    rw [← hs2e] at hs2'
    have e3 := (hs2'.sg).2.2.2.1
    have f3 := hs2'.free 3
    go_wp2_with fail
    refine (at32 _ L 8 _ (hr2.mono hB2') (by omega) (by rw [← HN.out]; omega)).mono ?_
    rintro e w' ⟨rfl, rfl⟩
    obtain ⟨F3, hF3⟩ : ∃ F, F = be ((L.drop (8 : Int).toNat).take 4) := ⟨_, rfl⟩
    rw [← hF3]
    have HF3 := Lib.hid hF3
    clear hF3
    have hs3' : Blk ((((w3.setCell ⟨g, 0, none⟩ (.int .i64 F0)).setCell ⟨g, 1, none⟩ (.int .i64 F1)).setCell ⟨g, 2, none⟩ (.int .u32 F2)).setCell ⟨g, 3, none⟩ (.int .u32 F3)) g 67 (SG.cells { s3 with ak := F3 }) := by simpa using hs2'.set 3 (.int .u32 F3)
    have hB3' := hB2'.setCell (p := ⟨g, 3, none⟩) hg (.int .u32 F3)
    obtain ⟨s4, hs3e⟩ : ∃ t : SG, t = { s3 with ak := F3 } := ⟨_, rfl⟩
    rw [← hs3e] at hs3'
    have e4 := (hs3'.sg).2.2.2.2.2.1
    have f4 := hs3'.free 5
    go_wp2_with fail
    refine (at16 _ L 14 _ (hr2.mono hB3') (by omega) (by rw [← HN.out]; omega)).mono ?_
    rintro e w' ⟨rfl, rfl⟩
    obtain ⟨F4, hF4⟩ : ∃ F, F = be ((L.drop (14 : Int).toNat).take 2) := ⟨_, rfl⟩
    rw [← hF4]
    have HF4 := Lib.hid hF4
    clear hF4
    have hs4' : Blk (((((w3.setCell ⟨g, 0, none⟩ (.int .i64 F0)).setCell ⟨g, 1, none⟩ (.int .i64 F1)).setCell ⟨g, 2, none⟩ (.int .u32 F2)).setCell ⟨g, 3, none⟩ (.int .u32 F3)).setCell ⟨g, 5, none⟩ (.int .i64 F4)) g 67 (SG.cells { s4 with wn := F4 }) := by simpa using hs3'.set 5 (.int .i64 F4)
    have hB4' := hB3'.setCell (p := ⟨g, 5, none⟩) hg (.int .i64 F4)
    obtain ⟨s5, hs4e⟩ : ∃ t : SG, t = { s4 with wn := F4 } := ⟨_, rfl⟩
    rw [← hs4e] at hs4'
    subst hs4e hs3e hs2e hs1e hs0e hs0
    have e6 := hs4'.sg.1
    have e7 := hs4'.sg.2.1
    go_upto_region 16 with (fail)
    obtain ⟨W5, hW5⟩ : ∃ W, W = (((((w3.setCell ⟨g, 0, none⟩ (.int .i64 F0)).setCell ⟨g, 1, none⟩ (.int .i64 F1)).setCell ⟨g, 2, none⟩ (.int .u32 F2)).setCell ⟨g, 3, none⟩ (.int .u32 F3)).setCell ⟨g, 5, none⟩ (.int .i64 F4)) := ⟨_, rfl⟩
    have how : Ow W5 w2.heap.size (.slice Ad dl cd) (L.drop hd) := owns_same hod fun k hk => by
      have hne := hgd k hk
      have e : ∀ (w : World) (o : Nat) (u : Value), (w.setCell ⟨g, o, none⟩ u).heap[k]? = w.heap[k]? := fun w o u => Below.heap_setCell w ⟨g, o, none⟩ u k hne
      rw [hW5, e, e, e, e, e]
    rw [← hW5] at hs4' hB4' e6 e7 ⊢
    clear hW5 hs0' hs1' hs2' hs3' hB0' hB1' hB2' hB3' e0 e1 e2 e3 e4 f0 f1 f2 f3 f4 hsg hod hB3
    have z5 := hB4'.size
    have hz6 : Blk W5 (w.heap.size + 1 + 1) 67 SG.zero.cells := HZ.out.keep hB4' HZ.out.lt
    have hB6 := below_step hB2 hB2.size hB4'
    have hF := HF.out
    have k0 : F0 = be ((L.drop 0).take 2) := HF0.out
    have k1 : F1 = be ((L.drop 2).take 2) := HF1.out
    rw [← k0, ← k1] at hF
    clear how hs4' HF k0 k1
    by_cases hF0z : F0 = 0
    · have gF : (F0 == 0) = true := by simpa using hF0z
      clear hF hF0z
      go_wp2_with (refine wpList_storeB rfl 67 (.tmp 6) (.tmp 97) rfl rfl hz6 SG.zero.cells rfl rfl SG.info rfl (SG.one (s := SG.zero) rfl rfl) ?_)
      (try simp only [Exit.inBlock, Exit.then])
      have hz7 := (heap_setRow (cells := SG.zero.cells) hz6).1
      refine bodyPost_ret (by exact ret_seg rfl _ _ rfl hz7 rfl) (by rfl) ?_
      exact ⟨rfl, below_setRow hB6 hz6 (by omega)⟩
    · have gF : (F0 == 0) = false := by simpa using hF0z
      have gT : (F1 == 0) = true := by
        rcases hF with hF | hF
        · exact absurd hF hF0z
        · simpa using hF
      clear hF hF0z
      go_wp2_with (refine wpList_storeB rfl 67 (.tmp 6) (.tmp 97) rfl rfl hz6 SG.zero.cells rfl rfl SG.info rfl (SG.one (s := SG.zero) rfl rfl) ?_)
      (try simp only [Exit.inBlock, Exit.then])
      have hz7 := (heap_setRow (cells := SG.zero.cells) hz6).1
      refine bodyPost_ret (by exact ret_seg rfl _ _ rfl hz7 rfl) (by rfl) ?_
      exact ⟨rfl, below_setRow hB6 hz6 (by omega)⟩
set_option maxRecDepth 100000 in
set_option maxHeartbeats 40000000 in
theorem tdec_opts (s d : IP) (L : List UInt8) (v : Value) (w : World) (hr : Rd w v L) (hmax : L.length ≤ 140737488355000) (h20 : 20 ≤ L.length) (hd : Nat) (x : UInt8) (hx : L[12]'(by omega) = x) (hhd : hd = x.toNat / 16 * 4) (h1 : 20 ≤ hd) (h2 : hd ≤ L.length)
    (hsum : csum 6 s d L = 0) (h3 : L.length - hd ≤ 1024) (hf : be ((L.drop 0).take 2) ≠ 0) (ht : be ((L.drop 2).take 2) ≠ 0) (syn : Bool) (hsyn : ((L.getD 13 0).toNat : Int) % 32 / 2 % 2 = if syn then 1 else 0)
    (hopt : (rdAll syn ⟨0, false, []⟩ (optsOf ((L.take hd).drop 20))).1 = false) : Calls Try.prog 44 #[s.v, d.v, v] w (ZEnd w 140) := by
  obtain ⟨A, c, rfl, hc1, hc2⟩ := hr.form
  obtain ⟨n, hn⟩ : ∃ n, n = L.length := ⟨_, rfl⟩
  obtain ⟨bb, oo, rfl, hbl, hcs⟩ := hr.at_ 0 (by omega)
  have d12 := hcs 12 (by omega)
  have d13 := hcs 13 (by omega)
  rw [hx] at d12
  obtain ⟨y, hy⟩ : ∃ y, y = L[13]'(by omega) := ⟨_, rfl⟩
  rw [← hy] at d13
  have hy2 : L.getD 13 0 = y := by rw [hy, List.getD_eq_getElem?_getD, List.getElem?_eq_getElem (by omega)]; rfl
  have Hy := Lib.hid hy2
  clear hy2 hy
  have HN := Lib.hid hn
  have HSUM := Lib.hid hsum
  have HHD := Lib.hid hhd
  rw [← hn] at hr hc1 hmax h20 h2 h3 ⊢
  have HOPT := Lib.hid hopt
  have HF := Lib.hid hf
  have HT := Lib.hid ht
  have HSYN := Lib.hid hsyn
  have g1 : decide ((n : Int) < 20) = false := by simp; omega
  have i12 : (12 : Int) < (n : Int) := by omega
  have i13 : (13 : Int) < (n : Int) := by omega
  clear hcs hn hsum hopt hf ht hsyn hx hhd
  have hxl := UInt8.toNat_lt x
  go_enter Try.func44, Try.ntmps44
  go_upto_region 1 with (fail)
  refine box5 (s := s) (d := d) (g := SG.zero) (motive := fun X => Code.wp Try.prog _ _ _ X) ?_
  intro X hB hX hbs hbd hz
  have hrX := hr.mono hB
  have e12 := (hB.cell (p := ⟨bb, oo + 12, none⟩) hbl).trans d12
  clear d12
  go_upto_region 4 with (fail)
  have hh : (x.toNat : Int) / 16 * 4 = (hd : Int) := by rw [HHD.out]; omega
  rw [hh]
  clear hh e12
  have gA : decide ((hd : Int) < 20) = false := by simp; omega
  have gA2 : decide (hd < 20) = false := by simp; omega
  have gB : decide (n < hd) = false := by simp; omega
  obtain ⟨a0, a1, a2, a3⟩ := hbs.ip4
  obtain ⟨b0, b1, b2, b3⟩ := hbd.ip4
  go_wp2_with fail
  refine (pseudo s d 6 n _).mono ?_
  rintro e w1 ⟨v1, rfl, ho1, hb1⟩
  obtain ⟨A1, c1, rfl, _, _⟩ := ho1.rd.form
  go_wp2_with fail
  refine (two_sumR s d n L A1 _ c1 c HN.out (by omega) ho1 (hrX.mono hb1)).mono ?_
  rintro e w2 ⟨rfl, hb2⟩
  rw [HSUM.out]
  have hB2 := below_step hB hB.size (below_step hb1 hb1.size hb2)
  have hz2 := (hz.mono hb1).mono hb2
  have z2 := (below_step hb1 hb1.size hb2).size
  have hr2 := (hrX.mono hb1).mono hb2
  have e13 := (hB2.cell (p := ⟨bb, oo + 13, none⟩) hbl).trans d13
  clear a0 a1 a2 a3 b0 b1 b2 b3 hbs hbd hb1 hb2 ho1 hz hrX hB d13
  have gC : decide ((1024 : Int) < (n : Int) - (hd : Int)) = false := by simp; omega
  go_upto_region 10 with (fail)
  have hy31 : bits .and .u8 (y.toNat : Int) 31 = (y.toNat : Int) % 32 := and31 y
  have hdn0 : (0 : Int) ≤ (hd : Int) := by omega
  have hdn : (hd : Int) ≤ (n : Int) := by omega
  have hdc : (hd : Int) ≤ (c : Int) := by omega
  have hw31 : IntKind.i64.wrap ((y.toNat : Int) % 32) = (y.toNat : Int) % 32 := by rw [IntKind.wrap_i64]; omega
  obtain ⟨q, hq⟩ : ∃ q : Int, q = (n : Int) - (hd : Int) := ⟨_, rfl⟩
  rw [← hq]
  clear hq gC
  go_cut [9] from 48 to 57 (fun v9 wx => DMid w2 ((y.toNat : Int) % 32) (L.drop hd) v9 wx)
  case first =>
    by_cases hcap : c = hd
    · obtain rfl : n = hd := by omega
      subst hcap
      have hrd : Rd w2 (.slice (some ⟨bb, oo, none⟩) 0 0) (L.drop c) := by
        have := hr2.dropAt c (by rw [← HN.out]; exact h2)
        simpa using this
      have hKeep : ∀ wx, Below w2.heap.size w2 wx → wx.cell? ⟨bb, oo + 13, none⟩ = some (.int .u8 (y.toNat : Int)) := fun wx h => (h.cell (p := ⟨bb, oo + 13, none⟩) (by show bb < w2.heap.size; omega)).trans e13
      have HK := Lib.hid hKeep
      clear hKeep
      have hne13 := World.new_ne w2 _ e13
      go_region_held3 (fun w' => w'.cell? ⟨bb, oo + 13, none⟩ = some (.int .u8 (y.toNat : Int)))
        ((first
          | go_keep
          | exact HK.out _ ((Below.refl w2.heap.size w2).drew.trans hb3)
          | exact HK.out _ (((Below.refl w2.heap.size w2).drew.trans hb3).alloc hb3.size _)
          | exact HK.out _ ((((Below.refl w2.heap.size w2).drew).alloc (Nat.le_refl _) _).trans (hb3.mono (by simp)))))
        ((first
          | (refine step_call rfl rfl (enters_of Try.func57 (by kernel_rfl) rfl) (clone_b _ (L.drop c) _ hrd.drew (by rw [List.length_drop]; omega)) rfl ?_; rintro e w3 ⟨v3, rfl, ho3, hb3⟩; refine ⟨_, rfl, ?_⟩; obtain ⟨A3, c3, rfl, _, _⟩ := ho3.rd.form)
          | (refine step_call rfl rfl (enters_of Try.func57 (by kernel_rfl) rfl) (clone_b _ (L.drop c) _ (hrd.drew.mono (below_alloc _ _)) (by rw [List.length_drop]; omega)) rfl ?_; rintro e w3 ⟨v3, rfl, ho3, hb3⟩; refine ⟨_, rfl, ?_⟩; obtain ⟨A3, c3, rfl, _, _⟩ := ho3.rd.form; have hN3 : Blk w3 w2.heap.size 67 SG.zero.cells := (Blk.new w2.drew 67 SG.zero.cells _ rfl).mono hb3; obtain ⟨k0, k1, k2, k3, k4, k5, k6, k7, k8, k9⟩ := hN3.sg; have f0 := hN3.free 0; have f1 := hN3.free 1; have f2 := hN3.free 2; have f3 := hN3.free 3; have f4 := hN3.free 4; have f5 := hN3.free 5; have f6 := hN3.free 6; have f7 := hN3.free 7; have f8 := hN3.free 8; have f9 := hN3.free 9)))
      all_goals (go_wp2_with fail; go_meet)
      · rw [List.length_drop] at ho3
        have hlt3 := fun g hg => owns_block_lt ho3 (g := g) hg
        refine ⟨w3.heap.size, .slice A3 (L.length - c) c3, rfl, hb3.size, Blk.new _ _ _ _ rfl, (ho3.mono (below_alloc _ _)).less (Nat.le_refl _), fun k hk => ?_, ((Below.refl w2.heap.size w2).drew.trans hb3).alloc hb3.size _⟩
        have := (hlt3 k hk).2
        omega
      · rw [List.length_drop] at ho3
        obtain ⟨t1, t2, t3⟩ := seg_ten hN3 (.int .i64 0) (.int .i64 0) (.int .u32 0) (.int .u32 0) (.int .i64 ((y.toNat : Int) % 32)) (.int .i64 0) (.int .i64 0) (.bool false) noS (.slice A3 (L.length - c) c3)
        have hlt3 := fun g hg => owns_block_lt ho3 (g := g) hg
        have hz3 : w2.heap.size + 1 ≤ ((w2.drew).alloc (.cells SG.zero.cells 67)).heap.size := by simp
        have hB3 := (((Below.refl w2.heap.size w2).drew).alloc (Nat.le_refl _) (.cells SG.zero.cells 67)).trans (hb3.mono (Nat.le_trans (Nat.le_succ _) hz3))
        refine ⟨w2.heap.size, .slice A3 (L.length - c) c3, rfl, Nat.le_refl _, t1, owns_same (ho3.less (Nat.le_trans (Nat.le_succ _) hz3)) fun k hk => t2 k ?_, fun k hk => ?_, t3 _ _ hB3 (Nat.le_refl _)⟩
        · have := Nat.le_trans hz3 (hlt3 k hk).1
          omega
        · have := Nat.le_trans hz3 (hlt3 k hk).1
          omega
    · have hrd : Rd w2 (.slice (some ⟨bb, oo + hd, none⟩) (n - hd) (c - hd)) (L.drop hd) := by
        have := hr2.dropAt hd (by rw [← HN.out]; exact h2)
        simpa [hcap, Addr.add_lit, ← HN.out] using this
      have hKeep : ∀ wx, Below w2.heap.size w2 wx → wx.cell? ⟨bb, oo + 13, none⟩ = some (.int .u8 (y.toNat : Int)) := fun wx h => (h.cell (p := ⟨bb, oo + 13, none⟩) (by show bb < w2.heap.size; omega)).trans e13
      have HK := Lib.hid hKeep
      clear hKeep
      have hne13 := World.new_ne w2 _ e13
      go_region_held3 (fun w' => w'.cell? ⟨bb, oo + 13, none⟩ = some (.int .u8 (y.toNat : Int)))
        ((first
          | go_keep
          | exact HK.out _ ((Below.refl w2.heap.size w2).drew.trans hb3)
          | exact HK.out _ (((Below.refl w2.heap.size w2).drew.trans hb3).alloc hb3.size _)
          | exact HK.out _ ((((Below.refl w2.heap.size w2).drew).alloc (Nat.le_refl _) _).trans (hb3.mono (by simp)))))
        ((first
          | (refine step_call rfl rfl (enters_of Try.func57 (by kernel_rfl) rfl) (clone_b _ (L.drop hd) _ hrd.drew (by rw [List.length_drop]; omega)) rfl ?_; rintro e w3 ⟨v3, rfl, ho3, hb3⟩; refine ⟨_, rfl, ?_⟩; obtain ⟨A3, c3, rfl, _, _⟩ := ho3.rd.form)
          | (refine step_call rfl rfl (enters_of Try.func57 (by kernel_rfl) rfl) (clone_b _ (L.drop hd) _ (hrd.drew.mono (below_alloc _ _)) (by rw [List.length_drop]; omega)) rfl ?_; rintro e w3 ⟨v3, rfl, ho3, hb3⟩; refine ⟨_, rfl, ?_⟩; obtain ⟨A3, c3, rfl, _, _⟩ := ho3.rd.form; have hN3 : Blk w3 w2.heap.size 67 SG.zero.cells := (Blk.new w2.drew 67 SG.zero.cells _ rfl).mono hb3; obtain ⟨k0, k1, k2, k3, k4, k5, k6, k7, k8, k9⟩ := hN3.sg; have f0 := hN3.free 0; have f1 := hN3.free 1; have f2 := hN3.free 2; have f3 := hN3.free 3; have f4 := hN3.free 4; have f5 := hN3.free 5; have f6 := hN3.free 6; have f7 := hN3.free 7; have f8 := hN3.free 8; have f9 := hN3.free 9)))
      all_goals (go_wp2_with fail; go_meet)
      · rw [List.length_drop] at ho3
        have hlt3 := fun g hg => owns_block_lt ho3 (g := g) hg
        refine ⟨w3.heap.size, .slice A3 (L.length - hd) c3, rfl, hb3.size, Blk.new _ _ _ _ rfl, (ho3.mono (below_alloc _ _)).less (Nat.le_refl _), fun k hk => ?_, ((Below.refl w2.heap.size w2).drew.trans hb3).alloc hb3.size _⟩
        have := (hlt3 k hk).2
        omega
      · rw [List.length_drop] at ho3
        obtain ⟨t1, t2, t3⟩ := seg_ten hN3 (.int .i64 0) (.int .i64 0) (.int .u32 0) (.int .u32 0) (.int .i64 ((y.toNat : Int) % 32)) (.int .i64 0) (.int .i64 0) (.bool false) noS (.slice A3 (L.length - hd) c3)
        have hlt3 := fun g hg => owns_block_lt ho3 (g := g) hg
        have hz3 : w2.heap.size + 1 ≤ ((w2.drew).alloc (.cells SG.zero.cells 67)).heap.size := by simp
        have hB3 := (((Below.refl w2.heap.size w2).drew).alloc (Nat.le_refl _) (.cells SG.zero.cells 67)).trans (hb3.mono (Nat.le_trans (Nat.le_succ _) hz3))
        refine ⟨w2.heap.size, .slice A3 (L.length - hd) c3, rfl, Nat.le_refl _, t1, owns_same (ho3.less (Nat.le_trans (Nat.le_succ _) hz3)) fun k hk => t2 k ?_, fun k hk => ?_, t3 _ _ hB3 (Nat.le_refl _)⟩
        · have := Nat.le_trans hz3 (hlt3 k hk).1
          omega
        · have := Nat.le_trans hz3 (hlt3 k hk).1
          omega
  case rest =>
    obtain ⟨g, vd, rfl, hg, hsg, hod, hgd, hB3⟩ := hcut
    have HZ := Lib.hid hz2
    clear e13 hz2
    obtain ⟨Ad, cd, hvd, _, _⟩ := hod.rd.form
    obtain ⟨dl, hdl⟩ : ∃ dl, dl = (L.drop hd).length := ⟨_, rfl⟩
    rw [← hdl] at hvd
    subst hvd
    clear hdl
    obtain ⟨s0, hs0⟩ : ∃ s0 : SG, s0 = ⟨0, 0, 0, 0, (y.toNat : Int) % 32, 0, 0, false, noS, .slice Ad dl cd⟩ := ⟨_, rfl⟩
    rw [← hs0] at hsg
    obtain ⟨w3, hw3⟩ : ∃ w3, w3 = wc := ⟨_, rfl⟩
    rw [← hw3] at hsg hod hB3 ⊢
    clear hw3
    have e0 := (hsg.sg).1
    have f0 := hsg.free 0
    go_wp2_with fail
    refine (at16 _ L 0 _ (hr2.mono hB3) (by omega) (by rw [← HN.out]; omega)).mono ?_
    rintro e w' ⟨rfl, rfl⟩
    obtain ⟨F0, hF0⟩ : ∃ F, F = be ((L.drop (0 : Int).toNat).take 2) := ⟨_, rfl⟩
    rw [← hF0]
    have HF0 := Lib.hid hF0
    clear hF0
    have hs0' : Blk (w3.setCell ⟨g, 0, none⟩ (.int .i64 F0)) g 67 (SG.cells { s0 with fr := F0 }) := by simpa using hsg.set 0 (.int .i64 F0)
    have hB0' := hB3.setCell (p := ⟨g, 0, none⟩) hg (.int .i64 F0)
    obtain ⟨s1, hs0e⟩ : ∃ t : SG, t = { s0 with fr := F0 } := ⟨_, rfl⟩
    rw [← hs0e] at hs0'
    have e1 := (hs0'.sg).2.1
    have f1 := hs0'.free 1
    go_wp2_with fail
    refine (at16 _ L 2 _ (hr2.mono hB0') (by omega) (by rw [← HN.out]; omega)).mono ?_
    rintro e w' ⟨rfl, rfl⟩
    obtain ⟨F1, hF1⟩ : ∃ F, F = be ((L.drop (2 : Int).toNat).take 2) := ⟨_, rfl⟩
    rw [← hF1]
    have HF1 := Lib.hid hF1
    clear hF1
    have hs1' : Blk ((w3.setCell ⟨g, 0, none⟩ (.int .i64 F0)).setCell ⟨g, 1, none⟩ (.int .i64 F1)) g 67 (SG.cells { s1 with too := F1 }) := by simpa using hs0'.set 1 (.int .i64 F1)
    have hB1' := hB0'.setCell (p := ⟨g, 1, none⟩) hg (.int .i64 F1)
    obtain ⟨s2, hs1e⟩ : ∃ t : SG, t = { s1 with too := F1 } := ⟨_, rfl⟩
    rw [← hs1e] at hs1'
    have e2 := (hs1'.sg).2.2.1
    have f2 := hs1'.free 2
    go_wp2_with fail
    refine (at32 _ L 4 _ (hr2.mono hB1') (by omega) (by rw [← HN.out]; omega)).mono ?_
    rintro e w' ⟨rfl, rfl⟩
    obtain ⟨F2, hF2⟩ : ∃ F, F = be ((L.drop (4 : Int).toNat).take 4) := ⟨_, rfl⟩
    rw [← hF2]
    have HF2 := Lib.hid hF2
    clear hF2
    have hs2' : Blk (((w3.setCell ⟨g, 0, none⟩ (.int .i64 F0)).setCell ⟨g, 1, none⟩ (.int .i64 F1)).setCell ⟨g, 2, none⟩ (.int .u32 F2)) g 67 (SG.cells { s2 with sq := F2 }) := by simpa using hs1'.set 2 (.int .u32 F2)
    have hB2' := hB1'.setCell (p := ⟨g, 2, none⟩) hg (.int .u32 F2)
    obtain ⟨s3, hs2e⟩ : ∃ t : SG, t = { s2 with sq := F2 } := ⟨_, rfl⟩
    rw [← hs2e] at hs2'
    have e3 := (hs2'.sg).2.2.2.1
    have f3 := hs2'.free 3
    go_wp2_with fail
    refine (at32 _ L 8 _ (hr2.mono hB2') (by omega) (by rw [← HN.out]; omega)).mono ?_
    rintro e w' ⟨rfl, rfl⟩
    obtain ⟨F3, hF3⟩ : ∃ F, F = be ((L.drop (8 : Int).toNat).take 4) := ⟨_, rfl⟩
    rw [← hF3]
    have HF3 := Lib.hid hF3
    clear hF3
    have hs3' : Blk ((((w3.setCell ⟨g, 0, none⟩ (.int .i64 F0)).setCell ⟨g, 1, none⟩ (.int .i64 F1)).setCell ⟨g, 2, none⟩ (.int .u32 F2)).setCell ⟨g, 3, none⟩ (.int .u32 F3)) g 67 (SG.cells { s3 with ak := F3 }) := by simpa using hs2'.set 3 (.int .u32 F3)
    have hB3' := hB2'.setCell (p := ⟨g, 3, none⟩) hg (.int .u32 F3)
    obtain ⟨s4, hs3e⟩ : ∃ t : SG, t = { s3 with ak := F3 } := ⟨_, rfl⟩
    rw [← hs3e] at hs3'
    have e4 := (hs3'.sg).2.2.2.2.2.1
    have f4 := hs3'.free 5
    go_wp2_with fail
    refine (at16 _ L 14 _ (hr2.mono hB3') (by omega) (by rw [← HN.out]; omega)).mono ?_
    rintro e w' ⟨rfl, rfl⟩
    obtain ⟨F4, hF4⟩ : ∃ F, F = be ((L.drop (14 : Int).toNat).take 2) := ⟨_, rfl⟩
    rw [← hF4]
    have HF4 := Lib.hid hF4
    clear hF4
    have hs4' : Blk (((((w3.setCell ⟨g, 0, none⟩ (.int .i64 F0)).setCell ⟨g, 1, none⟩ (.int .i64 F1)).setCell ⟨g, 2, none⟩ (.int .u32 F2)).setCell ⟨g, 3, none⟩ (.int .u32 F3)).setCell ⟨g, 5, none⟩ (.int .i64 F4)) g 67 (SG.cells { s4 with wn := F4 }) := by simpa using hs3'.set 5 (.int .i64 F4)
    have hB4' := hB3'.setCell (p := ⟨g, 5, none⟩) hg (.int .i64 F4)
    obtain ⟨s5, hs4e⟩ : ∃ t : SG, t = { s4 with wn := F4 } := ⟨_, rfl⟩
    rw [← hs4e] at hs4'
    subst hs4e hs3e hs2e hs1e hs0e hs0
    have e6 := hs4'.sg.1
    have e7 := hs4'.sg.2.1
    go_upto_region 16 with (fail)
    obtain ⟨W5, hW5⟩ : ∃ W, W = (((((w3.setCell ⟨g, 0, none⟩ (.int .i64 F0)).setCell ⟨g, 1, none⟩ (.int .i64 F1)).setCell ⟨g, 2, none⟩ (.int .u32 F2)).setCell ⟨g, 3, none⟩ (.int .u32 F3)).setCell ⟨g, 5, none⟩ (.int .i64 F4)) := ⟨_, rfl⟩
    have how : Ow W5 w2.heap.size (.slice Ad dl cd) (L.drop hd) := owns_same hod fun k hk => by
      have hne := hgd k hk
      have e : ∀ (w : World) (o : Nat) (u : Value), (w.setCell ⟨g, o, none⟩ u).heap[k]? = w.heap[k]? := fun w o u => Below.heap_setCell w ⟨g, o, none⟩ u k hne
      rw [hW5, e, e, e, e, e]
    rw [← hW5] at hs4' hB4' e6 e7 ⊢
    clear hW5 hs0' hs1' hs2' hs3' hB0' hB1' hB2' hB3' e0 e1 e2 e3 e4 f0 f1 f2 f3 f4 hsg hod hB3
    have gF : (F0 == 0) = false := by
      have := HF.out
      rw [HF0.out]
      simpa using this
    have gT : (F1 == 0) = false := by
      have := HT.out
      rw [HF1.out]
      simpa using this
    go_wp2_with ((with_reducible refine at_slot 101 ?_); refine wpList_slice2 rfl (.tmp 99) (some (.const (.int .i64 20))) (some (.tmp 100)) rfl hr2 rfl 20 (hd : Int) (.yes rfl rfl) (.yes rfl rfl) (by omega) (by omega) (by rw [← HN.out]; omega) ?_; intro m Am cm hm hm3 hm4 hrm)
    have hmm : m = (L.take hd).drop 20 := by rw [hm.out, Int.toNat_natCast]; rfl
    refine (tread g ⟨F0, F1, F2, F3, (y.toNat : Int) % 32, F4, 0, false, noS, .slice Ad dl cd⟩ _ m syn (by have := HSYN.out; rw [Hy.out] at this; exact this) w2 W5 hg hs4' hrm hB4'.size (fun k hk => hB4'.block k hk) rfl).mono ?_
    rintro e w6 ⟨rfl, hT6, hseg⟩
    rw [hmm, HOPT.out]
    have z5 := hB4'.size
    have hz6 : Blk w6 (w.heap.size + 1 + 1) 67 SG.zero.cells := (hT6.block _ (by have := HZ.out.lt; omega) (by have := HZ.out.lt; show ¬ w.heap.size + 1 + 1 = g; omega)).trans (HZ.out.keep hB4' HZ.out.lt)
    have hB6 := below_step hB2 hB2.size (hB4'.trans (hT6.below (fun k hk => by have : k = g := hk; omega) z5))
    clear hseg hT6 hs4' how hr2 hrm e6 e7
    go_wp2_with (refine wpList_storeB rfl 67 (.tmp 6) (.tmp 104) rfl rfl hz6 SG.zero.cells rfl rfl SG.info rfl (SG.one (s := SG.zero) rfl rfl) ?_)
    (try simp only [Exit.inBlock, Exit.then])
    have hz7 := (heap_setRow (cells := SG.zero.cells) hz6).1
    refine bodyPost_ret (by exact ret_seg rfl _ _ rfl hz7 rfl) (by rfl) ?_
    exact ⟨rfl, below_setRow hB6 hz6 (by omega)⟩
end Go.Proofs.Ytbhdojpgjmbogaa
