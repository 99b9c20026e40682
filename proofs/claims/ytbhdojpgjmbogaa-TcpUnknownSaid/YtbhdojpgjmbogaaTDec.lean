/- tcp.Decode, where nothing is refused. -/
import Derived.Test.YtbhdojpgjmbogaaTRead
namespace Go.Proofs.Ytbhdojpgjmbogaa
open Go.RowKit Go.Shelf
/-- The sum over the pseudo head and what came. -/
theorem two_sumR (s d : IP) (n : Nat) (L : List UInt8) (A A2 : Option Addr) (c c2 : Nat) (hn : n = L.length) (hn1 : n ≤ 140737488355000) {w : World} {base : Nat}
    (h1 : Ow w base (.slice A (psl s d 6 n).length c) (psl s d 6 n)) (h2 : Rd w (.slice A2 n c2) L) :
    Calls Try.prog 67 #[.slice (some ⟨w.heap.size, 0, none⟩) 2 2] (w.alloc (.cells #[.slice A (psl s d 6 n).length c, .slice A2 n c2] 24)) fun e w' =>
      e = .returned (.int .i64 (csum 6 s d L)) ∧ Below w.heap.size w w' := by
  have hls : RdL (w.alloc (.cells #[.slice A (psl s d 6 n).length c, .slice A2 n c2] 24)) (.slice (some ⟨w.heap.size, 0, none⟩) 2 2) [psl s d 6 n, L] := by
    refine rdL_new _ _ _ _ 2 _ rfl rfl (by omega) rfl ?_
    intro i h h'
    match i, h' with
    | 0, _ => exact h1.rd
    | 1, _ => exact h2
  refine (wsum _ _ (by simp [psl_len]; omega) _ hls).mono ?_
  rintro e w' ⟨rfl, hb⟩
  subst hn
  exact ⟨by simp [csum], below_step (below_alloc w _) (by simp) hb⟩
theorem and31 (y : UInt8) : bits .and .u8 (y.toNat : Int) 31 = (y.toNat : Int) % 32 := by
  show IntKind.u8.wrap ((BitVec.ofInt 8 (y.toNat : Int) &&& BitVec.ofInt 8 31).toNat : Int) = _
  have h := UInt8.toNat_lt y
  have e : BitVec.ofInt 8 31 = BitVec.ofNat 8 (2 ^ 5 - 1) := rfl
  rw [BitVec.toNat_and, BitVec.ofInt_natCast, e, BitVec.toNat_ofNat, BitVec.toNat_ofNat, Nat.mod_eq_of_lt (by omega), Nat.mod_eq_of_lt (by omega), Nat.and_two_pow_sub_one_eq_mod, IntKind.wrap_u8]
  omega
theorem Rd.dropAt {w : World} {A : Option Addr} {n c : Nat} {l : List UInt8} (h : Rd w (.slice A n c) l) (k : Nat) (hk : k ≤ l.length) : Rd w (.slice (if c = k then A else A.map (·.add (k * 1))) (n - k) (c - k)) (l.drop k) := by
  obtain ⟨A', c', e, h1, h2, h3⟩ := h
  injection e with e1 e2 e3
  subst e1 e2 e3
  rw [List.length_map] at h1
  have h4 := drop_map_add A c k l.length w (l.map bv) h3 (by simp) (by rw [List.length_map]; exact h1)
  refine ⟨if c = k then A else A.map (·.add (k * 1)), c - k, by simp, by simp; omega, by omega, ?_⟩
  rw [List.map_drop]
  rwa [List.take_of_length_le (by simp)] at h4
/-- What is read of a segment's bytes. -/
def decSG (L : List UInt8) (st : OSt) (g v : Value) : SG := ⟨be ((L.drop 0).take 2), be ((L.drop 2).take 2), be ((L.drop 4).take 4), be ((L.drop 8).take 4), (L.getD 13 0).toNat % 32, be ((L.drop 14).take 2), st.ms, st.sk, g, v⟩
/-- A piece of a slice of bytes is taken; the slice reads in an elder world. -/
theorem wpList_slice2 {ops : Array Oper} {rest : List Oper} {o : Oper} {a : Act} {Q : Exit → Act → World → Prop} {w Wd : World} (hgd : o.guard = none) (x : Operand) (lo hi : Option Operand)
    (ho : o.op = .slice 24 x lo hi none) {v : Value} {l : List UInt8} (hr : Rd Wd v l) (hx : a.eval x = v) (L H : Int) (hlo : IsBound a lo 0 L) (hhi : IsBound a hi l.length H) (h0 : 0 ≤ L) (h1 : L ≤ H) (h2 : H ≤ l.length)
    (h : ∀ (m : List UInt8) (A : Option Addr) (c : Nat), Hid (m = (l.take H.toNat).drop L.toNat) → m.length ≤ c → c ≤ 9223372036854775807 → Rd Wd (.slice A m.length c) m → wpList Try.prog ops Q rest (a.put o.dst (.slice A m.length c)) w) :
    wpList Try.prog ops Q (o :: rest) a w := by
  obtain ⟨i, hi', hz, hz1, hz2⟩ := info_parts byte_info
  obtain ⟨v', hrun, hr'⟩ := run_slice_any (w' := w) 24 5 i und_bytes hi' hz1 v (l.map bv) hr a lo hi L H hlo (by rw [List.length_map]; exact hhi) h0 h1 (by rw [List.length_map]; exact h2)
  refine wpList_plain hgd fun K hK => ?_
  rw [← List.map_take, ← List.map_drop] at hr'
  obtain ⟨m, hm⟩ : ∃ m, m = (l.take H.toNat).drop L.toNat := ⟨_, rfl⟩
  rw [← hm] at hr'
  obtain ⟨A, c, rfl, e1, e2⟩ := Rd.form hr'
  unfold Oper.wp
  simp only [execOp, ho, hx, Option.map_none] at hrun ⊢
  simp [hrun, Result.andThen]
  exact hK _ _ (h m A c hm e1 e2 hr')
/-- What stands where a segment's bytes have been laid aside. -/
def DMid (w : World) (fl : Int) (l : List UInt8) (v9 : Value) (wx : World) : Prop :=
  ∃ g vd, v9 = .pointer (some ⟨g, 0, none⟩) ∧ w.heap.size ≤ g ∧ Blk wx g 67 (SG.cells ⟨0, 0, 0, 0, fl, 0, 0, false, noS, vd⟩) ∧ Ow wx w.heap.size vd l ∧ (∀ k, vd.ownBlock = some k → k ≠ g) ∧ Below w.heap.size w wx
theorem seg_ten {w : World} {g : Nat} {s : SG} (h : Blk w g 67 s.cells) (a0 a1 a2 a3 a4 a5 a6 a7 a8 a9 : Value) :
    Blk ((((((((((w.setCell ⟨g, 0, none⟩ a0).setCell ⟨g, 1, none⟩ a1).setCell ⟨g, 2, none⟩ a2).setCell ⟨g, 3, none⟩ a3).setCell ⟨g, 4, none⟩ a4).setCell ⟨g, 5, none⟩ a5).setCell ⟨g, 6, none⟩ a6).setCell ⟨g, 7, none⟩ a7).setCell ⟨g, 8, none⟩ a8).setCell ⟨g, 9, none⟩ a9) g 67 #[a0, a1, a2, a3, a4, a5, a6, a7, a8, a9] ∧
    (∀ k, k ≠ g → ((((((((((w.setCell ⟨g, 0, none⟩ a0).setCell ⟨g, 1, none⟩ a1).setCell ⟨g, 2, none⟩ a2).setCell ⟨g, 3, none⟩ a3).setCell ⟨g, 4, none⟩ a4).setCell ⟨g, 5, none⟩ a5).setCell ⟨g, 6, none⟩ a6).setCell ⟨g, 7, none⟩ a7).setCell ⟨g, 8, none⟩ a8).setCell ⟨g, 9, none⟩ a9).heap[k]? = w.heap[k]?) ∧
    (∀ B w0, Below B w0 w → B ≤ g → Below B w0 ((((((((((w.setCell ⟨g, 0, none⟩ a0).setCell ⟨g, 1, none⟩ a1).setCell ⟨g, 2, none⟩ a2).setCell ⟨g, 3, none⟩ a3).setCell ⟨g, 4, none⟩ a4).setCell ⟨g, 5, none⟩ a5).setCell ⟨g, 6, none⟩ a6).setCell ⟨g, 7, none⟩ a7).setCell ⟨g, 8, none⟩ a8).setCell ⟨g, 9, none⟩ a9)) := by
  refine ⟨?_, fun k hk => ?_, fun B w0 hb hB => ?_⟩
  · have := (((((((((h.set 0 a0).set 1 a1).set 2 a2).set 3 a3).set 4 a4).set 5 a5).set 6 a6).set 7 a7).set 8 a8).set 9 a9
    simpa using this
  · have e : ∀ (w : World) (o : Nat) (u : Value), (w.setCell ⟨g, o, none⟩ u).heap[k]? = w.heap[k]? := fun w o u => Below.heap_setCell w ⟨g, o, none⟩ u k hk
    rw [e, e, e, e, e, e, e, e, e, e]
  · exact (((((((((hb.setCell (p := ⟨g, 0, none⟩) hB a0).setCell (p := ⟨g, 1, none⟩) hB a1).setCell (p := ⟨g, 2, none⟩) hB a2).setCell (p := ⟨g, 3, none⟩) hB a3).setCell (p := ⟨g, 4, none⟩) hB a4).setCell (p := ⟨g, 5, none⟩) hB a5).setCell (p := ⟨g, 6, none⟩) hB a6).setCell (p := ⟨g, 7, none⟩) hB a7).setCell (p := ⟨g, 8, none⟩) hB a8).setCell (p := ⟨g, 9, none⟩) hB a9
set_option maxRecDepth 100000 in
set_option maxHeartbeats 40000000 in
theorem tdec (s d : IP) (L : List UInt8) (v : Value) (w : World) (hr : Rd w v L) (hmax : L.length ≤ 140737488355000) (h20 : 20 ≤ L.length) (hd : Nat) (x : UInt8) (hx : L[12]'(by omega) = x) (hhd : hd = x.toNat / 16 * 4) (h1 : 20 ≤ hd) (h2 : hd ≤ L.length)
    (hsum : csum 6 s d L = 0) (h3 : L.length - hd ≤ 1024) (hf : be ((L.drop 0).take 2) ≠ 0) (ht : be ((L.drop 2).take 2) ≠ 0) (syn : Bool) (hsyn : ((L.getD 13 0).toNat : Int) % 32 / 2 % 2 = if syn then 1 else 0)
    (st : OSt) (hopt : rdAll syn ⟨0, false, []⟩ (optsOf ((L.take hd).drop 20)) = (true, st)) :
    Calls Try.prog 44 #[s.v, d.v, v] w fun e w' => ∃ g' v', e = .returned (.tuple #[(decSG L st g' v').v, .int .i64 0]) ∧ Ow w' w.heap.size v' (L.drop hd) ∧ OwS w' w.heap.size g' st.got ∧ Below w.heap.size w w' := by
  obtain ⟨A, c, rfl, hc1, hc2⟩ := hr.form
  obtain ⟨n, hn⟩ : ∃ n, n = L.length := ⟨_, rfl⟩
  obtain ⟨bb, oo, rfl, hbl, hcs⟩ := hr.at_ 0 (by omega)
  have d12 := hcs 12 (by omega)
  have d13 := hcs 13 (by omega)
  rw [hx] at d12
  obtain ⟨y, hy⟩ : ∃ y, y = L[13]'(by omega) := ⟨_, rfl⟩
  rw [← hy] at d13
  have hy2 : L.getD 13 0 = y := by rw [hy, List.getD_eq_getElem?_getD, List.getElem?_eq_getElem (by omega)]; rfl
  have Hy := Lib.hid hy2
  clear hy2 hy
  have HN := Lib.hid hn
  have HSUM := Lib.hid hsum
  have HHD := Lib.hid hhd
  rw [← hn] at hr hc1 hmax h20 h2 h3 ⊢
  have HOPT := Lib.hid hopt
  have HF := Lib.hid hf
  have HT := Lib.hid ht
  have HSYN := Lib.hid hsyn
  have g1 : decide ((n : Int) < 20) = false := by simp; omega
  have i12 : (12 : Int) < (n : Int) := by omega
  have i13 : (13 : Int) < (n : Int) := by omega
  clear hcs hn hsum hopt hf ht hsyn hx hhd
  have hxl := UInt8.toNat_lt x
  go_enter Try.func44, Try.ntmps44
  go_upto_region 1 with (fail)
  refine box5 (s := s) (d := d) (g := SG.zero) (motive := fun X => Code.wp Try.prog _ _ _ X) ?_
  intro X hB hX hbs hbd hz
  have hrX := hr.mono hB
  have e12 := (hB.cell (p := ⟨bb, oo + 12, none⟩) hbl).trans d12
  clear d12
  go_upto_region 4 with (fail)
  have hh : (x.toNat : Int) / 16 * 4 = (hd : Int) := by rw [HHD.out]; omega
  rw [hh]
  clear hh e12
  have gA : decide ((hd : Int) < 20) = false := by simp; omega
  have gA2 : decide (hd < 20) = false := by simp; omega
  have gB : decide (n < hd) = false := by simp; omega
  obtain ⟨a0, a1, a2, a3⟩ := hbs.ip4
  obtain ⟨b0, b1, b2, b3⟩ := hbd.ip4
  go_wp2_with fail
  refine (pseudo s d 6 n _).mono ?_
  rintro e w1 ⟨v1, rfl, ho1, hb1⟩
  obtain ⟨A1, c1, rfl, _, _⟩ := ho1.rd.form
  go_wp2_with fail
  refine (two_sumR s d n L A1 _ c1 c HN.out (by omega) ho1 (hrX.mono hb1)).mono ?_
  rintro e w2 ⟨rfl, hb2⟩
  rw [HSUM.out]
  have hB2 := below_step hB hB.size (below_step hb1 hb1.size hb2)
  have hz2 := (hz.mono hb1).mono hb2
  have z2 := (below_step hb1 hb1.size hb2).size
  have hr2 := (hrX.mono hb1).mono hb2
  have e13 := (hB2.cell (p := ⟨bb, oo + 13, none⟩) hbl).trans d13
  clear a0 a1 a2 a3 b0 b1 b2 b3 hbs hbd hb1 hb2 ho1 hz hrX hB d13
  have gC : decide ((1024 : Int) < (n : Int) - (hd : Int)) = false := by simp; omega
  go_upto_region 10 with (fail)
  have hy31 : bits .and .u8 (y.toNat : Int) 31 = (y.toNat : Int) % 32 := and31 y
  have hdn0 : (0 : Int) ≤ (hd : Int) := by omega
  have hdn : (hd : Int) ≤ (n : Int) := by omega
  have hdc : (hd : Int) ≤ (c : Int) := by omega
  have hw31 : IntKind.i64.wrap ((y.toNat : Int) % 32) = (y.toNat : Int) % 32 := by rw [IntKind.wrap_i64]; omega
  obtain ⟨q, hq⟩ : ∃ q : Int, q = (n : Int) - (hd : Int) := ⟨_, rfl⟩
  rw [← hq]
  clear hq gC
  go_cut [9] from 48 to 57 (fun v9 wx => DMid w2 ((y.toNat : Int) % 32) (L.drop hd) v9 wx)
  case first =>
    by_cases hcap : c = hd
    · obtain rfl : n = hd := by omega
      subst hcap
      have hrd : Rd w2 (.slice (some ⟨bb, oo, none⟩) 0 0) (L.drop c) := by
        have := hr2.dropAt c (by rw [← HN.out]; exact h2)
        simpa using this
      have hKeep : ∀ wx, Below w2.heap.size w2 wx → wx.cell? ⟨bb, oo + 13, none⟩ = some (.int .u8 (y.toNat : Int)) := fun wx h => (h.cell (p := ⟨bb, oo + 13, none⟩) (by show bb < w2.heap.size; omega)).trans e13
      have HK := Lib.hid hKeep
      clear hKeep
      have hne13 := World.new_ne w2 _ e13
      go_region_held3 (fun w' => w'.cell? ⟨bb, oo + 13, none⟩ = some (.int .u8 (y.toNat : Int)))
        ((first
          | go_keep
          | exact HK.out _ ((Below.refl w2.heap.size w2).drew.trans hb3)
          | exact HK.out _ (((Below.refl w2.heap.size w2).drew.trans hb3).alloc hb3.size _)
          | exact HK.out _ ((((Below.refl w2.heap.size w2).drew).alloc (Nat.le_refl _) _).trans (hb3.mono (by simp)))))
        ((first
          | (refine step_call rfl rfl (enters_of Try.func57 (by kernel_rfl) rfl) (clone_b _ (L.drop c) _ hrd.drew (by rw [List.length_drop]; omega)) rfl ?_; rintro e w3 ⟨v3, rfl, ho3, hb3⟩; refine ⟨_, rfl, ?_⟩; obtain ⟨A3, c3, rfl, _, _⟩ := ho3.rd.form)
          | (refine step_call rfl rfl (enters_of Try.func57 (by kernel_rfl) rfl) (clone_b _ (L.drop c) _ (hrd.drew.mono (below_alloc _ _)) (by rw [List.length_drop]; omega)) rfl ?_; rintro e w3 ⟨v3, rfl, ho3, hb3⟩; refine ⟨_, rfl, ?_⟩; obtain ⟨A3, c3, rfl, _, _⟩ := ho3.rd.form; have hN3 : Blk w3 w2.heap.size 67 SG.zero.cells := (Blk.new w2.drew 67 SG.zero.cells _ rfl).mono hb3; obtain ⟨k0, k1, k2, k3, k4, k5, k6, k7, k8, k9⟩ := hN3.sg; have f0 := hN3.free 0; have f1 := hN3.free 1; have f2 := hN3.free 2; have f3 := hN3.free 3; have f4 := hN3.free 4; have f5 := hN3.free 5; have f6 := hN3.free 6; have f7 := hN3.free 7; have f8 := hN3.free 8; have f9 := hN3.free 9)))
      all_goals (go_wp2_with fail; go_meet)
      · rw [List.length_drop] at ho3
        have hlt3 := fun g hg => owns_block_lt ho3 (g := g) hg
        refine ⟨w3.heap.size, .slice A3 (L.length - c) c3, rfl, hb3.size, Blk.new _ _ _ _ rfl, (ho3.mono (below_alloc _ _)).less (Nat.le_refl _), fun k hk => ?_, ((Below.refl w2.heap.size w2).drew.trans hb3).alloc hb3.size _⟩
        have := (hlt3 k hk).2
        omega
      · rw [List.length_drop] at ho3
        obtain ⟨t1, t2, t3⟩ := seg_ten hN3 (.int .i64 0) (.int .i64 0) (.int .u32 0) (.int .u32 0) (.int .i64 ((y.toNat : Int) % 32)) (.int .i64 0) (.int .i64 0) (.bool false) noS (.slice A3 (L.length - c) c3)
        have hlt3 := fun g hg => owns_block_lt ho3 (g := g) hg
        have hz3 : w2.heap.size + 1 ≤ ((w2.drew).alloc (.cells SG.zero.cells 67)).heap.size := by simp
        have hB3 := (((Below.refl w2.heap.size w2).drew).alloc (Nat.le_refl _) (.cells SG.zero.cells 67)).trans (hb3.mono (Nat.le_trans (Nat.le_succ _) hz3))
        refine ⟨w2.heap.size, .slice A3 (L.length - c) c3, rfl, Nat.le_refl _, t1, owns_same (ho3.less (Nat.le_trans (Nat.le_succ _) hz3)) fun k hk => t2 k ?_, fun k hk => ?_, t3 _ _ hB3 (Nat.le_refl _)⟩
        · have := Nat.le_trans hz3 (hlt3 k hk).1
          omega
        · have := Nat.le_trans hz3 (hlt3 k hk).1
          omega
    · have hrd : Rd w2 (.slice (some ⟨bb, oo + hd, none⟩) (n - hd) (c - hd)) (L.drop hd) := by
        have := hr2.dropAt hd (by rw [← HN.out]; exact h2)
        simpa [hcap, Addr.add_lit, ← HN.out] using this
      have hKeep : ∀ wx, Below w2.heap.size w2 wx → wx.cell? ⟨bb, oo + 13, none⟩ = some (.int .u8 (y.toNat : Int)) := fun wx h => (h.cell (p := ⟨bb, oo + 13, none⟩) (by show bb < w2.heap.size; omega)).trans e13
      have HK := Lib.hid hKeep
      clear hKeep
      have hne13 := World.new_ne w2 _ e13
      go_region_held3 (fun w' => w'.cell? ⟨bb, oo + 13, none⟩ = some (.int .u8 (y.toNat : Int)))
        ((first
          | go_keep
          | exact HK.out _ ((Below.refl w2.heap.size w2).drew.trans hb3)
          | exact HK.out _ (((Below.refl w2.heap.size w2).drew.trans hb3).alloc hb3.size _)
          | exact HK.out _ ((((Below.refl w2.heap.size w2).drew).alloc (Nat.le_refl _) _).trans (hb3.mono (by simp)))))
        ((first
          | (refine step_call rfl rfl (enters_of Try.func57 (by kernel_rfl) rfl) (clone_b _ (L.drop hd) _ hrd.drew (by rw [List.length_drop]; omega)) rfl ?_; rintro e w3 ⟨v3, rfl, ho3, hb3⟩; refine ⟨_, rfl, ?_⟩; obtain ⟨A3, c3, rfl, _, _⟩ := ho3.rd.form)
          | (refine step_call rfl rfl (enters_of Try.func57 (by kernel_rfl) rfl) (clone_b _ (L.drop hd) _ (hrd.drew.mono (below_alloc _ _)) (by rw [List.length_drop]; omega)) rfl ?_; rintro e w3 ⟨v3, rfl, ho3, hb3⟩; refine ⟨_, rfl, ?_⟩; obtain ⟨A3, c3, rfl, _, _⟩ := ho3.rd.form; have hN3 : Blk w3 w2.heap.size 67 SG.zero.cells := (Blk.new w2.drew 67 SG.zero.cells _ rfl).mono hb3; obtain ⟨k0, k1, k2, k3, k4, k5, k6, k7, k8, k9⟩ := hN3.sg; have f0 := hN3.free 0; have f1 := hN3.free 1; have f2 := hN3.free 2; have f3 := hN3.free 3; have f4 := hN3.free 4; have f5 := hN3.free 5; have f6 := hN3.free 6; have f7 := hN3.free 7; have f8 := hN3.free 8; have f9 := hN3.free 9)))
      all_goals (go_wp2_with fail; go_meet)
      · rw [List.length_drop] at ho3
        have hlt3 := fun g hg => owns_block_lt ho3 (g := g) hg
        refine ⟨w3.heap.size, .slice A3 (L.length - hd) c3, rfl, hb3.size, Blk.new _ _ _ _ rfl, (ho3.mono (below_alloc _ _)).less (Nat.le_refl _), fun k hk => ?_, ((Below.refl w2.heap.size w2).drew.trans hb3).alloc hb3.size _⟩
        have := (hlt3 k hk).2
        omega
      · rw [List.length_drop] at ho3
        obtain ⟨t1, t2, t3⟩ := seg_ten hN3 (.int .i64 0) (.int .i64 0) (.int .u32 0) (.int .u32 0) (.int .i64 ((y.toNat : Int) % 32)) (.int .i64 0) (.int .i64 0) (.bool false) noS (.slice A3 (L.length - hd) c3)
        have hlt3 := fun g hg => owns_block_lt ho3 (g := g) hg
        have hz3 : w2.heap.size + 1 ≤ ((w2.drew).alloc (.cells SG.zero.cells 67)).heap.size := by simp
        have hB3 := (((Below.refl w2.heap.size w2).drew).alloc (Nat.le_refl _) (.cells SG.zero.cells 67)).trans (hb3.mono (Nat.le_trans (Nat.le_succ _) hz3))
        refine ⟨w2.heap.size, .slice A3 (L.length - hd) c3, rfl, Nat.le_refl _, t1, owns_same (ho3.less (Nat.le_trans (Nat.le_succ _) hz3)) fun k hk => t2 k ?_, fun k hk => ?_, t3 _ _ hB3 (Nat.le_refl _)⟩
        · have := Nat.le_trans hz3 (hlt3 k hk).1
          omega
        · have := Nat.le_trans hz3 (hlt3 k hk).1
          omega
  case rest =>
    obtain ⟨g, vd, rfl, hg, hsg, hod, hgd, hB3⟩ := hcut
    have HZ := Lib.hid hz2
    clear e13 hz2
    obtain ⟨Ad, cd, hvd, _, _⟩ := hod.rd.form
    obtain ⟨dl, hdl⟩ : ∃ dl, dl = (L.drop hd).length := ⟨_, rfl⟩
    rw [← hdl] at hvd
    subst hvd
    clear hdl
    obtain ⟨s0, hs0⟩ : ∃ s0 : SG, s0 = ⟨0, 0, 0, 0, (y.toNat : Int) % 32, 0, 0, false, noS, .slice Ad dl cd⟩ := ⟨_, rfl⟩
    rw [← hs0] at hsg
    obtain ⟨w3, hw3⟩ : ∃ w3, w3 = wc := ⟨_, rfl⟩
    rw [← hw3] at hsg hod hB3 ⊢
    clear hw3
    have e0 := (hsg.sg).1
    have f0 := hsg.free 0
    go_wp2_with fail
    refine (at16 _ L 0 _ (hr2.mono hB3) (by omega) (by rw [← HN.out]; omega)).mono ?_
    rintro e w' ⟨rfl, rfl⟩
    obtain ⟨F0, hF0⟩ : ∃ F, F = be ((L.drop (0 : Int).toNat).take 2) := ⟨_, rfl⟩
    rw [← hF0]
    have HF0 := Lib.hid hF0
    clear hF0
    have hs0' : Blk (w3.setCell ⟨g, 0, none⟩ (.int .i64 F0)) g 67 (SG.cells { s0 with fr := F0 }) := by simpa using hsg.set 0 (.int .i64 F0)
    have hB0' := hB3.setCell (p := ⟨g, 0, none⟩) hg (.int .i64 F0)
    obtain ⟨s1, hs0e⟩ : ∃ t : SG, t = { s0 with fr := F0 } := ⟨_, rfl⟩
    rw [← hs0e] at hs0'
    have e1 := (hs0'.sg).2.1
    have f1 := hs0'.free 1
    go_wp2_with fail
    refine (at16 _ L 2 _ (hr2.mono hB0') (by omega) (by rw [← HN.out]; omega)).mono ?_
    rintro e w' ⟨rfl, rfl⟩
    obtain ⟨F1, hF1⟩ : ∃ F, F = be ((L.drop (2 : Int).toNat).take 2) := ⟨_, rfl⟩
    rw [← hF1]
    have HF1 := Lib.hid hF1
    clear hF1
    have hs1' : Blk ((w3.setCell ⟨g, 0, none⟩ (.int .i64 F0)).setCell ⟨g, 1, none⟩ (.int .i64 F1)) g 67 (SG.cells { s1 with too := F1 }) := by simpa using hs0'.set 1 (.int .i64 F1)
    have hB1' := hB0'.setCell (p := ⟨g, 1, none⟩) hg (.int .i64 F1)
    obtain ⟨s2, hs1e⟩ : ∃ t : SG, t = { s1 with too := F1 } := ⟨_, rfl⟩
    rw [← hs1e] at hs1'
    have e2 := (hs1'.sg).2.2.1
    have f2 := hs1'.free 2
    go_wp2_with fail
    refine (at32 _ L 4 _ (hr2.mono hB1') (by omega) (by rw [← HN.out]; omega)).mono ?_
    rintro e w' ⟨rfl, rfl⟩
    obtain ⟨F2, hF2⟩ : ∃ F, F = be ((L.drop (4 : Int).toNat).take 4) := ⟨_, rfl⟩
    rw [← hF2]
    have HF2 := Lib.hid hF2
    clear hF2
    have hs2' : Blk (((w3.setCell ⟨g, 0, none⟩ (.int .i64 F0)).setCell ⟨g, 1, none⟩ (.int .i64 F1)).setCell ⟨g, 2, none⟩ (.int .u32 F2)) g 67 (SG.cells { s2 with sq := F2 }) := by simpa using hs1'.set 2 (.int .u32 F2)
    have hB2' := hB1'.setCell (p := ⟨g, 2, none⟩) hg (.int .u32 F2)
    obtain ⟨s3, hs2e⟩ : ∃ t : SG, t = { s2 with sq := F2 } := ⟨_, rfl⟩
    rw [← hs2e] at hs2'
    have e3 := (hs2'.sg).2.2.2.1
    have f3 := hs2'.free 3
    go_wp2_with fail
    refine (at32 _ L 8 _ (hr2.mono hB2') (by omega) (by rw [← HN.out]; omega)).mono ?_
    rintro e w' ⟨rfl, rfl⟩
    obtain ⟨F3, hF3⟩ : ∃ F, F = be ((L.drop (8 : Int).toNat).take 4) := ⟨_, rfl⟩
    rw [← hF3]
    have HF3 := Lib.hid hF3
    clear hF3
    have hs3' : Blk ((((w3.setCell ⟨g, 0, none⟩ (.int .i64 F0)).setCell ⟨g, 1, none⟩ (.int .i64 F1)).setCell ⟨g, 2, none⟩ (.int .u32 F2)).setCell ⟨g, 3, none⟩ (.int .u32 F3)) g 67 (SG.cells { s3 with ak := F3 }) := by simpa using hs2'.set 3 (.int .u32 F3)
    have hB3' := hB2'.setCell (p := ⟨g, 3, none⟩) hg (.int .u32 F3)
    obtain ⟨s4, hs3e⟩ : ∃ t : SG, t = { s3 with ak := F3 } := ⟨_, rfl⟩
    rw [← hs3e] at hs3'
    have e4 := (hs3'.sg).2.2.2.2.2.1
    have f4 := hs3'.free 5
    go_wp2_with fail
    refine (at16 _ L 14 _ (hr2.mono hB3') (by omega) (by rw [← HN.out]; omega)).mono ?_
    rintro e w' ⟨rfl, rfl⟩
    obtain ⟨F4, hF4⟩ : ∃ F, F = be ((L.drop (14 : Int).toNat).take 2) := ⟨_, rfl⟩
    rw [← hF4]
    have HF4 := Lib.hid hF4
    clear hF4
    have hs4' : Blk (((((w3.setCell ⟨g, 0, none⟩ (.int .i64 F0)).setCell ⟨g, 1, none⟩ (.int .i64 F1)).setCell ⟨g, 2, none⟩ (.int .u32 F2)).setCell ⟨g, 3, none⟩ (.int .u32 F3)).setCell ⟨g, 5, none⟩ (.int .i64 F4)) g 67 (SG.cells { s4 with wn := F4 }) := by simpa using hs3'.set 5 (.int .i64 F4)
    have hB4' := hB3'.setCell (p := ⟨g, 5, none⟩) hg (.int .i64 F4)
    obtain ⟨s5, hs4e⟩ : ∃ t : SG, t = { s4 with wn := F4 } := ⟨_, rfl⟩
    rw [← hs4e] at hs4'
    subst hs4e hs3e hs2e hs1e hs0e hs0
    have e6 := hs4'.sg.1
    have e7 := hs4'.sg.2.1
    go_upto_region 16 with (fail)
    obtain ⟨W5, hW5⟩ : ∃ W, W = (((((w3.setCell ⟨g, 0, none⟩ (.int .i64 F0)).setCell ⟨g, 1, none⟩ (.int .i64 F1)).setCell ⟨g, 2, none⟩ (.int .u32 F2)).setCell ⟨g, 3, none⟩ (.int .u32 F3)).setCell ⟨g, 5, none⟩ (.int .i64 F4)) := ⟨_, rfl⟩
    have how : Ow W5 w2.heap.size (.slice Ad dl cd) (L.drop hd) := owns_same hod fun k hk => by
      have hne := hgd k hk
      have e : ∀ (w : World) (o : Nat) (u : Value), (w.setCell ⟨g, o, none⟩ u).heap[k]? = w.heap[k]? := fun w o u => Below.heap_setCell w ⟨g, o, none⟩ u k hne
      rw [hW5, e, e, e, e, e]
    rw [← hW5] at hs4' hB4' e6 e7 ⊢
    clear hW5 hs0' hs1' hs2' hs3' hB0' hB1' hB2' hB3' e0 e1 e2 e3 e4 f0 f1 f2 f3 f4 hsg hod hB3
    have gF : (F0 == 0) = false := by
      have := HF.out
      rw [HF0.out]
      simpa using this
    have gT : (F1 == 0) = false := by
      have := HT.out
      rw [HF1.out]
      simpa using this
    go_wp2_with ((with_reducible refine at_slot 101 ?_); refine wpList_slice2 rfl (.tmp 99) (some (.const (.int .i64 20))) (some (.tmp 100)) rfl hr2 rfl 20 (hd : Int) (.yes rfl rfl) (.yes rfl rfl) (by omega) (by omega) (by rw [← HN.out]; omega) ?_; intro m Am cm hm hm3 hm4 hrm)
    have hmm : m = (L.take hd).drop 20 := by rw [hm.out, Int.toNat_natCast]; rfl
    refine (tread g ⟨F0, F1, F2, F3, (y.toNat : Int) % 32, F4, 0, false, noS, .slice Ad dl cd⟩ _ m syn (by have := HSYN.out; rw [Hy.out] at this; exact this) w2 W5 hg hs4' hrm hB4'.size (fun k hk => hB4'.block k hk) rfl).mono ?_
    rintro e w6 ⟨rfl, hT6, hseg⟩
    rw [hmm, HOPT.out] at hseg
    rw [hmm, HOPT.out]
    obtain ⟨gv, hs6, hgv⟩ := hseg rfl
    obtain ⟨Ag, cg, eg, _, _⟩ := hgv.form
    subst eg
    have z5 := hB4'.size
    have hz6 : Blk w6 (w.heap.size + 1 + 1) 67 SG.zero.cells := (hT6.block _ (by have := HZ.out.lt; omega) (by have := HZ.out.lt; show ¬ w.heap.size + 1 + 1 = g; omega)).trans (HZ.out.keep hB4' HZ.out.lt)
    have how6 : Ow w6 w2.heap.size (.slice Ad dl cd) (L.drop hd) := owns_same how fun k hk => hT6.block k (owns_block_lt how hk).2 (hgd k hk)
    have hB6 := below_step hB2 hB2.size (hB4'.trans (hT6.below (fun k hk => by have : k = g := hk; omega) z5))
    have hfin : SG.opt ⟨F0, F1, F2, F3, (y.toNat : Int) % 32, F4, 0, false, noS, .slice Ad dl cd⟩ st (.slice Ag st.got.length cg) = decSG L st (.slice Ag st.got.length cg) (.slice Ad dl cd) := by
      unfold SG.opt decSG
      rw [Hy.out, HF0.out, HF1.out, HF2.out, HF3.out, HF4.out]
      rfl
    rw [hfin] at hs6
    clear hseg hT6 hs4' how hr2 hrm hfin e6 e7
    go_wp2_with (first | ((with_reducible refine at_slot 105 ?_); refine wpList_loadB rfl 67 (.tmp 9) rfl hs6 rfl Try.underlying67 rfl SG.info ?_) | (refine wpList_storeB rfl 67 (.tmp 6) (.tmp 105) rfl rfl hz6 (SG.cells (decSG L st (.slice Ag st.got.length cg) (.slice Ad dl cd))) rfl rfl SG.info rfl (SG.one (s := decSG L st (.slice Ag st.got.length cg) (.slice Ad dl cd)) rfl rfl) ?_))
    (try simp only [Exit.inBlock, Exit.then])
    have hz7 := (heap_setRow (cells := SG.cells (decSG L st (.slice Ag st.got.length cg) (.slice Ad dl cd))) hz6)
    refine bodyPost_ret (by exact ret_seg rfl _ _ rfl hz7.1 rfl) (by rfl) ?_
    refine ⟨_, _, rfl, owns_same (how6.less hB2.size) fun k hk => hz7.2 k (by have := (owns_block_lt how6 hk).1; have := HZ.out.lt; omega), (hgv.less (by have := hB2.size; have := hB4'.size; omega)).same fun k hk => hz7.2 k (by have := (hgv.lt hk).1; have := HZ.out.lt; omega), below_setRow hB6 hz6 (by omega)⟩
end Go.Proofs.Ytbhdojpgjmbogaa
