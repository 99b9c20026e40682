/- ip4.Decode: a packet is read. -/
import Derived.Test.YtbhdojpgjmbogaaDoorIEnc2
import Derived.Deep.MidRow
import Derived.Laws.Cover3
namespace Go.Proofs.YtbhdojpgjmbogaaDoor
open Go.RowKit Go.Shelf
def IP.zero : IP := ⟨0, 0, 0, 0⟩
def PK.zero : PK := ⟨IP.zero, IP.zero, 0, 0, 0, 0, false, false, 0, noS⟩
theorem PK.one {p : PK} (h : p.op.oneCell' = true) : p.cells.all (·.oneCell') = true := by
  have e : ∀ a b c d e f g h i j k l m n o : Value, a.oneCell' = true → b.oneCell' = true → c.oneCell' = true → d.oneCell' = true → e.oneCell' = true → f.oneCell' = true → g.oneCell' = true → h.oneCell' = true → i.oneCell' = true → j.oneCell' = true → k.oneCell' = true → l.oneCell' = true → m.oneCell' = true → n.oneCell' = true → o.oneCell' = true →
      (#[a, b, c, d, e, f, g, h, i, j, k, l, m, n, o, p.op] : Array Value).all (·.oneCell') = true := by
    intro a b c d e f g h' i j k l m n o h1 h2 h3 h4 h5 h6 h7 h8 h9 h10 h11 h12 h13 h14 h15
    simp [h1, h2, h3, h4, h5, h6, h7, h8, h9, h10, h11, h12, h13, h14, h15, h]
  exact e _ _ _ _ _ _ _ _ _ _ _ _ _ _ _ rfl rfl rfl rfl rfl rfl rfl rfl rfl rfl rfl rfl rfl rfl rfl
def PK.zeroC : Array Value := #[.int .u8 0, .int .u8 0, .int .u8 0, .int .u8 0, .int .u8 0, .int .u8 0, .int .u8 0, .int .u8 0, .int .i64 0, .int .i64 0, .int .i64 0, .int .i64 0, .bool false, .bool false, .int .i64 0, .slice none 0 0]
theorem PK.zero_one : PK.zeroC.all (·.oneCell') = true := PK.one (p := PK.zero) rfl
theorem and15 (y : UInt8) : bits .and .u8 (y.toNat : Int) 15 = (y.toNat : Int) % 16 := by
  show IntKind.u8.wrap ((BitVec.ofInt 8 (y.toNat : Int) &&& BitVec.ofInt 8 15).toNat : Int) = _
  have h := UInt8.toNat_lt y
  have e : BitVec.ofInt 8 15 = BitVec.ofNat 8 (2 ^ 4 - 1) := rfl
  rw [BitVec.toNat_and, BitVec.ofInt_natCast, e, BitVec.toNat_ofNat, BitVec.toNat_ofNat, Nat.mod_eq_of_lt (by omega), Nat.mod_eq_of_lt (by omega), Nat.and_two_pow_sub_one_eq_mod, IntKind.wrap_u8]
  omega
theorem ret_pk {fn : Func} {p u x : Tmp} (h : fn.results = #[.cell p 26, .tmp u, .tmp x]) (tmps : Array Value) (w : World) {g : Nat} {cs : Array Value} (hp : tmps.getD p undef = .pointer (some ⟨g, 0, none⟩)) (hg : Blk w g 26 cs) (hs : cs.size = 16) :
    (results fn tmps).run Tryd.prog w = .ok (.tuple #[.agg cs, tmps.getD u undef, tmps.getD x undef]) w := by
  have hi : (Tryd.prog.info? 26).map (·.size) = some cs.size := by rw [hs]; exact PK.info
  have e : (asAddr (.pointer (some ⟨g, 0, none⟩))).run Tryd.prog w = .ok ⟨g, 0, none⟩ w := rfl
  rw [Array.getD_eq_getD_getElem?] at hp
  simp only [results, h]
  simp [Sem.run_bind, Result.andThen, hp, e, run_loadVar_row w g _ _ cs (0, 0) _ hg Tryd.underlying26 rfl hi]
theorem run_allocPk (w : World) : (Instr.alloc 26 true (.tuple #[])).run Tryd.prog w = .ok (.pointer (some ⟨w.heap.size, 0, none⟩)) (w.alloc (.cells PK.zeroC 26)) := by
  kernel_rfl
/-- A packet is made. -/
theorem step_allocPk {ops : Array Oper} {o : Oper} {a : Act} {w : World} {K : Act → World → Prop} {Q : Exit → Act → World → Prop} {E : Prop} (hgd : o.guard = none) (ho : o.op = .alloc 26)
    (h : K (a.put o.dst (.pointer (some ⟨w.heap.size, 0, none⟩))) (w.alloc (.cells PK.zeroC 26))) : if Region.wanted o (yielded ops a.tmps) = true then Oper.wp Tryd.prog o a w K Q else E := by
  have hw : Region.wanted o (yielded ops a.tmps) = true := by simp [Region.wanted, hgd]
  rw [if_pos hw]
  unfold Oper.wp execOp
  simp only [ho, Sem.run_bind, run_allocPk, Result.andThen_ok, Sem.run_pure]
  exact h
/-- A whole packet is stored. -/
theorem step_storePk {ops : Array Oper} {o : Oper} {a : Act} {w : World} {K : Act → World → Prop} {Q : Exit → Act → World → Prop} {E : Prop} (hgd : o.guard = none) (x y : Operand) (ho : o.op = .store 26 x y)
    {g : Nat} {old : Array Value} (hg : Blk w g 26 old) (hold : old.size = 16) (p : PK) (hs1 : p.op.oneCell' = true) (hx : a.eval x = .pointer (some ⟨g, 0, none⟩)) (hy : a.eval y = p.v)
    (h : K (a.put o.dst undef) (w.setRow g p.cells)) : if Region.wanted o (yielded ops a.tmps) = true then Oper.wp Tryd.prog o a w K Q else E := by
  have hw : Region.wanted o (yielded ops a.tmps) = true := by simp [Region.wanted, hgd]
  rw [if_pos hw]
  exact wp_store_row 26 x y ho g p.cells hx hy 26 old hg PK.info hold (PK.one hs1) h
theorem w64_u8 (y : UInt8) : IntKind.i64.wrap (y.toNat : Int) = (y.toNat : Int) := by
  have := UInt8.toNat_lt y
  rw [IntKind.wrap_i64]
  omega
/-- What stands where a packet has been laid aside. -/
def IMid (w : World) (T : PK) (o : List UInt8) (v : Value) (wx : World) : Prop :=
  ∃ g vo, v = .pointer (some ⟨g, 0, none⟩) ∧ w.heap.size ≤ g ∧ Blk wx g 26 (PK.cells { T with op := vo }) ∧ Ow wx w.heap.size vo o ∧ (∀ k, vo.ownBlock = some k → k ≠ g) ∧ Below w.heap.size w wx
/-- How long a head says that it is. -/
def ihd (L : List UInt8) : Nat := (L.getD 0 0).toNat % 16 * 4
/-- Which error Decode tells. -/
def ipC (L : List UInt8) : Int :=
  if L.length < 20 then 3 else if (L.getD 0 0).toNat / 16 ≠ 4 then 90
  else if ihd L < 20 ∨ L.length < ihd L ∨ b16 L 2 < ihd L ∨ (L.length : Int) < b16 L 2 then 91
  else if sumw (L.take (ihd L)) 0 ≠ 65535 then 5 else if okO ((L.take (ihd L)).drop 20) = false then 92 else if (L.getD 8 0).toNat = 0 then 93 else if 32768 ≤ b16 L 6 then 1 else 0
/-- What is read. -/
def dPK (L : List UInt8) (op : Value) : PK :=
  ⟨⟨L.getD 12 0, L.getD 13 0, L.getD 14 0, L.getD 15 0⟩, ⟨L.getD 16 0, L.getD 17 0, L.getD 18 0, L.getD 19 0⟩, (L.getD 9 0).toNat, (L.getD 8 0).toNat, b16 L 4, (L.getD 1 0).toNat, decide (b16 L 6 / 16384 % 2 = 1), decide (b16 L 6 / 8192 % 2 = 1), b16 L 6 % 8192 * 8, op⟩
def iopL (L : List UInt8) : List UInt8 := (L.take (ihd L)).drop 20
def iplL (L : List UInt8) : List UInt8 := (L.take (b16 L 2).toNat).drop (ihd L)
/-- How Decode ends. -/
def IDEnd (w : World) (L : List UInt8) (e : Ending) (w' : World) : Prop :=
  (ipC L ≠ 0 ∧ e = .returned (.tuple #[PK.zero.v, noS, .int .i64 (ipC L)]) ∧ Below w.heap.size w w') ∨
  (ipC L = 0 ∧ ∃ vo vc B, e = .returned (.tuple #[(dPK L vo).v, vc, .int .i64 0]) ∧ w.heap.size ≤ B ∧ Ow w' w.heap.size vo (iopL L) ∧ (∀ g, vo.ownBlock = some g → g < B) ∧ Ow w' B vc (iplL L) ∧ Below w.heap.size w w')
theorem getD_at (L : List UInt8) (k : Nat) (h : k < L.length) : L.getD k 0 = L[k] := by rw [List.getD_eq_getElem?_getD, List.getElem?_eq_getElem h]; rfl
theorem boxZ {w : World} {motive : World → Prop}
    (h : ∀ X, Below w.heap.size w X → w.heap.size + 2 = X.heap.size → Blk X w.heap.size 26 PK.zeroC → Blk X (w.heap.size + 1) 26 PK.zeroC → motive X) :
    motive ((w.alloc (.cells PK.zeroC 26)).alloc (.cells PK.zeroC 26)) :=
  h _ (boxes_below _ _ _) (by simp) ((Blk.new w 26 PK.zeroC _ rfl).alloc _) (Blk.new _ 26 PK.zeroC _ (by simp))
set_option maxRecDepth 100000 in
set_option maxHeartbeats 40000000 in
theorem idec (L : List UInt8) (v : Value) (w : World) (hr : Rd w v L) (hmax : L.length ≤ 200000000000000) : Calls Tryd.prog 12 #[v] w (IDEnd w L) := by
  obtain ⟨A, c, rfl, hc1, hc2⟩ := hr.form
  obtain ⟨n, hn⟩ : ∃ n, n = L.length := ⟨_, rfl⟩
  rw [← hn] at hr hc1 hmax ⊢
  have HN := Lib.hid hn
  clear hn
  go_enter Tryd.func12, Tryd.ntmps12
  go_upto_region 2 with (fail)
  refine boxZ (motive := fun X => Code.wp Tryd.prog _ _ _ X) ?_
  intro X hB hX hzR hzN
  have hrX := hr.mono hB
  by_cases h20 : n < 20
  · have g1 : decide ((n : Int) < 20) = true := by simp; omega
    have HC := Lib.hid (show ipC L = 3 by unfold ipC; rw [← HN.out, if_pos h20])
    clear hrX
    go_wp2_with (first | ((with_reducible refine at_slot 18 ?_); refine wpList_loadB rfl 26 (.tmp 5) rfl hzN rfl Tryd.underlying26 rfl PK.info ?_) | (refine wpList_storeB rfl 26 (.tmp 2) (.tmp 18) rfl rfl hzR PK.zeroC rfl rfl PK.info rfl PK.zero_one ?_))
    (try simp only [Exit.inBlock, Exit.then])
    have hz2 := (heap_setRow (cells := PK.zeroC) hzR).1
    refine bodyPost_ret (by exact ret_pk rfl _ _ rfl hz2 rfl) (by rfl) ?_
    exact .inl ⟨by rw [HC.out]; decide, by rw [HC.out]; rfl, below_setRow hB hzR (by omega)⟩
  have g1 : decide ((n : Int) < 20) = false := by simp; omega
  have h20' : 20 ≤ n := by omega
  obtain ⟨bb, oo, rfl, hbl, hcs⟩ := hrX.at_ 0 (by rw [← HN.out]; omega)
  have e0 := hcs 0 (by rw [← HN.out]; omega)
  rw [← getD_at L 0, Nat.add_zero] at e0
  have hcs' : ∀ (j : Nat), j < n → X.cell? ⟨bb, oo + j, none⟩ = some (.int .u8 ((L.getD j 0).toNat : Int)) := fun j hj => by rw [getD_at L j (by rw [← HN.out]; exact hj)]; exact hcs j (by rw [← HN.out]; exact hj)
  have HCS := Lib.hid hcs'
  clear hcs hcs'
  have C1 : ipC L = if (L.getD 0 0).toNat / 16 ≠ 4 then 90 else if ihd L < 20 ∨ n < ihd L ∨ b16 L 2 < ihd L ∨ (n : Int) < b16 L 2 then 91
      else if sumw (L.take (ihd L)) 0 ≠ 65535 then 5 else if okO (iopL L) = false then 92 else if (L.getD 8 0).toNat = 0 then 93 else if 32768 ≤ b16 L 6 then 1 else 0 := by
    unfold ipC iopL
    rw [← HN.out, if_neg h20]
  obtain ⟨x, hx⟩ : ∃ x, x = L.getD 0 0 := ⟨_, rfl⟩
  obtain ⟨hd, hhd⟩ : ∃ hd, hd = ihd L := ⟨_, rfl⟩
  have hhx : hd = x.toNat % 16 * 4 := by rw [hhd, hx]; rfl
  obtain ⟨sz, hsz⟩ : ∃ sz : Nat, b16 L 2 = (sz : Int) := ⟨(b16 L 2).toNat, by have := b16_bd L 2; omega⟩
  have hszb := b16_bd L 2
  rw [hsz] at hszb C1
  rw [← hx, ← hhd] at C1
  rw [← hx] at e0
  have hxl := UInt8.toNat_lt x
  have hand := and15 x
  have HHX := Lib.hid hhx
  have HHD := Lib.hid hhd
  have HSZ := Lib.hid hsz
  have HC1 := Lib.hid C1
  have i0 : (0 : Int) < (n : Int) := by omega
  clear C1 hhd hsz h20 hhx hx
  go_wp2_with fail
  refine (at16' _ L 2 2 rfl _ hrX (by rw [← HN.out]; omega)).mono ?_
  rintro e w' ⟨rfl, rfl⟩
  rw [HSZ.out]
  go_wp2_with fail
  refine (at16' _ L 6 6 rfl _ hrX (by rw [← HN.out]; omega)).mono ?_
  rintro e w' ⟨rfl, rfl⟩
  obtain ⟨hf0, hf1⟩ := b16_bd L 6
  obtain ⟨fl, hfl⟩ : ∃ fl, fl = b16 L 6 := ⟨_, rfl⟩
  rw [← hfl] at hf0 hf1 HC1 ⊢
  have HFL := Lib.hid hfl
  clear hfl
  have hh : (x.toNat : Int) % 16 * 4 = (hd : Int) := by rw [HHX.out]; omega
  rw [hh]
  clear hh hand
  by_cases hv : x.toNat / 16 ≠ 4
  · have g2 : ((x.toNat : Int) / 16 != 4) = true := by simp; omega
    have HC := Lib.hid (show ipC L = 90 by rw [HC1.out, if_pos hv])
    clear hv
    go_wp2_with (first | ((with_reducible refine at_slot 41 ?_); refine wpList_loadB rfl 26 (.tmp 5) rfl hzN rfl Tryd.underlying26 rfl PK.info ?_) | (refine wpList_storeB rfl 26 (.tmp 2) (.tmp 41) rfl rfl hzR PK.zeroC rfl rfl PK.info rfl PK.zero_one ?_))
    (try simp only [Exit.inBlock, Exit.then])
    have hz2 := (heap_setRow (cells := PK.zeroC) hzR).1
    refine bodyPost_ret (by exact ret_pk rfl _ _ rfl hz2 rfl) (by rfl) ?_
    exact .inl ⟨by rw [HC.out]; decide, by rw [HC.out]; rfl, below_setRow hB hzR (by omega)⟩
  have g2 : ((x.toNat : Int) / 16 != 4) = false := by simp; omega
  have hC2 := HC1.out
  rw [if_neg hv] at hC2
  have HC2 := Lib.hid hC2
  clear hC2 hv HC1
  by_cases hl : hd < 20 ∨ n < hd ∨ (sz : Int) < hd ∨ (n : Int) < sz
  · have HC := Lib.hid (show ipC L = 91 by rw [HC2.out, if_pos hl])
    have key : (decide (hd < 20) = true ∧ decide ((hd : Int) < 20) = true) ∨ (decide (hd < 20) = false ∧ decide ((hd : Int) < 20) = false ∧ decide (n < hd) = true) ∨
        (decide (hd < 20) = false ∧ decide ((hd : Int) < 20) = false ∧ decide (n < hd) = false ∧ decide (sz < hd) = true) ∨ (decide (hd < 20) = false ∧ decide ((hd : Int) < 20) = false ∧ decide (n < hd) = false ∧ decide (sz < hd) = false ∧ decide (n < sz) = true) := by
      simp only [decide_eq_true_eq, decide_eq_false_iff_not]
      omega
    clear hl
    rcases key with ⟨k1, k2⟩ | ⟨k1, k2, k3⟩ | ⟨k1, k2, k3, k4⟩ | ⟨k1, k2, k3, k4, k5⟩
    all_goals
      go_wp2_with (first | ((with_reducible refine at_slot 62 ?_); refine wpList_loadB rfl 26 (.tmp 5) rfl hzN rfl Tryd.underlying26 rfl PK.info ?_) | (refine wpList_storeB rfl 26 (.tmp 2) (.tmp 62) rfl rfl hzR PK.zeroC rfl rfl PK.info rfl PK.zero_one ?_))
      (try simp only [Exit.inBlock, Exit.then])
      have hz2 := (heap_setRow (cells := PK.zeroC) hzR).1
      refine bodyPost_ret (by exact ret_pk rfl _ _ rfl hz2 rfl) (by rfl) ?_
      exact .inl ⟨by rw [HC.out]; decide, by rw [HC.out]; rfl, below_setRow hB hzR (by omega)⟩
  have hC3 := HC2.out
  rw [if_neg hl] at hC3
  have HC3 := Lib.hid hC3
  have h1 : 20 ≤ hd := by omega
  have h2 : hd ≤ n := by omega
  have h3 : hd ≤ sz := by omega
  have h4 : sz ≤ n := by omega
  have k1 : decide (hd < 20) = false := by simp; omega
  have k2 : decide ((hd : Int) < 20) = false := by simp; omega
  have k3 : decide (n < hd) = false := by simp; omega
  have k4 : decide (sz < hd) = false := by simp; omega
  have k5 : decide (n < sz) = false := by simp; omega
  clear hl hC3 HC2
  go_wp2_with ((with_reducible refine at_slot 66 ?_); refine wpList_slice2 rfl (.tmp 64) none (some (.tmp 65)) rfl hrX rfl 0 (hd : Int) .no (.yes rfl rfl) (by omega) (by omega) (by rw [← HN.out]; omega) ?_; intro m1 A1 c1 hm1 m1c m1d hr1)
  have hls : RdL (X.alloc (.cells #[.slice A1 m1.length c1] 24)) (.slice (some ⟨X.heap.size, 0, none⟩) 1 1) [m1] := by
    refine rdL_new _ _ _ _ 1 _ rfl rfl (by omega) rfl ?_
    intro i h h'
    match i, h' with
    | 0, _ => exact hr1
  have em1 : m1 = L.take hd := by rw [hm1.out]; simp
  refine (wsum _ [m1] (by rw [em1]; simp; omega) _ hls).mono ?_
  rintro e w1 ⟨rfl, hb1⟩
  have hfl1 : sumw [m1].flatten 0 = sumw (L.take hd) 0 := by rw [em1]; simp
  rw [hfl1]
  have hbX := below_step (below_alloc X (.cells #[.slice A1 m1.length c1] 24)) (by simp) hb1
  have hB1 := below_step hB hB.size hbX
  have hzR1 := hzR.mono hbX
  have hzN1 := hzN.mono hbX
  have hr1' := hr.mono hB1
  obtain ⟨hS0, hS1⟩ := sumw_bd (L.take hd) 0 (by omega) (by omega)
  obtain ⟨S, hS⟩ : ∃ S, S = sumw (L.take hd) 0 := ⟨_, rfl⟩
  rw [← hS] at hS0 hS1 ⊢
  have hC3 := HC3.out
  rw [← hS] at hC3
  have HC3' := Lib.hid hC3
  have hlt1 := hzR.lt
  clear hls em1 hfl1 hb1 hm1 hr1 m1c m1d hS hC3 HC3 e0 hzR hzN hB hX
  by_cases hsum : S ≠ 65535
  · have g3 : ((65535 : Int) - S != 0) = true := by simp; omega
    have HC := Lib.hid (show ipC L = 5 by rw [HC3'.out, if_pos hsum])
    clear hsum
    go_wp2_with (first | ((with_reducible refine at_slot 70 ?_); refine wpList_loadB rfl 26 (.tmp 5) rfl hzN1 rfl Tryd.underlying26 rfl PK.info ?_) | (refine wpList_storeB rfl 26 (.tmp 2) (.tmp 70) rfl rfl hzR1 PK.zeroC rfl rfl PK.info rfl PK.zero_one ?_))
    (try simp only [Exit.inBlock, Exit.then])
    have hz2 := (heap_setRow (cells := PK.zeroC) hzR1).1
    refine bodyPost_ret (by exact ret_pk rfl _ _ rfl hz2 rfl) (by rfl) ?_
    exact .inl ⟨by rw [HC.out]; decide, by rw [HC.out]; rfl, below_setRow hB1 hzR1 (by omega)⟩
  obtain rfl : S = 65535 := by omega
  clear hsum
  have hC4 := HC3'.out
  rw [if_neg (by simp)] at hC4
  have HC4 := Lib.hid hC4
  clear hC4 HC3' hS0 hS1
  go_wp2_with ((with_reducible refine at_slot 74 ?_); refine wpList_slice2 rfl (.tmp 72) (some (.const (.int .i64 20))) (some (.tmp 73)) rfl hr1' rfl 20 (hd : Int) (.yes rfl rfl) (.yes rfl rfl) (by omega) (by omega) (by rw [← HN.out]; omega) ?_; intro m2 A2 c2 hm2 m2c m2d hr2)
  have em2 : m2 = iopL L := by rw [hm2.out, iopL, ← HHD.out]; simp
  refine (iright _ m2 _ hr2).mono ?_
  rintro e w2 ⟨rfl, hb2⟩
  rw [em2]
  have hB2 := below_step hB1 hB1.size hb2
  have hzR2 := hzR1.mono hb2
  have hzN2 := hzN1.mono hb2
  have hr2' := hr.mono hB2
  have hlt2 := hzR1.lt
  obtain ⟨B, hBo⟩ : ∃ B, B = okO (iopL L) := ⟨_, rfl⟩
  rw [← hBo]
  have hC4 := HC4.out
  rw [← hBo] at hC4
  have HC4' := Lib.hid hC4
  have hE2 : ∀ (j : Nat), j < n → w2.cell? ⟨bb, oo + j, none⟩ = some (.int .u8 ((L.getD j 0).toNat : Int)) := fun j hj => ((hbX.trans (hb2.mono hbX.size)).cell (p := ⟨bb, oo + j, none⟩) hbl).trans (HCS.out j hj)
  have HE2 := Lib.hid hE2
  have hbl2 : bb < w2.heap.size := by have := hbX.size; have := hb2.size; omega
  clear em2 hb2 hm2 hr2 m2c m2d hBo hC4 HC4 hB1 hzR1 hzN1 hr1' hE2 HCS hrX hbX
  cases B
  · have HC := Lib.hid (show ipC L = 92 by rw [HC4'.out]; rfl)
    go_wp2_with (first | ((with_reducible refine at_slot 77 ?_); refine wpList_loadB rfl 26 (.tmp 5) rfl hzN2 rfl Tryd.underlying26 rfl PK.info ?_) | (refine wpList_storeB rfl 26 (.tmp 2) (.tmp 77) rfl rfl hzR2 PK.zeroC rfl rfl PK.info rfl PK.zero_one ?_))
    (try simp only [Exit.inBlock, Exit.then])
    have hz2 := (heap_setRow (cells := PK.zeroC) hzR2).1
    refine bodyPost_ret (by exact ret_pk rfl _ _ rfl hz2 rfl) (by rfl) ?_
    exact .inl ⟨by rw [HC.out]; decide, by rw [HC.out]; rfl, below_setRow hB2 hzR2 (by omega)⟩
  have hC5 := HC4'.out
  rw [if_neg (by simp)] at hC5
  have HC5 := Lib.hid hC5
  clear hC5 HC4'
  obtain ⟨y8, hy8⟩ : ∃ y, y = L.getD 8 0 := ⟨_, rfl⟩
  have d8 := HE2.out 8 (by omega)
  rw [← hy8] at d8 HC5
  have hy8l := UInt8.toNat_lt y8
  have i8 : (8 : Int) < (n : Int) := by omega
  have HY8 := Lib.hid hy8
  clear hy8
  by_cases hy0 : y8.toNat = 0
  · have g4 : ((y8.toNat : Int) == 0) = true := by simp; omega
    have HC := Lib.hid (show ipC L = 93 by rw [HC5.out, if_pos hy0])
    clear hy0
    go_wp2_with (first | ((with_reducible refine at_slot 83 ?_); refine wpList_loadB rfl 26 (.tmp 5) rfl hzN2 rfl Tryd.underlying26 rfl PK.info ?_) | (refine wpList_storeB rfl 26 (.tmp 2) (.tmp 83) rfl rfl hzR2 PK.zeroC rfl rfl PK.info rfl PK.zero_one ?_))
    (try simp only [Exit.inBlock, Exit.then])
    have hz2 := (heap_setRow (cells := PK.zeroC) hzR2).1
    refine bodyPost_ret (by exact ret_pk rfl _ _ rfl hz2 rfl) (by rfl) ?_
    exact .inl ⟨by rw [HC.out]; decide, by rw [HC.out]; rfl, below_setRow hB2 hzR2 (by omega)⟩
  have g4 : ((y8.toNat : Int) == 0) = false := by simp; omega
  have hC6 := HC5.out
  rw [if_neg hy0] at hC6
  have HC6 := Lib.hid hC6
  clear hC6 HC5 hy0
  by_cases hff : 32768 ≤ fl
  · have g5 : (fl / 32768 == 1) = true := by simp; omega
    have HC := Lib.hid (show ipC L = 1 by rw [HC6.out, if_pos hff])
    clear hff
    go_wp2_with (first | ((with_reducible refine at_slot 88 ?_); refine wpList_loadB rfl 26 (.tmp 5) rfl hzN2 rfl Tryd.underlying26 rfl PK.info ?_) | (refine wpList_storeB rfl 26 (.tmp 2) (.tmp 88) rfl rfl hzR2 PK.zeroC rfl rfl PK.info rfl PK.zero_one ?_))
    (try simp only [Exit.inBlock, Exit.then])
    have hz2 := (heap_setRow (cells := PK.zeroC) hzR2).1
    refine bodyPost_ret (by exact ret_pk rfl _ _ rfl hz2 rfl) (by rfl) ?_
    exact .inl ⟨by rw [HC.out]; decide, by rw [HC.out]; rfl, below_setRow hB2 hzR2 (by omega)⟩
  have g5 : (fl / 32768 == 1) = false := by simp; omega
  have HC := Lib.hid (show ipC L = 0 by rw [HC6.out, if_neg hff])
  have hf2 : fl ≤ 32767 := by omega
  clear hff HC6
  go_wp2_with fail
  refine (at16' _ L 4 4 rfl _ hr2' (by rw [← HN.out]; omega)).mono ?_
  rintro e w' ⟨rfl, rfl⟩
  obtain ⟨id4, hid4⟩ : ∃ x, x = b16 L 4 := ⟨_, rfl⟩
  rw [← hid4]
  obtain ⟨y9, hy9⟩ : ∃ y, y = L.getD 9 0 := ⟨_, rfl⟩
  obtain ⟨y1, hy1⟩ : ∃ y, y = L.getD 1 0 := ⟨_, rfl⟩
  have d9 := HE2.out 9 (by omega)
  have d1 := HE2.out 1 (by omega)
  rw [← hy9] at d9
  rw [← hy1] at d1
  obtain ⟨b14, hb14⟩ : ∃ b, b = decide (fl / 16384 % 2 = 1) := ⟨_, rfl⟩
  obtain ⟨b13, hb13⟩ : ∃ b, b = decide (fl / 8192 % 2 = 1) := ⟨_, rfl⟩
  have a14 : bits .and .i64 fl 16384 = if b14 then 16384 else 0 := by
    have h := and_pow fl 14 (by omega)
    rw [show ((2 ^ 14 : Nat) : Int) = 16384 from rfl] at h
    rw [h, hb14]
    by_cases hh : fl / 16384 % 2 = 1 <;> simp [hh]
  have a13 : bits .and .i64 fl 8192 = if b13 then 8192 else 0 := by
    have h := and_pow fl 13 (by omega)
    rw [show ((2 ^ 13 : Nat) : Int) = 8192 from rfl] at h
    rw [h, hb13]
    by_cases hh : fl / 8192 % 2 = 1 <;> simp [hh]
  have hm13 : fl.tmod 8192 = fl % 8192 := Int.tmod_eq_emod_of_nonneg hf0
  have hw13 : IntKind.i64.wrap (fl % 8192 * 8) = fl % 8192 * 8 := by rw [IntKind.wrap_i64]; omega
  obtain ⟨s12, hs12⟩ : ∃ s : IP, s = ⟨L.getD 12 0, L.getD 13 0, L.getD 14 0, L.getD 15 0⟩ := ⟨_, rfl⟩
  obtain ⟨s16, hs16⟩ : ∃ s : IP, s = ⟨L.getD 16 0, L.getD 17 0, L.getD 18 0, L.getD 19 0⟩ := ⟨_, rfl⟩
  have r12 : w2.rangeAt bb (oo + 12) s12.cells.toList := by
    intro j u hu
    rw [Nat.add_assoc]
    rw [hs12] at hu
    match j, hu with
    | 0, hu => rw [HE2.out 12 (by omega)]; exact hu
    | 1, hu => rw [HE2.out 13 (by omega)]; exact hu
    | 2, hu => rw [HE2.out 14 (by omega)]; exact hu
    | 3, hu => rw [HE2.out 15 (by omega)]; exact hu
    | j + 4, hu => simp [IP.cells] at hu
  have r16 : w2.rangeAt bb (oo + 16) s16.cells.toList := by
    intro j u hu
    rw [Nat.add_assoc]
    rw [hs16] at hu
    match j, hu with
    | 0, hu => rw [HE2.out 16 (by omega)]; exact hu
    | 1, hu => rw [HE2.out 17 (by omega)]; exact hu
    | 2, hu => rw [HE2.out 18 (by omega)]; exact hu
    | 3, hu => rw [HE2.out 19 (by omega)]; exact hu
    | j + 4, hu => simp [IP.cells] at hu
  have hdPK : ∀ vo, dPK L vo = ⟨s12, s16, y9.toNat, y8.toNat, id4, y1.toNat, b14, b13, fl % 8192 * 8, vo⟩ := fun vo => by
    unfold dPK
    rw [hs12, hs16, hy9, HY8.out, hid4, hy1, hb14, hb13, HFL.out]
  have HDPK := Lib.hid hdPK
  have hr20 : Rd w2 (.slice (if c = 20 then some ⟨bb, oo, none⟩ else some ⟨bb, oo + 20, none⟩) (hd - 20) (c - 20)) (iopL L) := by
    have h := (rd_take hr2' hd (by rw [← HN.out]; exact h2)).dropAt 20 (by rw [List.length_take, ← HN.out]; omega)
    simp only [Option.map_some, Nat.mul_one, add_lit] at h
    rw [iopL, ← HHD.out]
    exact h
  have hrhs : Rd w2 (.slice (if c = hd then some ⟨bb, oo, none⟩ else some ⟨bb, oo + hd, none⟩) (sz - hd) (c - hd)) (iplL L) := by
    have h := (rd_take hr2' sz (by rw [← HN.out]; exact h4)).dropAt hd (by rw [List.length_take, ← HN.out]; omega)
    simp only [Option.map_some, Nat.mul_one, add_lit] at h
    rw [iplL, HSZ.out, ← HHD.out, Int.toNat_natCast]
    exact h
  obtain ⟨A20, hA20⟩ : ∃ A20, A20 = (if c = 20 then some (⟨bb, oo, none⟩ : Addr) else some ⟨bb, oo + 20, none⟩) := ⟨_, rfl⟩
  rw [← hA20] at hr20
  have hol : (iopL L).length ≤ 140737488355000 := by have := UInt8.toNat_lt (L.getD 0 0); rw [iopL, List.length_drop, List.length_take]; unfold ihd; omega
  have hpl : (iplL L).length ≤ 140737488355000 := by have := b16_bd L 2; rw [iplL, List.length_drop, List.length_take]; omega
  have hat12 : ∀ W, (Instr.arrayAt 23 (.slice (some ⟨bb, oo + 12, none⟩) 4 (c - 12))).run Tryd.prog W = .ok (.pointer (some ⟨bb, oo + 12, none⟩)) W := fun W => run_arrayAt _ _ _ 4 _ _ _ Tryd.underlying23 (Nat.le_refl _)
  have hat16 : ∀ W, (Instr.arrayAt 23 (.slice (some ⟨bb, oo + 16, none⟩) 4 (c - 16))).run Tryd.prog W = .ok (.pointer (some ⟨bb, oo + 16, none⟩)) W := fun W => run_arrayAt _ _ _ 4 _ _ _ Tryd.underlying23 (Nat.le_refl _)
  have ci16 : (16 : Int) ≤ (c : Int) := by omega
  have ci20 : (20 : Int) ≤ (c : Int) := by omega
  have c12 : ¬ c = 12 := by omega
  have c16 : ¬ c = 16 := by omega
  have n16 : 16 ≤ n := by omega
  have cc16 : 16 ≤ c := by omega
  have cc20 : 20 ≤ c := by omega
  have i9 : (9 : Int) < (n : Int) := by omega
  have i1 : (1 : Int) < (n : Int) := by omega
  have hd20 : (20 : Int) ≤ (hd : Int) := by omega
  have hdc : (hd : Int) ≤ (c : Int) := by omega
  have hdc' : hd ≤ c := by omega
  have HOL := Lib.hid (And.intro hol hpl)
  clear hs12 hs16 hy9 hy1 hb14 hb13 hid4 hdPK hol hpl
  go_upto_region 20 with (fail)
  go_cut [13] from 94 to 128 (fun v wx => IMid w2 ⟨s12, s16, y9.toNat, y8.toNat, id4, y1.toNat, b14, b13, fl % 8192 * 8, noS⟩ (iopL L) v wx)
  case first =>
    rename_i K20 hK20
    have hS0 : (fun w' : World => w'.rangeAt bb (oo + 12) s12.cells.toList ∧ w'.rangeAt bb (oo + 16) s16.cells.toList ∧ w'.cell? ⟨bb, oo + 9, none⟩ = some (.int .u8 (y9.toNat : Int)) ∧ w'.cell? ⟨bb, oo + 8, none⟩ = some (.int .u8 (y8.toNat : Int)) ∧ w'.cell? ⟨bb, oo + 1, none⟩ = some (.int .u8 (y1.toNat : Int))) w2.drew := ⟨r12, r16, d9, d8, d1⟩
    refine wp_region_any (by kernel_rfl) (wpAny_of_G (n := 36) (S := fun w' => w'.rangeAt bb (oo + 12) s12.cells.toList ∧ w'.rangeAt bb (oo + 16) s16.cells.toList ∧ w'.cell? ⟨bb, oo + 9, none⟩ = some (.int .u8 (y9.toNat : Int)) ∧ w'.cell? ⟨bb, oo + 8, none⟩ = some (.int .u8 (y8.toNat : Int)) ∧ w'.cell? ⟨bb, oo + 1, none⟩ = some (.int .u8 (y1.toNat : Int))) _ _ _ _ ?_)
    refine G.pure' (i := 0) (v := .slice (some ⟨bb, oo, none⟩) n c) rfl (by kernel_rfl) (fun _ _ _ h => h) (.inl ⟨rfl, fun w' _ => ?_⟩) (fun _ => hS0) ?_
    · simp [execOp, Act.eval, go_sem]
    simp only [Act.put, List.getElem_toArray, List.getElem_cons_zero, List.setIfInBounds_toArray, List.set_cons_zero, List.set_cons_succ]
    refine G.pure' (i := 1) (v := .slice (some ⟨bb, oo + 12, none⟩) 4 (c - 12)) rfl (by kernel_rfl) (fun _ _ _ h => h) (.inl ⟨rfl, fun w' _ => ?_⟩) (fun _ => hS0) ?_
    · simp [execOp, Act.eval, go_sem, ci16, c12]
    simp only [Act.put, List.getElem_toArray, List.getElem_cons_zero, List.getElem_cons_succ, List.setIfInBounds_toArray, List.set_cons_zero, List.set_cons_succ]
    refine G.pure' (i := 2) (v := .pointer (some ⟨bb, oo + 12, none⟩)) rfl (by kernel_rfl) (fun _ _ _ h => h) (.inl ⟨rfl, fun w' _ => ?_⟩) (fun _ => hS0) ?_
    · simp [execOp, Act.eval, go_sem, hat12]
    simp only [Act.put, List.getElem_toArray, List.getElem_cons_zero, List.getElem_cons_succ, List.setIfInBounds_toArray, List.set_cons_zero, List.set_cons_succ]
    refine G.load (i := 3) (v := .agg s12.cells) rfl (by kernel_rfl) (fun _ _ _ h => h) (yieldsIf_load_mid rfl 23 (.tmp 96) rfl bb (oo + 12) rfl s12.cells.toList _ (fun w' hw => hw.1) Tryd.underlying23 rfl IP.info) hS0 ?_
    simp only [Act.put, List.getElem_toArray, List.getElem_cons_zero, List.getElem_cons_succ, List.setIfInBounds_toArray, List.set_cons_zero, List.set_cons_succ]
    refine G.pure' (i := 4) (v := .slice (some ⟨bb, oo, none⟩) n c) rfl (by kernel_rfl) (fun _ _ _ h => h) (.inl ⟨rfl, fun w' _ => ?_⟩) (fun _ => hS0) ?_
    · simp [execOp, Act.eval, go_sem]
    simp only [Act.put, List.getElem_toArray, List.getElem_cons_zero, List.getElem_cons_succ, List.setIfInBounds_toArray, List.set_cons_zero, List.set_cons_succ]
    refine G.pure' (i := 5) (v := .slice (some ⟨bb, oo + 16, none⟩) 4 (c - 16)) rfl (by kernel_rfl) (fun _ _ _ h => h) (.inl ⟨rfl, fun w' _ => ?_⟩) (fun _ => hS0) ?_
    · simp [execOp, Act.eval, go_sem, ci20, c16]
    simp only [Act.put, List.getElem_toArray, List.getElem_cons_zero, List.getElem_cons_succ, List.setIfInBounds_toArray, List.set_cons_zero, List.set_cons_succ]
    refine G.pure' (i := 6) (v := .pointer (some ⟨bb, oo + 16, none⟩)) rfl (by kernel_rfl) (fun _ _ _ h => h) (.inl ⟨rfl, fun w' _ => ?_⟩) (fun _ => hS0) ?_
    · simp [execOp, Act.eval, go_sem, hat16]
    simp only [Act.put, List.getElem_toArray, List.getElem_cons_zero, List.getElem_cons_succ, List.setIfInBounds_toArray, List.set_cons_zero, List.set_cons_succ]
    refine G.load (i := 7) (v := .agg s16.cells) rfl (by kernel_rfl) (fun _ _ _ h => h) (yieldsIf_load_mid rfl 23 (.tmp 100) rfl bb (oo + 16) rfl s16.cells.toList _ (fun w' hw => hw.2.1) Tryd.underlying23 rfl IP.info) hS0 ?_
    simp only [Act.put, List.getElem_toArray, List.getElem_cons_zero, List.getElem_cons_succ, List.setIfInBounds_toArray, List.set_cons_zero, List.set_cons_succ]
    refine G.pure' (i := 8) (v := .slice (some ⟨bb, oo, none⟩) n c) rfl (by kernel_rfl) (fun _ _ _ h => h) (.inl ⟨rfl, fun w' _ => ?_⟩) (fun _ => hS0) ?_
    · simp [execOp, Act.eval, go_sem]
    simp only [Act.put, List.getElem_toArray, List.getElem_cons_zero, List.getElem_cons_succ, List.setIfInBounds_toArray, List.set_cons_zero, List.set_cons_succ]
    refine G.pure' (i := 9) (v := .pointer (some ⟨bb, oo + 9, none⟩)) rfl (by kernel_rfl) (fun _ _ _ h => h) (.inl ⟨rfl, fun w' _ => ?_⟩) (fun _ => hS0) ?_
    · simp [execOp, Act.eval, go_sem, i9]
    simp only [Act.put, List.getElem_toArray, List.getElem_cons_zero, List.getElem_cons_succ, List.setIfInBounds_toArray, List.set_cons_zero, List.set_cons_succ]
    refine G.load (i := 10) (v := .int .u8 (y9.toNat : Int)) rfl (by kernel_rfl) (fun _ _ _ h => h) (.inl ⟨rfl, fun w' hS => ?_⟩) (hS0) ?_
    · simp [execOp, Act.eval, hS, go_sem]
    simp only [Act.put, List.getElem_toArray, List.getElem_cons_zero, List.getElem_cons_succ, List.setIfInBounds_toArray, List.set_cons_zero, List.set_cons_succ]
    refine G.pure' (i := 11) (v := .int .i64 (y9.toNat : Int)) rfl (by kernel_rfl) (fun _ _ _ h => h) (.inl ⟨rfl, fun w' _ => ?_⟩) (fun _ => hS0) ?_
    · simp [execOp, Act.eval, go_sem, w64_u8]
    simp only [Act.put, List.getElem_toArray, List.getElem_cons_zero, List.getElem_cons_succ, List.setIfInBounds_toArray, List.set_cons_zero, List.set_cons_succ]
    refine G.pure' (i := 12) (v := .slice (some ⟨bb, oo, none⟩) n c) rfl (by kernel_rfl) (fun _ _ _ h => h) (.inl ⟨rfl, fun w' _ => ?_⟩) (fun _ => hS0) ?_
    · simp [execOp, Act.eval, go_sem]
    simp only [Act.put, List.getElem_toArray, List.getElem_cons_zero, List.getElem_cons_succ, List.setIfInBounds_toArray, List.set_cons_zero, List.set_cons_succ]
    refine G.pure' (i := 13) (v := .pointer (some ⟨bb, oo + 8, none⟩)) rfl (by kernel_rfl) (fun _ _ _ h => h) (.inl ⟨rfl, fun w' _ => ?_⟩) (fun _ => hS0) ?_
    · simp [execOp, Act.eval, go_sem, i8]
    simp only [Act.put, List.getElem_toArray, List.getElem_cons_zero, List.getElem_cons_succ, List.setIfInBounds_toArray, List.set_cons_zero, List.set_cons_succ]
    refine G.load (i := 14) (v := .int .u8 (y8.toNat : Int)) rfl (by kernel_rfl) (fun _ _ _ h => h) (.inl ⟨rfl, fun w' hS => ?_⟩) (hS0) ?_
    · simp [execOp, Act.eval, hS, go_sem]
    simp only [Act.put, List.getElem_toArray, List.getElem_cons_zero, List.getElem_cons_succ, List.setIfInBounds_toArray, List.set_cons_zero, List.set_cons_succ]
    refine G.pure' (i := 15) (v := .int .i64 (y8.toNat : Int)) rfl (by kernel_rfl) (fun _ _ _ h => h) (.inl ⟨rfl, fun w' _ => ?_⟩) (fun _ => hS0) ?_
    · simp [execOp, Act.eval, go_sem, w64_u8]
    simp only [Act.put, List.getElem_toArray, List.getElem_cons_zero, List.getElem_cons_succ, List.setIfInBounds_toArray, List.set_cons_zero, List.set_cons_succ]
    refine G.pure' (i := 16) (v := .int .i64 id4) rfl (by kernel_rfl) (fun _ _ _ h => h) (.inl ⟨rfl, fun w' _ => ?_⟩) (fun _ => hS0) ?_
    · simp [execOp, Act.eval, go_sem]
    simp only [Act.put, List.getElem_toArray, List.getElem_cons_zero, List.getElem_cons_succ, List.setIfInBounds_toArray, List.set_cons_zero, List.set_cons_succ]
    refine G.pure' (i := 17) (v := .slice (some ⟨bb, oo, none⟩) n c) rfl (by kernel_rfl) (fun _ _ _ h => h) (.inl ⟨rfl, fun w' _ => ?_⟩) (fun _ => hS0) ?_
    · simp [execOp, Act.eval, go_sem]
    simp only [Act.put, List.getElem_toArray, List.getElem_cons_zero, List.getElem_cons_succ, List.setIfInBounds_toArray, List.set_cons_zero, List.set_cons_succ]
    refine G.pure' (i := 18) (v := .pointer (some ⟨bb, oo + 1, none⟩)) rfl (by kernel_rfl) (fun _ _ _ h => h) (.inl ⟨rfl, fun w' _ => ?_⟩) (fun _ => hS0) ?_
    · simp [execOp, Act.eval, go_sem, i1]
    simp only [Act.put, List.getElem_toArray, List.getElem_cons_zero, List.getElem_cons_succ, List.setIfInBounds_toArray, List.set_cons_zero, List.set_cons_succ]
    refine G.load (i := 19) (v := .int .u8 (y1.toNat : Int)) rfl (by kernel_rfl) (fun _ _ _ h => h) (.inl ⟨rfl, fun w' hS => ?_⟩) (hS0) ?_
    · simp [execOp, Act.eval, hS, go_sem]
    simp only [Act.put, List.getElem_toArray, List.getElem_cons_zero, List.getElem_cons_succ, List.setIfInBounds_toArray, List.set_cons_zero, List.set_cons_succ]
    refine G.pure' (i := 20) (v := .int .i64 (y1.toNat : Int)) rfl (by kernel_rfl) (fun _ _ _ h => h) (.inl ⟨rfl, fun w' _ => ?_⟩) (fun _ => hS0) ?_
    · simp [execOp, Act.eval, go_sem, w64_u8]
    simp only [Act.put, List.getElem_toArray, List.getElem_cons_zero, List.getElem_cons_succ, List.setIfInBounds_toArray, List.set_cons_zero, List.set_cons_succ]
    refine G.pure' (i := 21) (v := .int .i64 fl) rfl (by kernel_rfl) (fun _ _ _ h => h) (.inl ⟨rfl, fun w' _ => ?_⟩) (fun _ => hS0) ?_
    · simp [execOp, Act.eval, go_sem]
    simp only [Act.put, List.getElem_toArray, List.getElem_cons_zero, List.getElem_cons_succ, List.setIfInBounds_toArray, List.set_cons_zero, List.set_cons_succ]
    refine G.pure' (i := 22) (v := .int .i64 (if b14 then 16384 else 0)) rfl (by kernel_rfl) (fun _ _ _ h => h) (.inl ⟨rfl, fun w' _ => ?_⟩) (fun _ => hS0) ?_
    · simp [execOp, Act.eval, go_sem, a14]
    simp only [Act.put, List.getElem_toArray, List.getElem_cons_zero, List.getElem_cons_succ, List.setIfInBounds_toArray, List.set_cons_zero, List.set_cons_succ]
    refine G.pure' (i := 23) (v := .bool b14) rfl (by kernel_rfl) (fun _ _ _ h => h) (.inl ⟨rfl, fun w' _ => ?_⟩) (fun _ => hS0) ?_
    · (cases b14 <;> simp [execOp, Act.eval, go_sem])
    simp only [Act.put, List.getElem_toArray, List.getElem_cons_zero, List.getElem_cons_succ, List.setIfInBounds_toArray, List.set_cons_zero, List.set_cons_succ]
    refine G.pure' (i := 24) (v := .int .i64 fl) rfl (by kernel_rfl) (fun _ _ _ h => h) (.inl ⟨rfl, fun w' _ => ?_⟩) (fun _ => hS0) ?_
    · simp [execOp, Act.eval, go_sem]
    simp only [Act.put, List.getElem_toArray, List.getElem_cons_zero, List.getElem_cons_succ, List.setIfInBounds_toArray, List.set_cons_zero, List.set_cons_succ]
    refine G.pure' (i := 25) (v := .int .i64 (if b13 then 8192 else 0)) rfl (by kernel_rfl) (fun _ _ _ h => h) (.inl ⟨rfl, fun w' _ => ?_⟩) (fun _ => hS0) ?_
    · simp [execOp, Act.eval, go_sem, a13]
    simp only [Act.put, List.getElem_toArray, List.getElem_cons_zero, List.getElem_cons_succ, List.setIfInBounds_toArray, List.set_cons_zero, List.set_cons_succ]
    refine G.pure' (i := 26) (v := .bool b13) rfl (by kernel_rfl) (fun _ _ _ h => h) (.inl ⟨rfl, fun w' _ => ?_⟩) (fun _ => hS0) ?_
    · (cases b13 <;> simp [execOp, Act.eval, go_sem])
    simp only [Act.put, List.getElem_toArray, List.getElem_cons_zero, List.getElem_cons_succ, List.setIfInBounds_toArray, List.set_cons_zero, List.set_cons_succ]
    refine G.pure' (i := 27) (v := .int .i64 fl) rfl (by kernel_rfl) (fun _ _ _ h => h) (.inl ⟨rfl, fun w' _ => ?_⟩) (fun _ => hS0) ?_
    · simp [execOp, Act.eval, go_sem]
    simp only [Act.put, List.getElem_toArray, List.getElem_cons_zero, List.getElem_cons_succ, List.setIfInBounds_toArray, List.set_cons_zero, List.set_cons_succ]
    refine G.pure' (i := 28) (v := .int .i64 (fl % 8192)) rfl (by kernel_rfl) (fun _ _ _ h => h) (.inl ⟨rfl, fun w' _ => ?_⟩) (fun _ => hS0) ?_
    · simp [execOp, Act.eval, go_sem, hm13]
    simp only [Act.put, List.getElem_toArray, List.getElem_cons_zero, List.getElem_cons_succ, List.setIfInBounds_toArray, List.set_cons_zero, List.set_cons_succ]
    refine G.pure' (i := 29) (v := .int .i64 (fl % 8192 * 8)) rfl (by kernel_rfl) (fun _ _ _ h => h) (.inl ⟨rfl, fun w' _ => ?_⟩) (fun _ => hS0) ?_
    · simp [execOp, Act.eval, go_sem, hw13]
    simp only [Act.put, List.getElem_toArray, List.getElem_cons_zero, List.getElem_cons_succ, List.setIfInBounds_toArray, List.set_cons_zero, List.set_cons_succ]
    refine G.pure' (i := 30) (v := .slice (some ⟨bb, oo, none⟩) n c) rfl (by kernel_rfl) (fun _ _ _ h => h) (.inl ⟨rfl, fun w' _ => ?_⟩) (fun _ => hS0) ?_
    · simp [execOp, Act.eval, go_sem]
    simp only [Act.put, List.getElem_toArray, List.getElem_cons_zero, List.getElem_cons_succ, List.setIfInBounds_toArray, List.set_cons_zero, List.set_cons_succ]
    refine G.pure' (i := 31) (v := .int .i64 (hd : Int)) rfl (by kernel_rfl) (fun _ _ _ h => h) (.inl ⟨rfl, fun w' _ => ?_⟩) (fun _ => hS0) ?_
    · simp [execOp, Act.eval, go_sem]
    simp only [Act.put, List.getElem_toArray, List.getElem_cons_zero, List.getElem_cons_succ, List.setIfInBounds_toArray, List.set_cons_zero, List.set_cons_succ]
    refine G.pure' (i := 32) (v := .slice A20 (hd - 20) (c - 20)) rfl (by kernel_rfl) (fun _ _ _ h => h) (.inl ⟨rfl, fun w' _ => ?_⟩) (fun _ => hS0) ?_
    · simp [execOp, Act.eval, go_sem, hd20, hdc, hA20]
    simp only [Act.put, List.getElem_toArray, List.getElem_cons_zero, List.getElem_cons_succ, List.setIfInBounds_toArray, List.set_cons_zero, List.set_cons_succ]
    have hSm : ∀ w' : World, Below w2.heap.size w2 w' → (fun w' : World => w'.rangeAt bb (oo + 12) s12.cells.toList ∧ w'.rangeAt bb (oo + 16) s16.cells.toList ∧ w'.cell? ⟨bb, oo + 9, none⟩ = some (.int .u8 (y9.toNat : Int)) ∧ w'.cell? ⟨bb, oo + 8, none⟩ = some (.int .u8 (y8.toNat : Int)) ∧ w'.cell? ⟨bb, oo + 1, none⟩ = some (.int .u8 (y1.toNat : Int))) w' := fun w' hw =>
      ⟨fun j u hu => (hw.cell (p := ⟨bb, oo + 12 + j, none⟩) hbl2).trans (r12 j u hu), fun j u hu => (hw.cell (p := ⟨bb, oo + 16 + j, none⟩) hbl2).trans (r16 j u hu), (hw.cell (p := ⟨bb, oo + 9, none⟩) hbl2).trans d9, (hw.cell (p := ⟨bb, oo + 8, none⟩) hbl2).trans d8, (hw.cell (p := ⟨bb, oo + 1, none⟩) hbl2).trans d1⟩
    have hBd : Below w2.heap.size w2 w2.drew := (Below.refl _ _).drew
    refine G.two (i := 33) (j := 35) ?rT rfl rfl ?aT ?bT
    case rT => kernel_rfl
    case aT =>
      intro K hK
      refine step_call rfl rfl (enters_of Tryd.func27 (by kernel_rfl) rfl) (clone_b _ (iopL L) _ hr20.drew (by have := HOL.out.1; omega)) rfl ?_
      rintro e w3 ⟨v3, rfl, ho3, hb3⟩
      obtain ⟨Av, cv, rfl, _, _⟩ := ho3.rd.form
      have hB23 := hBd.trans hb3
      have hS3 := hSm w3 hB23
      refine ⟨_, rfl, hK _ _ (fun _ => hS3) ?_⟩
      clear hK K
      simp only [Act.put, List.getElem_toArray, List.getElem_cons_zero, List.getElem_cons_succ, List.setIfInBounds_toArray, List.set_cons_zero, List.set_cons_succ]
      refine G.pure' (i := 34) (v := .agg (PK.cells ⟨s12, s16, y9.toNat, y8.toNat, id4, y1.toNat, b14, b13, fl % 8192 * 8, .slice Av (iopL L).length cv⟩)) rfl (by kernel_rfl) (fun _ _ _ h => h) (.inl ⟨rfl, fun w' _ => ?_⟩) (fun _ => hS3) ?_
      · simp [execOp, Act.eval, go_sem, IP.cells]
      simp only [Act.put, List.getElem_toArray, List.getElem_cons_zero, List.getElem_cons_succ, List.setIfInBounds_toArray, List.set_cons_zero, List.set_cons_succ]
      have hnew : Blk (w3.alloc (.cells PK.zeroC 26)) w3.heap.size 26 PK.zeroC := Blk.new w3 26 PK.zeroC _ rfl
      have hS5 := hSm _ (hB23.alloc hB23.size (.cells PK.zeroC 26))
      refine G.only' (i := 35) ?r35a35 rfl ?o35a35
      case r35a35 => kernel_rfl
      intro K hK
      refine step_allocPk rfl rfl ?_
      refine hK _ _ (fun _ => hS5) ?_
      clear hK K
      simp only [Act.put, List.getElem_toArray, List.getElem_cons_zero, List.getElem_cons_succ]
      refine G.only' (i := 36) ?r36a35 rfl ?o36a35
      case r36a35 => kernel_rfl
      intro K hK
      refine step_storePk rfl (.tmp 13) (.tmp 128) rfl hnew rfl ⟨s12, s16, y9.toNat, y8.toNat, id4, y1.toNat, b14, b13, fl % 8192 * 8, .slice Av (iopL L).length cv⟩ rfl ?xSA ?ySA ?_
      case xSA => simp [Act.eval]
      case ySA => simp [Act.eval]
      refine hK _ _ (fun e => Bool.noConfusion (show true = false from e)) (G.done (by kernel_rfl) ?_)
      clear hK K
      simp only [Act.put, List.getElem_toArray, List.getElem_cons_zero, List.getElem_cons_succ]
      simp only [Exit.then]
      refine hK20 _ _ ?_
      go_meet
      exact ⟨w3.heap.size, _, rfl, hB23.size, (heap_setRow hnew).1, (ho3.mono (below_alloc w3 _)).off (Touch.rowB _ hnew) (fun g hg e => by have := (owns_block_lt ho3 hg).2; have e' : g = w3.heap.size := e; omega), (fun k hk => by have := (owns_block_lt ho3 hk).2; omega), below_setRow (hB23.alloc hB23.size _) hnew hB23.size⟩
    case bT =>
      intro K hK
      refine step_allocPk rfl rfl ?_
      have hBa : Below w2.heap.size w2 (w2.drew.alloc (.cells PK.zeroC 26)) := hBd.alloc (Nat.le_refl _) _
      have hS4 := hSm _ hBa
      refine hK _ _ (fun _ => hS4) ?_
      clear hK K
      simp only [Act.put, List.getElem_toArray, List.getElem_cons_zero, List.getElem_cons_succ, List.setIfInBounds_toArray, List.set_cons_zero, List.set_cons_succ]
      have hr20a := hr20.mono hBa
      refine G.only' (i := 33) ?r33b33 rfl ?o33b33
      case r33b33 => kernel_rfl
      intro K hK
      refine step_call rfl rfl (enters_of Tryd.func27 (by kernel_rfl) rfl) (clone_b _ (iopL L) _ hr20a (by have := HOL.out.1; omega)) rfl ?_
      rintro e w3 ⟨v3, rfl, ho3, hb3⟩
      obtain ⟨Av, cv, rfl, _, _⟩ := ho3.rd.form
      have hS6 := hSm w3 (hBa.trans (hb3.mono (by simp)))
      refine ⟨_, rfl, hK _ _ (fun _ => hS6) ?_⟩
      clear hK K
      simp only [Act.put, List.getElem_toArray, List.getElem_cons_zero, List.getElem_cons_succ, List.setIfInBounds_toArray, List.set_cons_zero, List.set_cons_succ]
      refine G.pure' (i := 34) (v := .agg (PK.cells ⟨s12, s16, y9.toNat, y8.toNat, id4, y1.toNat, b14, b13, fl % 8192 * 8, .slice Av (iopL L).length cv⟩)) rfl (by kernel_rfl) (fun _ _ _ h => h) (.inl ⟨rfl, fun w' _ => ?_⟩) (fun _ => hS6) ?_
      · simp [execOp, Act.eval, go_sem, IP.cells]
      simp only [Act.put, List.getElem_toArray, List.getElem_cons_zero, List.getElem_cons_succ, List.setIfInBounds_toArray, List.set_cons_zero, List.set_cons_succ]
      have hnew : Blk w3 w2.heap.size 26 PK.zeroC := (Blk.new w2.drew 26 PK.zeroC w2.heap.size rfl).mono hb3
      refine G.only' (i := 36) ?r36b36 rfl ?o36b36
      case r36b36 => kernel_rfl
      intro K hK
      refine step_storePk rfl (.tmp 13) (.tmp 128) rfl hnew rfl ⟨s12, s16, y9.toNat, y8.toNat, id4, y1.toNat, b14, b13, fl % 8192 * 8, .slice Av (iopL L).length cv⟩ rfl ?xSB ?ySB ?_
      case xSB => simp [Act.eval]
      case ySB => simp [Act.eval]
      refine hK _ _ (fun e => Bool.noConfusion (show true = false from e)) (G.done (by kernel_rfl) ?_)
      clear hK K
      simp only [Act.put, List.getElem_toArray, List.getElem_cons_zero, List.getElem_cons_succ]
      simp only [Exit.then]
      refine hK20 _ _ ?_
      go_meet
      exact ⟨w2.heap.size, _, rfl, Nat.le_refl _, (heap_setRow hnew).1, (ho3.less (by simp)).off (Touch.rowB _ hnew) (fun g hg e => by have := (owns_block_lt ho3 hg).1; simp at this; have e' : g = w2.heap.size := e; omega), (fun k hk => by have := (owns_block_lt ho3 hk).1; simp at this; omega), below_setRow (hBa.trans (hb3.mono (by simp))) hnew (Nat.le_refl _)⟩
  case rest =>
    obtain ⟨g, vo, rfl, hg, hbg, how, hno, hbc⟩ := hcut
    obtain ⟨w4, rfl⟩ : ∃ x, x = wc := ⟨_, rfl⟩
    have hB4 := below_step hB2 hB2.size hbc
    have hzR4 := hzR2.mono hbc
    have hr4 := hrhs.mono hbc
    have z24 := hbc.size
    have zw2 := hB2.size
    obtain ⟨Av, cv, rfl, _, _⟩ := how.rd.form
    have hbg' : Blk w4 g 26 (PK.cells ⟨s12, s16, y9.toNat, y8.toNat, id4, y1.toNat, b14, b13, fl % 8192 * 8, .slice Av (iopL L).length cv⟩) := hbg
    have HZ2 := Lib.hid hzR2.lt
    clear hzN2 hr2' d8 d9 d1 r12 r16 hr20 hrhs hbg a14 a13 hm13 hw13 hat12 hat16 hzR2 hbc hB2
    obtain ⟨Ah, hAh⟩ : ∃ Ah, Ah = (if c = hd then some (⟨bb, oo, none⟩ : Addr) else some ⟨bb, oo + hd, none⟩) := ⟨_, rfl⟩
    rw [← hAh] at hr4
    have hszc : (sz : Int) ≤ (c : Int) := by omega
    have hszc' : sz ≤ c := by omega
    have hhs : (hd : Int) ≤ (sz : Int) := by omega
    go_upto_region 21 with (fail)
    rename_i K21 hK21
    have hS0 : (fun w' : World => Blk w' g 26 (PK.cells ⟨s12, s16, y9.toNat, y8.toNat, id4, y1.toNat, b14, b13, fl % 8192 * 8, .slice Av (iopL L).length cv⟩)) w4.drew := hbg'
    refine wp_region_any (by kernel_rfl) (wpAny_of_G (n := 6) (S := fun w' => Blk w' g 26 (PK.cells ⟨s12, s16, y9.toNat, y8.toNat, id4, y1.toNat, b14, b13, fl % 8192 * 8, .slice Av (iopL L).length cv⟩)) _ _ _ _ ?_)
    refine G.load (i := 0) (v := PK.v ⟨s12, s16, y9.toNat, y8.toNat, id4, y1.toNat, b14, b13, fl % 8192 * 8, .slice Av (iopL L).length cv⟩) rfl (by kernel_rfl) (fun _ _ _ h => h) (yieldsIf_load_mid rfl 26 (.tmp 13) rfl g 0 rfl (PK.cells ⟨s12, s16, y9.toNat, y8.toNat, id4, y1.toNat, b14, b13, fl % 8192 * 8, .slice Av (iopL L).length cv⟩).toList _ (fun w' hw => Blk.rangeP hw) Tryd.underlying26 rfl PK.info) hS0 ?_
    simp only [Act.put, List.getElem_toArray, List.getElem_cons_zero, List.setIfInBounds_toArray, List.set_cons_zero, List.set_cons_succ]
    refine G.pure' (i := 1) (v := .slice (some ⟨bb, oo, none⟩) n c) rfl (by kernel_rfl) (fun _ _ _ h => h) (.inl ⟨rfl, fun w' _ => ?_⟩) (fun _ => hS0) ?_
    · simp [execOp, Act.eval, go_sem]
    simp only [Act.put, List.getElem_toArray, List.getElem_cons_zero, List.getElem_cons_succ, List.setIfInBounds_toArray, List.set_cons_zero, List.set_cons_succ]
    refine G.pure' (i := 2) (v := .int .i64 (hd : Int)) rfl (by kernel_rfl) (fun _ _ _ h => h) (.inl ⟨rfl, fun w' _ => ?_⟩) (fun _ => hS0) ?_
    · simp [execOp, Act.eval, go_sem]
    simp only [Act.put, List.getElem_toArray, List.getElem_cons_zero, List.getElem_cons_succ, List.setIfInBounds_toArray, List.set_cons_zero, List.set_cons_succ]
    refine G.pure' (i := 3) (v := .int .i64 (sz : Int)) rfl (by kernel_rfl) (fun _ _ _ h => h) (.inl ⟨rfl, fun w' _ => ?_⟩) (fun _ => hS0) ?_
    · simp [execOp, Act.eval, go_sem]
    simp only [Act.put, List.getElem_toArray, List.getElem_cons_zero, List.getElem_cons_succ, List.setIfInBounds_toArray, List.set_cons_zero, List.set_cons_succ]
    refine G.pure' (i := 4) (v := .slice Ah (sz - hd) (c - hd)) rfl (by kernel_rfl) (fun _ _ _ h => h) (.inl ⟨rfl, fun w' _ => ?_⟩) (fun _ => hS0) ?_
    · simp [execOp, Act.eval, go_sem, hszc, hhs, hAh]
    simp only [Act.put, List.getElem_toArray, List.getElem_cons_zero, List.getElem_cons_succ, List.setIfInBounds_toArray, List.set_cons_zero, List.set_cons_succ]
    refine G.only' (i := 5) ?r5q rfl ?o5q
    case r5q => kernel_rfl
    intro K hK
    refine step_call rfl rfl (enters_of Tryd.func27 (by kernel_rfl) rfl) (clone_b _ (iplL L) _ hr4.drew (by have := HOL.out.2; omega)) rfl ?_
    rintro e w5 ⟨v5, rfl, ho5, hb5⟩
    refine ⟨_, rfl, hK _ _ (fun _ => Blk.mono (w := w4.drew) hS0 hb5) ?_⟩
    clear hK K
    simp only [Act.put, List.getElem_toArray, List.getElem_cons_zero, List.getElem_cons_succ, List.setIfInBounds_toArray, List.set_cons_zero, List.set_cons_succ]
    refine G.only' (i := 6) ?r6q rfl ?o6q
    case r6q => kernel_rfl
    intro K hK
    have hzR5 := Blk.mono (w := w4.drew) hzR4 hb5
    refine step_storePk rfl (.tmp 2) (.tmp 129) rfl hzR5 rfl ⟨s12, s16, y9.toNat, y8.toNat, id4, y1.toNat, b14, b13, fl % 8192 * 8, .slice Av (iopL L).length cv⟩ rfl ?xq ?yq ?_
    case xq => simp [Act.eval]
    case yq => simp [Act.eval]
    refine hK _ _ (fun e => Bool.noConfusion (show true = false from e)) ?_
    clear hK K
    simp only [Act.put, List.getElem_toArray, List.getElem_cons_zero, List.getElem_cons_succ]
    refine G.pure' (i := 7) (v := v5) rfl (by kernel_rfl) (fun _ _ _ h => h) (.inl ⟨rfl, fun w' _ => ?_⟩) (fun e => Bool.noConfusion (show true = false from e)) ?_
    · simp [execOp, Act.eval, go_sem]
    simp only [Act.put, List.getElem_toArray, List.getElem_cons_zero, List.getElem_cons_succ, List.setIfInBounds_toArray, List.set_cons_zero, List.set_cons_succ]
    refine G.lastPure (i := 8) (v := .int .i64 0) (by kernel_rfl) (by kernel_rfl) rfl (.inl ⟨rfl, fun w' _ => ?_⟩) (fun e => Bool.noConfusion (show true = false from e)) ?_
    · simp [execOp, Act.eval, go_sem]
    simp only [Act.put, List.getElem_toArray, List.getElem_cons_zero, List.getElem_cons_succ, List.setIfInBounds_toArray, List.set_cons_zero, List.set_cons_succ]
    simp only [Exit.then]
    refine hK21 _ _ ?_
    clear hK21 K21
    have hB45 := (Below.refl w4.heap.size w4).drew.trans hb5
    have hB5 := below_step hB4 hB4.size hB45
    have hz2 := (heap_setRow (cells := PK.cells ⟨s12, s16, y9.toNat, y8.toNat, id4, y1.toNat, b14, b13, fl % 8192 * 8, .slice Av (iopL L).length cv⟩) hzR5).1
    have hlt4 : w.heap.size < w2.heap.size := by have := HZ2.out; omega
    have HBB := Lib.hid hB5
    clear hbg' hS0 hB5 hAh hA20
    go_wp2
    refine bodyPost_ret (by exact ret_pk rfl _ _ rfl hz2 rfl) (by rfl) ?_
    refine .inr ⟨HC.out, _, v5, w4.heap.size, by rw [HDPK.out]; rfl, hB4.size, ?_, fun k hk => (owns_block_lt how hk).2, ?_, below_setRow HBB.out hzR5 (Nat.le_refl _)⟩
    · exact ((how.less (by omega)).mono hB45).off (Touch.rowB _ hzR5) (fun k hk e => by have := (owns_block_lt how hk).1; have e' : k = w.heap.size := e; omega)
    · exact ho5.off (Touch.rowB _ hzR5) (fun k hk e => by have h5 : w4.heap.size ≤ k := (owns_block_lt ho5 hk).1; have e' : k = w.heap.size := e; omega)
end Go.Proofs.YtbhdojpgjmbogaaDoor
