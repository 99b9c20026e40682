/- The waiting line of package udp: push, pop, and the four that are called from outside. -/
import Derived.Test.YtbhdojpgjmbogaaLine1
import Derived.Test.YtbhdojpgjmbogaaTcp2
import Derived.Test.YtbhdojpgjmbogaaDrawn
import Derived.BigQuiet
namespace Go.Proofs.Ytbhdojpgjmbogaa
open Go.RowKit Go.Maps Go.Shelf
def DG.arr (d : DG) : Array Value := #[bv d.s0, bv d.s1, bv d.s2, bv d.s3, .int .i64 d.port, d.da, d.bu]
abbrev DG.v (d : DG) : Value := .agg #[.int .u8 (d.s0.toNat : Int), .int .u8 (d.s1.toNat : Int), .int .u8 (d.s2.toNat : Int), .int .u8 (d.s3.toNat : Int), .int .i64 d.port, d.da, d.bu]
theorem Blk.dg {w : World} {g : Nat} {d : DG} (h : Blk w g 57 d.arr) :
    w.cell? ⟨g, 0, none⟩ = some (.int .u8 (d.s0.toNat : Int)) ∧ w.cell? ⟨g, 1, none⟩ = some (.int .u8 (d.s1.toNat : Int)) ∧ w.cell? ⟨g, 2, none⟩ = some (.int .u8 (d.s2.toNat : Int)) ∧ w.cell? ⟨g, 3, none⟩ = some (.int .u8 (d.s3.toNat : Int)) ∧
      w.cell? ⟨g, 4, none⟩ = some (.int .i64 d.port) ∧ w.cell? ⟨g, 5, none⟩ = some d.da ∧ w.cell? ⟨g, 6, none⟩ = some d.bu :=
  ⟨h.cell 0, h.cell 1, h.cell 2, h.cell 3, h.cell 4, h.cell 5, h.cell 6⟩
theorem DG.one_da {d : DG} (h : d.one) : d.da.oneCell' = true := h d.da (by simp [DG.cells])
theorem DG.one_bu {d : DG} (h : d.one) : d.bu.oneCell' = true := h d.bu (by simp [DG.cells])
theorem Blk.dgf {w : World} {g : Nat} {d : DG} (h : Blk w g 57 d.arr) (i : Nat) : w.frozen? ⟨g, i, none⟩ = false := h.free i
theorem boxd {w : World} {d : DG} {motive : World → Prop} (h : ∀ X, Below w.heap.size w X → X.heap.size = w.heap.size + 1 → Blk X w.heap.size 57 d.arr → motive X) : motive (w.alloc (.cells #[.int .u8 (d.s0.toNat : Int), .int .u8 (d.s1.toNat : Int), .int .u8 (d.s2.toNat : Int), .int .u8 (d.s3.toNat : Int), .int .i64 d.port, d.da, d.bu] 57)) :=
  h _ (below_alloc w _) (by simp) (Blk.new w 57 d.arr _ rfl)
theorem below_drewN {B : Nat} {w w' : World} (h : Below B w w') (n : Nat) : Below B w (w'.drewN n) := ⟨h.os, h.tape, h.output, h.size, h.block⟩
theorem DG.info : (Try.prog.info? 57).map (·.size) = some 7 := by kernel_rfl
set_option maxHeartbeats 1600000 in
theorem qpush_full (w : World) (p : Nat) (A : Option Addr) (n c : Nat) (d : DG) (hp : Blk w p 100 #[.slice A n c, .int .i64 4]) (hn : n = 4) :
    Calls Try.prog 61 #[.pointer (some ⟨p, 0, none⟩), d.v] w fun e w' => e = .returned (.bool false) ∧ Below w.heap.size w w' := by
  subst hn
  go_enter Try.func61, Try.ntmps61
  go_upto_region 1 with (fail)
  refine boxd (d := d) (motive := fun X => Code.wp Try.prog _ _ _ X) ?_
  intro X hB hX hs
  have c0 := (hp.mono hB).cell 0
  have c1 := (hp.mono hB).cell 1
  simp only [List.getElem?_toArray, List.getElem?_cons_zero, List.getElem?_cons_succ] at c0 c1
  go_quiet (fail)
  go_wp2
  go_ret
  exact ⟨rfl, below_drewN hB _⟩
theorem step_appQ {ops : Array Oper} {o : Oper} {a : Act} {w : World} {K : Act → World → Prop} {Q : Exit → Act → World → Prop} {E : Prop} (hgd : o.guard = none) (s x : Operand)
    (ho : o.op = .call { callee := .builtin .append, args := #[s, x], argTypes := #[52, 52] })
    (base : Nat) {v : Value} {D : List DG} {d : DG} {g c : Nat} (h : QS w base v D) (hs : a.eval s = v) (hx : a.eval x = .slice (some ⟨g, 0, none⟩) 1 c)
    (hnews : Blk w g 57 d.arr) (h1 : d.one)
    (hl : (D.length + 1) * 64 ≤ 140737488355328) (hbase : base ≤ w.heap.size)
    (hK : ∀ v' w', QS w' base v' (D ++ [d]) → w.grownBy w' v.ownBlock → (v'.ownBlock = v.ownBlock ∨ ∀ g, v'.ownBlock = some g → w.heap.size ≤ g) → K (a.put o.dst v') w') : if Region.wanted o (yielded ops a.tmps) = true then Oper.wp Try.prog o a w K Q else E := by
  have hw : Region.wanted o (yielded ops a.tmps) = true := by simp [Region.wanted, hgd]
  rw [if_pos hw]
  obtain ⟨v', w', hrun, h2, h3, h4⟩ := run_appQ o.type base v D d ⟨g, 0, none⟩ c h (fun j u hu => by rw [add_lit, Nat.zero_add, hnews.cell j]; rw [← Array.getElem?_toList]; exact hu) h1 hl hbase
  unfold Oper.wp execOp
  simp only [ho, resolve, invoke, builtin, Sem.run_bind, Sem.run_pure, Result.andThen_ok, List.map_toArray, List.map_cons, List.map_nil, hs, hx, hrun]
  exact hK v' w' h2 h3 h4
/-- Where a line lies. -/
def LAt (w : World) (base p : Nat) (qv : Value) (D : List DG) : Prop := Blk w p 100 #[qv, .int .i64 4] ∧ QS w base qv D
/-- What push leaves. -/
def PEnd (w : World) (base p : Nat) (qv : Value) (D : List DG) (d : DG) (w' : World) : Prop :=
  ∃ qv', LAt w' base p qv' (D ++ [d]) ∧ Touch (fun k => k = p ∨ qv.ownBlock = some k) w w' ∧ (qv'.ownBlock = qv.ownBlock ∨ ∀ g, qv'.ownBlock = some g → w.heap.size ≤ g)
set_option maxHeartbeats 4000000 in
theorem qpush_ok (w : World) (p base : Nat) (qv : Value) (D : List DG) (d : DG) (hL : LAt w base p qv D) (hpb : p < base) (hb : base ≤ w.heap.size) (h1 : d.one) (hn : D.length < 4) :
    Calls Try.prog 61 #[.pointer (some ⟨p, 0, none⟩), d.v] w fun e w' => e = .returned (.bool true) ∧ PEnd w base p qv D d w' := by
  obtain ⟨hp, hq⟩ := hL
  obtain ⟨A, c, rfl, hc1, hc2⟩ := hq.form
  have hn9 : D.length ≤ 9223372036854775807 := by omega
  have g4 : ((D.length : Int) == 4) = false := by simp; omega
  have HN := Lib.hid hn
  go_enter Try.func61, Try.ntmps61
  go_upto_region 1 with (fail)
  refine boxd (d := d) (motive := fun X => Code.wp Try.prog _ _ _ X) ?_
  intro X hB hX hs
  have hpX := hp.mono hB
  have c0 := hpX.cell 0
  have c1 := hpX.cell 1
  simp only [List.getElem?_toArray, List.getElem?_cons_zero, List.getElem?_cons_succ] at c0 c1
  have hqX := hq.mono hB
  have hpl := hp.lt
  clear hq hp
  go_quiet (fail)
  go_upto_region 3 with (fail)
  obtain ⟨s0, s1, s2, s3, s4, s5, s6⟩ := hs.dg
  have hS : Blk ((X.drewN (nq + 1)).alloc (.cells d.arr 57)) (w.heap.size + 1) 57 d.arr := Blk.new _ _ _ _ (by simpa using hX)
  have hB2 : Below w.heap.size w ((X.drewN (nq + 1)).alloc (.cells d.arr 57)) := (below_drewN hB (nq + 1)).alloc (by show w.heap.size ≤ X.heap.size; omega) _
  have hqY : QS ((X.drewN (nq + 1)).alloc (.cells d.arr 57)) base (.slice A D.length c) D := hqX.mono ((below_drewN (Below.refl X.heap.size X) (nq + 1)).alloc (by show X.heap.size ≤ X.heap.size; omega) _)
  have hpY : Blk ((X.drewN (nq + 1)).alloc (.cells d.arr 57)) p 100 #[.slice A D.length c, .int .i64 4] := hpX.mono ((below_drewN (Below.refl X.heap.size X) (nq + 1)).alloc (by show X.heap.size ≤ X.heap.size; omega) _)
  go_region_law ((refine step_appQ (d := d) rfl (.tmp 19) (.tmp 21) rfl base hqY rfl rfl hS (by exact h1) (by omega) (by simp; omega) ?_; intro v1 w1 ho1 hg1 hb1; obtain ⟨A1, c1', e1, _, _⟩ := ho1.form; subst e1; have hp1 : Blk w1 p 100 #[.slice A D.length c, .int .i64 4] := (hg1.block p hpY.lt (fun e => by have := (hqY.lt e.symm).1; omega)).trans hpY; have f1 := hp1.free 0; have p1 := hp1.cell 0; simp only [List.getElem?_toArray, List.getElem?_cons_zero] at p1))
  all_goals
    go_wp2
    go_ret
    have hlen : (D ++ [d]).length = D.length + 1 := by simp
    rw [hlen] at ho1 hb1
    have hzY := hB2.size
    refine ⟨rfl, .slice A1 (D.length + 1) c1', ⟨by simpa using hp1.set 0 (.slice A1 (D.length + 1) c1'), ho1.same (by simp [World.setCell]) fun g hg => Below.heap_setCell _ _ _ _ (by have := (ho1.lt hg).1; show g ≠ p; omega)⟩, ?_, hb1.imp id fun h g hg => by have := h g hg; simp at this; omega⟩
    refine ⟨hg1.os.trans hB2.os, hg1.tape.trans hB2.tape, hg1.output.trans hB2.output, by have := hg1.size; simp [World.setCell] at this ⊢; omega, fun k hk hS' => ?_⟩
    refine (Below.heap_setCell w1 ⟨p, 0, none⟩ _ k (fun e => hS' (.inl e))).trans ?_
    exact (hg1.block k (Nat.lt_of_lt_of_le hk hzY) (fun e => hS' (.inr e.symm))).trans (hB2.block k hk)
theorem results_dg {fn : Func} {p u : Tmp} (h : fn.results = #[.cell p 57, .tmp u]) (tmps : Array Value) (w : World) {g : Nat} {cs : Array Value} (hp : tmps.getD p undef = .pointer (some ⟨g, 0, none⟩)) (hg : Blk w g 57 cs) (hs : cs.size = 7) :
    (results fn tmps).run Try.prog w = .ok (.tuple #[.agg cs, tmps.getD u undef]) w := by
  rw [results_cell_tmp h, hp]
  have e : (asAddr (.pointer (some ⟨g, 0, none⟩))).run Try.prog w = .ok ⟨g, 0, none⟩ w := rfl
  have hi : (Try.prog.info? 57).map (·.size) = some cs.size := by rw [hs]; exact DG.info
  rw [e]
  simp only [Result.andThen]
  rw [run_loadVar_row w g _ _ cs (0, 0) _ hg Try.underlying57 rfl hi]
def DG.zero : DG := ⟨0, 0, 0, 0, 0, .slice none 0 0, .slice none 0 0⟩
theorem DG.arr_one {d : DG} (h : d.one) : d.arr.all (·.oneCell') = true := by
  have e : d.arr.toList = d.cells := rfl
  rw [← Array.all_toList, e, List.all_eq_true]
  exact h
theorem boxz {w : World} {motive : World → Prop} (h : ∀ X, Below w.heap.size w X → X.heap.size = w.heap.size + 1 → Blk X w.heap.size 57 DG.zero.arr → motive X) : motive (w.alloc (.cells #[.int .u8 0, .int .u8 0, .int .u8 0, .int .u8 0, .int .i64 0, .slice none 0 0, .slice none 0 0] 57)) :=
  h _ (below_alloc w _) (by simp) (Blk.new w 57 DG.zero.arr _ rfl)
set_option maxHeartbeats 4000000 in
theorem qpop_none (w : World) (p base : Nat) (qv : Value) (hL : LAt w base p qv []) :
    Calls Try.prog 62 #[.pointer (some ⟨p, 0, none⟩)] w fun e w' => e = .returned (.tuple #[DG.zero.v, .bool false]) ∧ Below w.heap.size w w' := by
  obtain ⟨hp, hq⟩ := hL
  obtain ⟨A, c, rfl, hc1, hc2⟩ := hq.form
  go_enter Try.func62, Try.ntmps62
  go_upto_region 1 with (fail)
  refine boxz (motive := fun X => Code.wp Try.prog _ _ _ X) ?_
  intro X hB hX hs
  go_upto_region 2 with (fail)
  rw [← hX]
  refine boxz (motive := fun X => Code.wp Try.prog _ _ _ X) ?_
  intro Y hBY hY hsY
  have hB2 := below_step hB hB.size hBY
  have hs2 := hs.mono hBY
  have hp2 := hp.mono hB2
  have c0 := hp2.cell 0
  simp only [List.getElem?_toArray, List.getElem?_cons_zero, List.length_nil] at c0
  go_wp2_with (first | ((with_reducible refine at_slot 11 ?_); refine wpList_loadB rfl 57 (.tmp 4) rfl hsY rfl Try.underlying57 rfl DG.info ?_) | (refine wpList_storeB rfl 57 (.tmp 2) (.tmp 11) rfl rfl hs2 DG.zero.arr rfl rfl DG.info rfl (DG.arr_one (by intro u hu; simp [DG.cells, DG.zero] at hu; rcases hu with rfl | rfl | rfl <;> rfl)) ?_))
  (try simp only [Exit.inBlock, Exit.then])
  have hz3 := (heap_setRow (cells := DG.zero.arr) hs2).1
  refine bodyPost_ret (by exact results_dg rfl _ _ rfl hz3 rfl) (by rfl) ?_
  exact ⟨rfl, below_setRow hB2 hs2 (by omega)⟩
/-- The first one is taken away. -/
theorem QS.tail {w : World} {base g o n c : Nat} {d : DG} {D : List DG} (h : QS w base (.slice (some ⟨g, o, none⟩) n c) (d :: D)) :
    (c = 1 → QS w base (.slice (some ⟨g, o, none⟩) D.length 0) D) ∧ (c ≠ 1 → QS w base (.slice (some ⟨g, o + 7, none⟩) D.length (c - 1)) D) := by
  rcases h with ⟨_, h0⟩ | ⟨g', off, cap, e, h1, h2, h3, h4, h5, h6⟩
  · cases h0
  · injection e with e1 e2 e3
    injection e1 with e1
    injection e1 with e0 e1
    subst e0 e1 e3
    have h3' : D.length + 1 ≤ c := by simpa using h3
    unfold maxLen at h4
    refine ⟨fun hc => ?_, fun hc => ?_⟩
    · refine .inr ⟨g, o, 0, rfl, h1, h2, by omega, by show _ ≤ 2 ^ 63 - 1; omega, fun j hj => h5 j (by omega), fun j u hu => ?_⟩
      have : D = [] := List.eq_nil_of_length_eq_zero (by omega)
      subst this
      simp [dcells] at hu
    · refine .inr ⟨g, o + 7, c - 1, rfl, h1, h2, by omega, by show _ ≤ 2 ^ 63 - 1; omega, fun j hj => ?_, fun j u hu => ?_⟩
      · rw [Nat.add_assoc]; exact h5 (7 + j) (by omega)
      · rw [Nat.add_assoc]
        refine h6 (7 + j) u ?_
        show (d.cells ++ dcells D)[7 + j]? = some u
        rw [List.getElem?_append_right (by simp [DG.cells])]
        rw [← hu]
        congr 1
        show 7 + j - 7 = j
        omega
theorem QS.tail2 {w : World} {base g o n c : Nat} {d : DG} {D : List DG} (h : QS w base (.slice (some ⟨g, o, none⟩) n c) (d :: D)) :
    QS w base (.slice (some (if c = 1 then ⟨g, o, none⟩ else ⟨g, o + 7, none⟩)) D.length (c - 1)) D := by
  obtain ⟨h1, h2⟩ := h.tail
  by_cases hc : c = 1
  · rw [if_pos hc]
    have := h1 hc
    rwa [show c - 1 = 0 by omega]
  · rw [if_neg hc]
    exact h2 hc
theorem run_tailQ (W : World) (g o n c : Nat) (D : List DG) (hm : n = D.length + 1) :
    (Instr.sliceAt 52 (.slice (some ⟨g, o, none⟩) n c) (some (.int .i64 1)) none none).run Try.prog W = .ok (.slice (some (if c = 1 then ⟨g, o, none⟩ else ⟨g, o + 7, none⟩)) D.length (c - 1)) W := by
  have hinfo := dgram_info
  cases hi : Try.prog.info? 57 with
  | none => rw [hi] at hinfo; cases hinfo
  | some i =>
    rw [hi] at hinfo
    simp only [Option.map_some, Option.some.injEq, Prod.mk.injEq] at hinfo
    obtain ⟨hz, hsz, hby⟩ := hinfo
    have hb : (Instr.sliceBounds true n c (some (.int .i64 1)) none none).run Try.prog W = .ok (1, n, c) W := by
      have hle : ((1 : Nat) : Int) ≤ n := by omega
      simp [Instr.sliceBounds, Instr.sliceBound, asIntOf]
      intro h
      omega
    have hm2 : n - 1 = D.length := by omega
    by_cases h1 : c = 1
    · rw [if_pos h1]
      rw [h1] at hb ⊢
      simp [Instr.sliceAt, Instr.slice, run_underlying (Try.underlying52 : Try.prog.underlying 52 = some (.slice 57)), hb, sizeOf, typeInfo, hi, hm2]
    · rw [if_neg h1]
      simp [Instr.sliceAt, Instr.slice, run_underlying (Try.underlying52 : Try.prog.underlying 52 = some (.slice 57)), hb, sizeOf, typeInfo, hi, hsz, h1, hm2, Addr.add_lit]
/-- A whole variable that was boxed is stored into, at a step of a region that draws. -/
theorem step_storeB {ops : Array Oper} {o : Oper} {a : Act} {w : World} {K : Act → World → Prop} {Q : Exit → Act → World → Prop} {E : Prop} (hgd : o.guard = none) (ty : TypeId) (x y : Operand) (ho : o.op = .store ty x y)
    {g : Nat} {t : TypeId} {old : Array Value} (hg : Blk w g t old) (cells : Array Value) (hx : a.eval x = .pointer (some ⟨g, 0, none⟩)) (hy : a.eval y = .agg cells) (hi : (Try.prog.info? ty).map (·.size) = some cells.size)
    (hold : old.size = cells.size) (h1 : cells.all (·.oneCell') = true)
    (h : K (a.put o.dst undef) (w.setRow g cells)) : if Region.wanted o (yielded ops a.tmps) = true then Oper.wp Try.prog o a w K Q else E := by
  have hw : Region.wanted o (yielded ops a.tmps) = true := by simp [Region.wanted, hgd]
  rw [if_pos hw]
  exact wp_store_row ty x y ho g cells hx hy t old hg hi hold h1 h
/-- A slice is stored, at a step of a region that draws. -/
theorem step_storeQ {ops : Array Oper} {o : Oper} {a : Act} {w : World} {K : Act → World → Prop} {Q : Exit → Act → World → Prop} {E : Prop} (hgd : o.guard = none) (x y : Operand) (ho : o.op = .store 52 x y) {b off : Nat} {A : Option Addr} {n c : Nat} {old : Value}
    (hx : a.eval x = .pointer (some ⟨b, off, none⟩)) (hy : a.eval y = .slice A n c) (hc : w.cell? ⟨b, off, none⟩ = some old) (hf : w.frozen? ⟨b, off, none⟩ = false) (h : K (a.put o.dst undef) (w.setCell ⟨b, off, none⟩ (.slice A n c))) :
    if Region.wanted o (yielded ops a.tmps) = true then Oper.wp Try.prog o a w K Q else E := by
  have hw : Region.wanted o (yielded ops a.tmps) = true := by simp [Region.wanted, hgd]
  rw [if_pos hw]
  have e : (Instr.storeAt 52 (.pointer (some ⟨b, off, none⟩)) (.slice A n c)).run Try.prog w = .ok () (w.setCell ⟨b, off, none⟩ (.slice A n c)) := by simp [hc, hf, go_sem]
  unfold Oper.wp execOp
  simp only [ho, hx, hy, Sem.run_bind, e, Result.andThen_ok, Sem.run_pure]
  exact h
/-- What pop leaves. -/
def OEndQ (w : World) (base p : Nat) (qv : Value) (d : DG) (D : List DG) (e : Ending) (w' : World) : Prop :=
  e = .returned (.tuple #[d.v, .bool true]) ∧ ∃ qv', LAt w' base p qv' D ∧ Touch (fun k => k = p) w w' ∧ qv'.ownBlock = qv.ownBlock
set_option maxRecDepth 100000 in
set_option maxHeartbeats 4000000 in
theorem qpop_some (w : World) (p base : Nat) (qv : Value) (d : DG) (D : List DG) (hL : LAt w base p qv (d :: D)) (hpb : p < base) (h1 : d.one) :
    Calls Try.prog 62 #[.pointer (some ⟨p, 0, none⟩)] w (OEndQ w base p qv d D) := by
  obtain ⟨hp, hq⟩ := hL
  obtain ⟨A, c, rfl, hc1, hc2⟩ := hq.form
  obtain ⟨g, o, rfl, hgl, hcs⟩ := hq.at_ 0 (by simp)
  have gn : (((d :: D).length : Int) == 0) = false := by simp; omega
  have gn9 : ((d :: D).length : Int) ≤ 9223372036854775807 := by omega
  have gpos : (0 : Int) < ((d :: D).length : Int) := by simp
  have gposN : 0 < (d :: D).length := by simp
  obtain ⟨n, hn⟩ : ∃ n, n = (d :: D).length := ⟨_, rfl⟩
  rw [← hn] at gn gn9 gpos gposN hp hq hc1
  rw [← hn]
  have HN := Lib.hid hn
  clear hn
  go_enter Try.func62, Try.ntmps62
  go_upto_region 1 with (fail)
  refine boxz (motive := fun X => Code.wp Try.prog _ _ _ X) ?_
  intro X hB hX hs
  go_upto_region 2 with (fail)
  rw [← hX]
  refine boxz (motive := fun X => Code.wp Try.prog _ _ _ X) ?_
  intro Y hBY hY hsY
  have hB2 := below_step hB hB.size hBY
  have hs2 := hs.mono hBY
  have hp2 := hp.mono hB2
  have hq2 := hq.mono hB2
  have c0 := hp2.cell 0
  have f0 := hp2.free 0
  simp only [List.getElem?_toArray, List.getElem?_cons_zero] at c0
  have e0 := (hB2.cell (p := ⟨g, o + 0 * 7 + 0, none⟩) hgl).trans (hcs 0 _ rfl)
  have e1 := (hB2.cell (p := ⟨g, o + 0 * 7 + 1, none⟩) hgl).trans (hcs 1 _ rfl)
  have e2 := (hB2.cell (p := ⟨g, o + 0 * 7 + 2, none⟩) hgl).trans (hcs 2 _ rfl)
  have e3 := (hB2.cell (p := ⟨g, o + 0 * 7 + 3, none⟩) hgl).trans (hcs 3 _ rfl)
  have e4 := (hB2.cell (p := ⟨g, o + 0 * 7 + 4, none⟩) hgl).trans (hcs 4 _ rfl)
  have e5 := (hB2.cell (p := ⟨g, o + 0 * 7 + 5, none⟩) hgl).trans (hcs 5 _ rfl)
  have e6 := (hB2.cell (p := ⟨g, o + 0 * 7 + 6, none⟩) hgl).trans (hcs 6 _ rfl)
  simp only [Nat.zero_mul, Nat.add_zero, List.getElem_cons_zero, bv] at e0 e1 e2 e3 e4 e5 e6
  clear hcs
  go_upto_region 4 with (fail)
  rename_i K0 hK0
  have o1 := DG.one_da h1
  have o2 := DG.one_bu h1
  have c0D : Y.drew.cell? ⟨p, 0, none⟩ = some (.slice (some ⟨g, o, none⟩) n c) := c0
  have hS0 : (fun w' => w'.cell? ⟨p, 0, none⟩ = some (.slice (some ⟨g, o, none⟩) n c) ∧ w'.cell? ⟨g, o, none⟩ = some (.int .u8 (d.s0.toNat : Int)) ∧ w'.cell? ⟨g, o + 1, none⟩ = some (.int .u8 (d.s1.toNat : Int)) ∧ w'.cell? ⟨g, o + 2, none⟩ = some (.int .u8 (d.s2.toNat : Int)) ∧ w'.cell? ⟨g, o + 3, none⟩ = some (.int .u8 (d.s3.toNat : Int)) ∧ w'.cell? ⟨g, o + 4, none⟩ = some (.int .i64 d.port) ∧ w'.cell? ⟨g, o + 5, none⟩ = some d.da ∧ w'.cell? ⟨g, o + 6, none⟩ = some d.bu) Y.drew := ⟨c0, e0, e1, e2, e3, e4, e5, e6⟩
  have hfar : ∀ k, k ≠ X.heap.size → (World.setRow Y.drew X.heap.size d.arr).heap[k]? = Y.heap[k]? := (heap_setRow (w := Y.drew) (hsY.drew 1)).2
  have hne1 : p ≠ X.heap.size := by have := hp.lt; omega
  have hne2 : g ≠ X.heap.size := by omega
  have hS2 : (fun w' => w'.cell? ⟨p, 0, none⟩ = some (.slice (some ⟨g, o, none⟩) n c) ∧ w'.cell? ⟨g, o, none⟩ = some (.int .u8 (d.s0.toNat : Int)) ∧ w'.cell? ⟨g, o + 1, none⟩ = some (.int .u8 (d.s1.toNat : Int)) ∧ w'.cell? ⟨g, o + 2, none⟩ = some (.int .u8 (d.s2.toNat : Int)) ∧ w'.cell? ⟨g, o + 3, none⟩ = some (.int .u8 (d.s3.toNat : Int)) ∧ w'.cell? ⟨g, o + 4, none⟩ = some (.int .i64 d.port) ∧ w'.cell? ⟨g, o + 5, none⟩ = some d.da ∧ w'.cell? ⟨g, o + 6, none⟩ = some d.bu) (World.setRow Y.drew X.heap.size d.arr) :=
    ⟨(World.cell?_of_block (hfar p hne1)).trans c0, (World.cell?_of_block (a := ⟨g, o, none⟩) (hfar g hne2)).trans e0, (World.cell?_of_block (a := ⟨g, o + 1, none⟩) (hfar g hne2)).trans e1, (World.cell?_of_block (a := ⟨g, o + 2, none⟩) (hfar g hne2)).trans e2, (World.cell?_of_block (a := ⟨g, o + 3, none⟩) (hfar g hne2)).trans e3, (World.cell?_of_block (a := ⟨g, o + 4, none⟩) (hfar g hne2)).trans e4, (World.cell?_of_block (a := ⟨g, o + 5, none⟩) (hfar g hne2)).trans e5, (World.cell?_of_block (a := ⟨g, o + 6, none⟩) (hfar g hne2)).trans e6⟩
  have hpZ : Blk (World.setRow Y.drew X.heap.size d.arr) p 100 #[.slice (some ⟨g, o, none⟩) n c, .int .i64 4] := (hfar p hne1).trans hp2
  refine wp_region_any (by kernel_rfl) (wpAny_of_G (n := 15) (S := fun w' => w'.cell? ⟨p, 0, none⟩ = some (.slice (some ⟨g, o, none⟩) n c) ∧ w'.cell? ⟨g, o, none⟩ = some (.int .u8 (d.s0.toNat : Int)) ∧ w'.cell? ⟨g, o + 1, none⟩ = some (.int .u8 (d.s1.toNat : Int)) ∧ w'.cell? ⟨g, o + 2, none⟩ = some (.int .u8 (d.s2.toNat : Int)) ∧ w'.cell? ⟨g, o + 3, none⟩ = some (.int .u8 (d.s3.toNat : Int)) ∧ w'.cell? ⟨g, o + 4, none⟩ = some (.int .i64 d.port) ∧ w'.cell? ⟨g, o + 5, none⟩ = some d.da ∧ w'.cell? ⟨g, o + 6, none⟩ = some d.bu) _ _ _ _ ?_)
  refine G.pure (i := 0) (v := .pointer (some ⟨p, 0, none⟩)) rfl (by kernel_rfl) (fun _ _ _ h => h) (.inl ⟨rfl, fun w' _ => ?_⟩) (hS0) ?_
  · simp [execOp, Act.eval, go_sem]
  simp only [Act.put, List.getElem_toArray, List.getElem_cons_zero, List.setIfInBounds_toArray, List.set_cons_zero, List.set_cons_succ]
  refine G.pure (i := 1) (v := .pointer (some ⟨p, 0, none⟩)) rfl (by kernel_rfl) (fun _ _ _ h => h) (.inl ⟨rfl, fun w' _ => ?_⟩) (hS0) ?_
  · simp [execOp, Act.eval, go_sem]
  simp only [Act.put, List.getElem_toArray, List.getElem_cons_zero, List.getElem_cons_succ, List.setIfInBounds_toArray, List.set_cons_zero, List.set_cons_succ]
  refine G.pure (i := 2) (v := .pointer (some ⟨p, 0, none⟩)) rfl (by kernel_rfl) (fun _ _ _ h => h) (.inl ⟨rfl, fun w' _ => ?_⟩) (hS0) ?_
  · simp [execOp, Act.eval, go_sem]
  simp only [Act.put, List.getElem_toArray, List.getElem_cons_zero, List.getElem_cons_succ, List.setIfInBounds_toArray, List.set_cons_zero, List.set_cons_succ]
  refine G.pure (i := 3) (v := .pointer (some ⟨p, 0, none⟩)) rfl (by kernel_rfl) (fun _ _ _ h => h) (.inl ⟨rfl, fun w' _ => ?_⟩) (hS0) ?_
  · simp [execOp, Act.eval, go_sem]
  simp only [Act.put, List.getElem_toArray, List.getElem_cons_zero, List.getElem_cons_succ, List.setIfInBounds_toArray, List.set_cons_zero, List.set_cons_succ]
  refine G.load (i := 4) (v := .slice (some ⟨g, o, none⟩) n c) rfl (by kernel_rfl) (fun _ _ _ h => h) (.inl ⟨rfl, fun w' hS => ?_⟩) (hS0) ?_
  · simp [execOp, Act.eval, hS, go_sem]
  simp only [Act.put, List.getElem_toArray, List.getElem_cons_zero, List.getElem_cons_succ, List.setIfInBounds_toArray, List.set_cons_zero, List.set_cons_succ]
  refine G.pure (i := 5) (v := .pointer (some ⟨g, o, none⟩)) rfl (by kernel_rfl) (fun _ _ _ h => h) (.inl ⟨rfl, fun w' _ => ?_⟩) (hS0) ?_
  · simp [execOp, Act.eval, gposN, go_sem]
  simp only [Act.put, List.getElem_toArray, List.getElem_cons_zero, List.getElem_cons_succ, List.setIfInBounds_toArray, List.set_cons_zero, List.set_cons_succ]
  refine G.load (i := 6) (v := .agg #[.int .u8 (d.s0.toNat : Int), .int .u8 (d.s1.toNat : Int), .int .u8 (d.s2.toNat : Int), .int .u8 (d.s3.toNat : Int), .int .i64 d.port, d.da, d.bu]) rfl (by kernel_rfl) (fun _ _ _ h => h) (.inl ⟨rfl, fun w' hS => ?_⟩) (hS0) ?_
  · simp [execOp, Act.eval, hS, go_sem]
  simp only [Act.put, List.getElem_toArray, List.getElem_cons_zero, List.getElem_cons_succ, List.setIfInBounds_toArray, List.set_cons_zero, List.set_cons_succ]
  refine G.pure (i := 7) (v := .pointer (some ⟨p, 0, none⟩)) rfl (by kernel_rfl) (fun _ _ _ h => h) (.inl ⟨rfl, fun w' _ => ?_⟩) (hS0) ?_
  · simp [execOp, Act.eval, go_sem]
  simp only [Act.put, List.getElem_toArray, List.getElem_cons_zero, List.getElem_cons_succ, List.setIfInBounds_toArray, List.set_cons_zero, List.set_cons_succ]
  refine G.pure (i := 8) (v := .pointer (some ⟨p, 0, none⟩)) rfl (by kernel_rfl) (fun _ _ _ h => h) (.inl ⟨rfl, fun w' _ => ?_⟩) (hS0) ?_
  · simp [execOp, Act.eval, go_sem]
  simp only [Act.put, List.getElem_toArray, List.getElem_cons_zero, List.getElem_cons_succ, List.setIfInBounds_toArray, List.set_cons_zero, List.set_cons_succ]
  refine G.pure (i := 9) (v := .pointer (some ⟨p, 0, none⟩)) rfl (by kernel_rfl) (fun _ _ _ h => h) (.inl ⟨rfl, fun w' _ => ?_⟩) (hS0) ?_
  · simp [execOp, Act.eval, go_sem]
  simp only [Act.put, List.getElem_toArray, List.getElem_cons_zero, List.getElem_cons_succ, List.setIfInBounds_toArray, List.set_cons_zero, List.set_cons_succ]
  refine G.load (i := 10) (v := .slice (some ⟨g, o, none⟩) n c) rfl (by kernel_rfl) (fun _ _ _ h => h) (.inl ⟨rfl, fun w' hS => ?_⟩) (hS0) ?_
  · simp [execOp, Act.eval, hS, go_sem]
  simp only [Act.put, List.getElem_toArray, List.getElem_cons_zero, List.getElem_cons_succ, List.setIfInBounds_toArray, List.set_cons_zero, List.set_cons_succ]
  refine G.pure (i := 11) (v := .slice (some (if c = 1 then ⟨g, o, none⟩ else ⟨g, o + 7, none⟩)) D.length (c - 1)) rfl (by kernel_rfl) (fun _ _ _ h => h) (.inl ⟨rfl, fun w' _ => ?_⟩) (hS0) ?_
  · have := run_tailQ w' g o n c D HN.out; simp [execOp, Act.eval, this]
  simp only [Act.put, List.getElem_toArray, List.getElem_cons_zero, List.getElem_cons_succ, List.setIfInBounds_toArray, List.set_cons_zero, List.set_cons_succ]
  refine G.only (i := 12) ?r12 rfl ?o12
  case r12 => kernel_rfl
  intro K hK
  refine step_storeB rfl 57 (.tmp 4) (.tmp 18) rfl (show Blk Y.drew X.heap.size 57 DG.zero.arr from hsY) d.arr ?q1 ?q2 DG.info rfl (DG.arr_one h1) ?_
  case q1 => simp [Act.eval, hX]
  case q2 => simp [Act.eval, DG.arr, bv]
  refine hK _ _ (fun _ => hS2) ?_
  clear hK K
  simp only [Act.put, List.getElem_toArray, List.getElem_cons_zero, List.getElem_cons_succ]
  refine G.pure (i := 13) (v := .pointer (some ⟨p, 0, none⟩)) rfl (by kernel_rfl) (fun _ _ _ h => h) (.inl ⟨rfl, fun w' _ => ?_⟩) (hS2) ?_
  · simp [execOp, Act.eval, go_sem]
  simp only [Act.put, List.getElem_toArray, List.getElem_cons_zero, List.getElem_cons_succ, List.setIfInBounds_toArray, List.set_cons_zero, List.set_cons_succ]
  refine G.pure (i := 14) (v := .pointer (some ⟨p, 0, none⟩)) rfl (by kernel_rfl) (fun _ _ _ h => h) (.inl ⟨rfl, fun w' _ => ?_⟩) (hS2) ?_
  · simp [execOp, Act.eval, go_sem]
  simp only [Act.put, List.getElem_toArray, List.getElem_cons_zero, List.getElem_cons_succ, List.setIfInBounds_toArray, List.set_cons_zero, List.set_cons_succ]
  refine G.only (i := 15) ?r15 rfl ?o15
  case r15 => kernel_rfl
  intro K hK
  refine step_storeQ (A := some (if c = 1 then ⟨g, o, none⟩ else ⟨g, o + 7, none⟩)) (n := D.length) (c := c - 1) rfl (.tmp 25) (.tmp 23) rfl ?q3 ?q4 hS2.1 (hpZ.free 0) ?_
  case q3 => simp [Act.eval]
  case q4 => simp [Act.eval]
  refine hK _ _ (fun e => absurd rfl e) (G.done (by kernel_rfl) ?_)
  clear hK K
  simp only [Act.put, List.getElem_toArray, List.getElem_cons_zero, List.getElem_cons_succ]
  simp only [Exit.then]
  obtain ⟨Z, hZ⟩ : ∃ Z, Z = (World.setRow Y.drew X.heap.size d.arr).setCell ⟨p, 0, none⟩ (.slice (some (if c = 1 then ⟨g, o, none⟩ else ⟨g, o + 7, none⟩)) D.length (c - 1)) := ⟨_, rfl⟩
  have hZold : ∀ k, k ≠ X.heap.size → k ≠ p → Z.heap[k]? = Y.heap[k]? := fun k h1 h2 => by rw [hZ]; exact (Below.heap_setCell _ _ _ _ h2).trans (hfar k h1)
  have hZp : Blk Z p 100 #[.slice (some (if c = 1 then ⟨g, o, none⟩ else ⟨g, o + 7, none⟩)) D.length (c - 1), .int .i64 4] := by rw [hZ]; simpa using hpZ.set 0 (.slice (some (if c = 1 then ⟨g, o, none⟩ else ⟨g, o + 7, none⟩)) D.length (c - 1))
  have hZb : Blk Z X.heap.size 57 d.arr := by rw [hZ]; exact (Below.heap_setCell _ _ _ _ (fun e => hne1 e.symm)).trans (heap_setRow (w := Y.drew) (cells := d.arr) (hsY.drew 1)).1
  have hZ2 : Blk Z w.heap.size 57 DG.zero.arr := (hZold _ (by omega) (by have := hp.lt; omega)).trans hs2
  have hZs : Z.heap.size = Y.heap.size := by rw [hZ]; simp [World.setCell, World.setRow]
  have hZo : Z.os = Y.os ∧ Z.tape = Y.tape ∧ Z.output = Y.output := by rw [hZ]; exact ⟨rfl, rfl, rfl⟩
  have hqZ : QS Z base (.slice (some (if c = 1 then ⟨g, o, none⟩ else ⟨g, o + 7, none⟩)) D.length (c - 1)) D := hq2.tail2.same (by omega) fun k hk => by
    have hkl := hq2.tail2.lt hk
    have : k = g := by simp only [Value.ownBlock] at hk; split at hk <;> (injection hk with hk; exact hk.symm)
    subst this
    exact hZold k hne2 (by omega)
  have hall : DG.arr d = #[.int .u8 (d.s0.toNat : Int), .int .u8 (d.s1.toNat : Int), .int .u8 (d.s2.toNat : Int), .int .u8 (d.s3.toNat : Int), .int .i64 d.port, d.da, d.bu] := rfl
  rw [show World.setCell (World.setRow { heap := Y.heap, tape := Y.tape, drawn := Y.drawn + 1, os := Y.os, output := Y.output } X.heap.size d.arr) ⟨p, 0, none⟩ (.slice (some (if c = 1 then ⟨g, o, none⟩ else ⟨g, o + 7, none⟩)) D.length (c - 1)) = Z from hZ.symm]
  clear hS0 hS2 hpZ hfar e0 e1 e2 e3 e4 e5 e6 c0 c0D f0 hsY hs2 hq hp2
  refine hK0 _ _ ?_
  clear hK0 hZ
  clear K0
  have hown : (Value.slice (some (if c = 1 then (⟨g, o, none⟩ : Addr) else ⟨g, o + 7, none⟩)) D.length (c - 1)).ownBlock = (Value.slice (some ⟨g, o, none⟩) n c).ownBlock := by simp only [Value.ownBlock]; split <;> rfl
  obtain ⟨A1, hA1⟩ : ∃ A1, A1 = some (if c = 1 then (⟨g, o, none⟩ : Addr) else ⟨g, o + 7, none⟩) := ⟨_, rfl⟩
  rw [← hA1] at hown hqZ hZp ⊢
  clear hA1
  go_wp2_with (first | ((with_reducible refine at_slot 26 ?_); refine wpList_loadB rfl 57 (.tmp 4) rfl hZb rfl Try.underlying57 rfl DG.info ?_) | (refine wpList_storeB rfl 57 (.tmp 2) (.tmp 26) rfl rfl hZ2 d.arr rfl rfl DG.info rfl (DG.arr_one h1) ?_))
  (try simp only [Exit.inBlock, Exit.then])
  have hz3 := (heap_setRow (cells := d.arr) hZ2).1
  have hzf := (heap_setRow (cells := d.arr) hZ2).2
  refine bodyPost_ret (by exact results_dg rfl _ _ rfl hz3 rfl) (by rfl) ?_
  refine ⟨rfl, .slice A1 D.length (c - 1), ⟨(hzf p (by have := hp.lt; omega)).trans hZp, hqZ.same (by simp [World.setRow]) fun k hk => hzf k (by have : k = g := (by rw [hown] at hk; simp only [Value.ownBlock] at hk; injection hk with hk; exact hk.symm); omega)⟩, ?_, hown⟩
  have z1 := hB2.size
  refine ⟨hZo.1.trans hB2.os, hZo.2.1.trans hB2.tape, hZo.2.2.trans hB2.output, by simp [World.setRow]; omega, fun k hk hS => ?_⟩
  exact (hzf k (by omega)).trans ((hZold k (by omega) hS).trans (hB2.block k hk))
end Go.Proofs.Ytbhdojpgjmbogaa
