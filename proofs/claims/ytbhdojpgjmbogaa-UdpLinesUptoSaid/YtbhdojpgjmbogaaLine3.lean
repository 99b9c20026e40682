/- The waiting line of package udp: what is called from outside. -/
import Derived.Test.YtbhdojpgjmbogaaLine2
import Derived.Test.YtbhdojpgjmbogaaRowD
import Derived.Test.YtbhdojpgjmbogaaDrawn2
namespace Go.Proofs.Ytbhdojpgjmbogaa
open Go.RowKit Go.Maps Go.Shelf
/-- That a slice is stored at a type. -/
def StoresSl (ty : TypeId) : Prop := ∀ (w : World) (b off : Nat) (A : Option Addr) (n c : Nat) (old : Value), w.cell? ⟨b, off, none⟩ = some old → w.frozen? ⟨b, off, none⟩ = false →
  (Instr.storeAt ty (.pointer (some ⟨b, off, none⟩)) (.slice A n c)).run Try.prog w = .ok () (w.setCell ⟨b, off, none⟩ (.slice A n c))
theorem Try.storeb : StoresSl 24 := fun w b off A n c old hc hf => by simp [hc, hf, go_sem]
theorem Try.storei : StoresSl 51 := fun w b off A n c old hc hf => by simp [hc, hf, go_sem]
/-- A slice is stored, at a step of a region that draws. -/
theorem step_storeSl {ops : Array Oper} {o : Oper} {a : Act} {w : World} {K : Act → World → Prop} {Q : Exit → Act → World → Prop} {E : Prop} (hgd : o.guard = none) (ty : TypeId) (x y : Operand) (ho : o.op = .store ty x y) (hty : StoresSl ty) {b off : Nat} {A : Option Addr} {n c : Nat} {old : Value}
    (hx : a.eval x = .pointer (some ⟨b, off, none⟩)) (hy : a.eval y = .slice A n c) (hc : w.cell? ⟨b, off, none⟩ = some old) (hf : w.frozen? ⟨b, off, none⟩ = false) (h : K (a.put o.dst undef) (w.setCell ⟨b, off, none⟩ (.slice A n c))) :
    if Region.wanted o (yielded ops a.tmps) = true then Oper.wp Try.prog o a w K Q else E := by
  have hw : Region.wanted o (yielded ops a.tmps) = true := by simp [Region.wanted, hgd]
  rw [if_pos hw]
  have e := hty w b off A n c old hc hf
  unfold Oper.wp execOp
  simp only [ho, hx, hy, Sem.run_bind, e, Result.andThen_ok, Sem.run_pure]
  exact h
theorem Ow.same' {w w' : World} {base : Nat} {v : Value} {l : List UInt8} (h : Ow w base v l) (hb : ∀ g, v.ownBlock = some g → w'.heap[g]? = w.heap[g]?) : Ow w' base v l := owns_same h hb
theorem OwI.less' {w : World} {base base' : Nat} {v : Value} {l : List Int} (h : OwI w base v l) (hb : base' ≤ base) : OwI w base' v l := owns_base h hb
/-- A datagram that waits: what it reads, and that its slices are the line's own from a block on. -/
structure Dup (w : World) (base : Nat) (it : Itm) (d : DG) : Prop where
  ip : d.s0 = it.e.s0 ∧ d.s1 = it.e.s1 ∧ d.s2 = it.e.s2 ∧ d.s3 = it.e.s3 ∧ d.port = it.e.port
  da : Ow w base d.da it.data
  bu : OwI w base d.bu it.bufs
set_option maxRecDepth 100000 in
set_option maxHeartbeats 4000000 in
theorem lpush (w : World) (p base : Nat) (qv : Value) (D : List DG) (it : Itm) (d : DG) (hL : LAt w base p qv D) (hpb : p < base) (hb : base ≤ w.heap.size) (hn : D.length ≤ 4) (hip : d.s0 = it.e.s0 ∧ d.s1 = it.e.s1 ∧ d.s2 = it.e.s2 ∧ d.s3 = it.e.s3 ∧ d.port = it.e.port)
    (hda0 : Rd w d.da it.data) (hbu0 : RdI w d.bu it.bufs) (hdl : it.data.length ≤ 1048576) (hbl : it.bufs.length ≤ 1048576) :
    Calls Try.prog 29 #[.pointer (some ⟨p, 0, none⟩), d.v] w fun e w' =>
      (D.length = 4 ∧ e = .returned (.int .i64 6) ∧ Below w.heap.size w w') ∨ (D.length < 4 ∧ e = .returned (.int .i64 0) ∧ ∃ d' wm, Below w.heap.size w wm ∧ Dup wm w.heap.size it d' ∧ PEnd wm base p qv D d' w') := by
  have HIP := Lib.hid hip
  clear hip
  go_enter Try.func29, Try.ntmps29
  go_upto_region 1 with (fail)
  refine boxd (d := d) (motive := fun X => Code.wp Try.prog _ _ _ X) ?_
  intro X hB hX hs
  have hda : Rd X.drew d.da it.data := (hda0.mono hB).drew
  have hbu : RdI X.drew d.bu it.bufs := (hbu0.mono hB).drew
  have hS0 : (fun w' : World => w'.cell? ⟨w.heap.size, 5, none⟩ = some d.da ∧ w'.cell? ⟨w.heap.size, 6, none⟩ = some d.bu) X.drew := ⟨hs.dg.2.2.2.2.2.1, hs.dg.2.2.2.2.2.2⟩
  rename_i K0 hK0
  refine wp_region_any (by kernel_rfl) (wpAny_of_G (n := 7) (S := fun w' => w'.cell? ⟨w.heap.size, 5, none⟩ = some d.da ∧ w'.cell? ⟨w.heap.size, 6, none⟩ = some d.bu) _ _ _ _ ?_)
  refine G.pure' (i := 0) (v := .pointer (some ⟨w.heap.size, 5, none⟩)) rfl (by kernel_rfl) (fun _ _ _ h => h) (.inl ⟨rfl, fun w' _ => ?_⟩) (fun _ => hS0) ?_
  · simp [execOp, Act.eval, go_sem]
  simp only [Act.put, List.getElem_toArray, List.getElem_cons_zero, List.setIfInBounds_toArray, List.set_cons_zero, List.set_cons_succ]
  refine G.load (i := 1) (v := d.da) rfl (by kernel_rfl) (fun _ _ _ h => h) (.inl ⟨rfl, fun w' hS => ?_⟩) (hS0) ?_
  · simp [execOp, Act.eval, hS, go_sem]
  simp only [Act.put, List.getElem_toArray, List.getElem_cons_zero, List.getElem_cons_succ, List.setIfInBounds_toArray, List.set_cons_zero, List.set_cons_succ]
  refine G.pure' (i := 3) (v := .pointer (some ⟨w.heap.size, 6, none⟩)) rfl (by kernel_rfl) (fun _ _ _ h => h) (.inl ⟨rfl, fun w' _ => ?_⟩) (fun _ => hS0) ?_
  · simp [execOp, Act.eval, go_sem]
  simp only [Act.put, List.getElem_toArray, List.getElem_cons_zero, List.getElem_cons_succ, List.setIfInBounds_toArray, List.set_cons_zero, List.set_cons_succ]
  refine G.load (i := 4) (v := d.bu) rfl (by kernel_rfl) (fun _ _ _ h => h) (.inl ⟨rfl, fun w' hS => ?_⟩) (hS0) ?_
  · simp [execOp, Act.eval, hS, go_sem]
  simp only [Act.put, List.getElem_toArray, List.getElem_cons_zero, List.getElem_cons_succ, List.setIfInBounds_toArray, List.set_cons_zero, List.set_cons_succ]
  refine G.only' (i := 2) ?r2 rfl ?o2
  case r2 => kernel_rfl
  intro K hK
  refine step_call rfl rfl (enters_of Try.func57 (by kernel_rfl) rfl) (clone_b _ _ X.drew hda (by omega)) rfl ?_
  rintro e w1 ⟨v1, rfl, ho1, hb1⟩
  have hs1 := hs.drw.mono hb1
  have hS1 : (fun w' => w'.cell? ⟨w.heap.size, 5, none⟩ = some d.da ∧ w'.cell? ⟨w.heap.size, 6, none⟩ = some d.bu) w1 := ⟨hs1.dg.2.2.2.2.2.1, hs1.dg.2.2.2.2.2.2⟩
  have hbu1 := hbu.mono hb1
  refine ⟨_, rfl, hK _ _ (fun _ => hS1) ?_⟩
  clear hK K
  simp only [Act.put, List.getElem_toArray, List.getElem_cons_zero, List.getElem_cons_succ, List.setIfInBounds_toArray, List.set_cons_zero, List.set_cons_succ]
  refine G.pure' (i := 6) (v := .pointer (some ⟨w.heap.size, 5, none⟩)) rfl (by kernel_rfl) (fun _ _ _ h => h) (.inl ⟨rfl, fun w' _ => ?_⟩) (fun _ => hS1) ?_
  · simp [execOp, Act.eval, go_sem]
  simp only [Act.put, List.getElem_toArray, List.getElem_cons_zero, List.getElem_cons_succ, List.setIfInBounds_toArray, List.set_cons_zero, List.set_cons_succ]
  refine G.only' (i := 5) ?r5 rfl ?o5
  case r5 => kernel_rfl
  intro K hK
  refine step_call rfl rfl (enters_of Try.func60 (by kernel_rfl) rfl) (clone_i _ _ w1 hbu1 (by omega)) rfl ?_
  rintro e w2 ⟨v2, rfl, ho2, hb2⟩
  have hs2 := hs1.mono hb2
  have hS2 : (fun w' => w'.cell? ⟨w.heap.size, 5, none⟩ = some d.da ∧ w'.cell? ⟨w.heap.size, 6, none⟩ = some d.bu) w2 := ⟨hs2.dg.2.2.2.2.2.1, hs2.dg.2.2.2.2.2.2⟩
  obtain ⟨A1, c1, rfl, _, _⟩ := ho1.rd.form
  obtain ⟨A2, c2, rfl, _, _⟩ := ho2.form
  refine ⟨_, rfl, hK _ _ (fun _ => hS2) ?_⟩
  clear hK K
  simp only [Act.put, List.getElem_toArray, List.getElem_cons_zero, List.getElem_cons_succ, List.setIfInBounds_toArray, List.set_cons_zero, List.set_cons_succ]
  refine G.only' (i := 7) ?r7 rfl ?o7
  case r7 => kernel_rfl
  intro K hK
  refine step_storeSl (A := A1) (n := it.data.length) (c := c1) rfl 24 (.tmp 11) (.tmp 7) rfl Try.storeb ?q1 ?q2 hS2.1 (hs2.dgf 5) ?_
  case q1 => simp [Act.eval]
  case q2 => simp [Act.eval]
  have hs3 := hs2.set 5 (.slice A1 it.data.length c1)
  refine hK _ _ (fun e => Bool.noConfusion (show true = false from e)) ?_
  clear hK K
  simp only [Act.put, List.getElem_toArray, List.getElem_cons_zero, List.getElem_cons_succ]
  refine G.pure' (i := 8) (v := .pointer (some ⟨w.heap.size, 6, none⟩)) rfl (by kernel_rfl) (fun _ _ _ h => h) (.inl ⟨rfl, fun w' _ => ?_⟩) (fun e => Bool.noConfusion (show true = false from e)) ?_
  · simp [execOp, Act.eval, go_sem]
  simp only [Act.put, List.getElem_toArray, List.getElem_cons_zero, List.getElem_cons_succ, List.setIfInBounds_toArray, List.set_cons_zero, List.set_cons_succ]
  refine G.only' (i := 9) ?r9 rfl ?o9
  case r9 => kernel_rfl
  intro K hK
  refine step_storeSl (A := A2) (n := it.bufs.length) (c := c2) rfl 51 (.tmp 12) (.tmp 10) rfl Try.storei ?q3 ?q4 (hs3.cell 6) (hs3.free 6) ?_
  case q3 => simp [Act.eval]
  case q4 => simp [Act.eval]
  refine hK _ _ (fun e => Bool.noConfusion (show true = false from e)) (G.done (by kernel_rfl) ?_)
  clear hK K
  simp only [Act.put, List.getElem_toArray, List.getElem_cons_zero, List.getElem_cons_succ]
  obtain ⟨d', hd'⟩ : ∃ d' : DG, d' = ⟨d.s0, d.s1, d.s2, d.s3, d.port, .slice A1 it.data.length c1, .slice A2 it.bufs.length c2⟩ := ⟨_, rfl⟩
  obtain ⟨Z, hZ⟩ : ∃ Z, Z = ((w2.setCell ⟨w.heap.size, 5, none⟩ (.slice A1 it.data.length c1)).setCell ⟨w.heap.size, 6, none⟩ (.slice A2 it.bufs.length c2)) := ⟨_, rfl⟩
  have hBX := ((hB.drew).trans (hb1.mono hB.size)).trans (hb2.mono (Nat.le_trans hB.size hb1.size))
  have hBZ : Below w.heap.size w Z := by rw [hZ]; exact (hBX.setCell (p := ⟨w.heap.size, 5, none⟩) (Nat.le_refl _) _).setCell (p := ⟨w.heap.size, 6, none⟩) (Nat.le_refl _) _
  have hZk : ∀ k, k ≠ w.heap.size → Z.heap[k]? = w2.heap[k]? := fun k hk => by rw [hZ]; exact (Below.heap_setCell _ _ _ _ hk).trans (Below.heap_setCell _ _ _ _ hk)
  have hbZ : Blk Z w.heap.size 57 d'.arr := by rw [hZ, hd']; simpa [DG.arr] using (hs2.set 5 (.slice A1 it.data.length c1)).set 6 (.slice A2 it.bufs.length c2)
  have zX : X.heap.size = w.heap.size + 1 := hX
  have zX2 : X.drew.heap.size = w.heap.size + 1 := hX
  have hdup : Dup Z w.heap.size it d' := by
    rw [hd']
    exact ⟨HIP.out, (((ho1.mono hb2).less (by omega))).same' fun k hk => hZk k (by have := (owns_block_lt ho1 hk).1; omega), ((ho2.mono (Below.refl _ _)).less' (by have := hb1.size; omega)).same fun k hk => hZk k (by have := (ho2.lt hk).1; have := hb1.size; omega)⟩
  have h1 : d'.one := by rw [hd']; intro u hu; simp [DG.cells] at hu; rcases hu with rfl | rfl | rfl | rfl | rfl | rfl | rfl <;> rfl
  have hLZ : LAt Z base p qv D := ⟨hL.1.mono hBZ, hL.2.mono hBZ⟩
  simp only [Exit.then]
  refine hK0 _ _ ?_
  clear hK0 K0 hS1 hS2 hs1 hs2 hs3 hs hbu1 hbu hda ho1 ho2 hb1 hb2 hBX hZk hS0
  rw [← hZ]
  clear hZ hd'
  have hS4 : (fun w' => w'.cell? ⟨w.heap.size, 0, none⟩ = some (.int .u8 (d'.s0.toNat : Int)) ∧ w'.cell? ⟨w.heap.size, 1, none⟩ = some (.int .u8 (d'.s1.toNat : Int)) ∧ w'.cell? ⟨w.heap.size, 2, none⟩ = some (.int .u8 (d'.s2.toNat : Int)) ∧ w'.cell? ⟨w.heap.size, 3, none⟩ = some (.int .u8 (d'.s3.toNat : Int)) ∧ w'.cell? ⟨w.heap.size, 4, none⟩ = some (.int .i64 d'.port) ∧ w'.cell? ⟨w.heap.size, 5, none⟩ = some d'.da ∧ w'.cell? ⟨w.heap.size, 6, none⟩ = some d'.bu) Z.drew := hbZ.dg
  have zZ := hBZ.size
  by_cases hfull : D.length = 4
  · go_upto_region 2 with (fail)
    rename_i K1 hK1
    refine wp_region_any (by kernel_rfl) (wpAny_of_G (n := 4) (S := fun w' => w'.cell? ⟨w.heap.size, 0, none⟩ = some (.int .u8 (d'.s0.toNat : Int)) ∧ w'.cell? ⟨w.heap.size, 1, none⟩ = some (.int .u8 (d'.s1.toNat : Int)) ∧ w'.cell? ⟨w.heap.size, 2, none⟩ = some (.int .u8 (d'.s2.toNat : Int)) ∧ w'.cell? ⟨w.heap.size, 3, none⟩ = some (.int .u8 (d'.s3.toNat : Int)) ∧ w'.cell? ⟨w.heap.size, 4, none⟩ = some (.int .i64 d'.port) ∧ w'.cell? ⟨w.heap.size, 5, none⟩ = some d'.da ∧ w'.cell? ⟨w.heap.size, 6, none⟩ = some d'.bu) _ _ _ _ ?_)
    obtain ⟨hp, hq⟩ := hLZ
    obtain ⟨A, c, rfl, hc1, hc2⟩ := hq.form
    refine G.pure' (i := 0) (v := .pointer (some ⟨p, 0, none⟩)) rfl (by kernel_rfl) (fun _ _ _ h => h) (.inl ⟨rfl, fun w' _ => ?_⟩) (fun _ => hS4) ?_
    · simp [execOp, Act.eval, go_sem]
    simp only [Act.put, List.getElem_toArray, List.getElem_cons_zero, List.setIfInBounds_toArray, List.set_cons_zero, List.set_cons_succ]
    refine G.pure' (i := 1) (v := .pointer (some ⟨p, 0, none⟩)) rfl (by kernel_rfl) (fun _ _ _ h => h) (.inl ⟨rfl, fun w' _ => ?_⟩) (fun _ => hS4) ?_
    · simp [execOp, Act.eval, go_sem]
    simp only [Act.put, List.getElem_toArray, List.getElem_cons_zero, List.getElem_cons_succ, List.setIfInBounds_toArray, List.set_cons_zero, List.set_cons_succ]
    refine G.pure' (i := 2) (v := .pointer (some ⟨p, 0, none⟩)) rfl (by kernel_rfl) (fun _ _ _ h => h) (.inl ⟨rfl, fun w' _ => ?_⟩) (fun _ => hS4) ?_
    · simp [execOp, Act.eval, go_sem]
    simp only [Act.put, List.getElem_toArray, List.getElem_cons_zero, List.getElem_cons_succ, List.setIfInBounds_toArray, List.set_cons_zero, List.set_cons_succ]
    refine G.load (i := 3) (v := .agg #[.int .u8 (d'.s0.toNat : Int), .int .u8 (d'.s1.toNat : Int), .int .u8 (d'.s2.toNat : Int), .int .u8 (d'.s3.toNat : Int), .int .i64 d'.port, d'.da, d'.bu]) rfl (by kernel_rfl) (fun _ _ _ h => h) (.inl ⟨rfl, fun w' hS => ?_⟩) (hS4) ?_
    · simp [execOp, Act.eval, hS, go_sem]
    simp only [Act.put, List.getElem_toArray, List.getElem_cons_zero, List.getElem_cons_succ, List.setIfInBounds_toArray, List.set_cons_zero, List.set_cons_succ]
    refine G.only' (i := 4) ?r4 rfl ?o4
    case r4 => kernel_rfl
    intro K hK
    refine step_call rfl rfl (enters_of Try.func61 (by kernel_rfl) rfl) (qpush_full Z.drew p A D.length c d' hp hfull) rfl ?_
    rintro e w5 ⟨rfl, hb5⟩
    refine ⟨_, rfl, hK _ _ (fun e => Bool.noConfusion (show true = false from e)) ?_⟩
    clear hK K
    simp only [Act.put, List.getElem_toArray, List.getElem_cons_zero, List.getElem_cons_succ, List.setIfInBounds_toArray, List.set_cons_zero, List.set_cons_succ]
    refine G.pure' (i := 5) (v := .bool true) rfl (by kernel_rfl) (fun _ _ _ h => h) (.inl ⟨rfl, fun w' _ => ?_⟩) (fun e => Bool.noConfusion (show true = false from e)) ?_
    · simp [execOp, Act.eval, go_sem]
    simp only [Act.put, List.getElem_toArray, List.getElem_cons_zero, List.getElem_cons_succ, List.setIfInBounds_toArray, List.set_cons_zero, List.set_cons_succ]
    refine G.done (by kernel_rfl) ?_
    simp only [Exit.then]
    refine hK1 _ _ ?_
    clear hK1 K1
    have HF := Lib.hid hfull
    clear hfull hS4
    go_wp2
    go_ret
    exact .inl ⟨HF.out, rfl, hBZ.drew.trans (hb5.mono zZ)⟩
  · go_upto_region 2 with (fail)
    rename_i K1 hK1
    refine wp_region_any (by kernel_rfl) (wpAny_of_G (n := 4) (S := fun w' => w'.cell? ⟨w.heap.size, 0, none⟩ = some (.int .u8 (d'.s0.toNat : Int)) ∧ w'.cell? ⟨w.heap.size, 1, none⟩ = some (.int .u8 (d'.s1.toNat : Int)) ∧ w'.cell? ⟨w.heap.size, 2, none⟩ = some (.int .u8 (d'.s2.toNat : Int)) ∧ w'.cell? ⟨w.heap.size, 3, none⟩ = some (.int .u8 (d'.s3.toNat : Int)) ∧ w'.cell? ⟨w.heap.size, 4, none⟩ = some (.int .i64 d'.port) ∧ w'.cell? ⟨w.heap.size, 5, none⟩ = some d'.da ∧ w'.cell? ⟨w.heap.size, 6, none⟩ = some d'.bu) _ _ _ _ ?_)
    refine G.pure' (i := 0) (v := .pointer (some ⟨p, 0, none⟩)) rfl (by kernel_rfl) (fun _ _ _ h => h) (.inl ⟨rfl, fun w' _ => ?_⟩) (fun _ => hS4) ?_
    · simp [execOp, Act.eval, go_sem]
    simp only [Act.put, List.getElem_toArray, List.getElem_cons_zero, List.setIfInBounds_toArray, List.set_cons_zero, List.set_cons_succ]
    refine G.pure' (i := 1) (v := .pointer (some ⟨p, 0, none⟩)) rfl (by kernel_rfl) (fun _ _ _ h => h) (.inl ⟨rfl, fun w' _ => ?_⟩) (fun _ => hS4) ?_
    · simp [execOp, Act.eval, go_sem]
    simp only [Act.put, List.getElem_toArray, List.getElem_cons_zero, List.getElem_cons_succ, List.setIfInBounds_toArray, List.set_cons_zero, List.set_cons_succ]
    refine G.pure' (i := 2) (v := .pointer (some ⟨p, 0, none⟩)) rfl (by kernel_rfl) (fun _ _ _ h => h) (.inl ⟨rfl, fun w' _ => ?_⟩) (fun _ => hS4) ?_
    · simp [execOp, Act.eval, go_sem]
    simp only [Act.put, List.getElem_toArray, List.getElem_cons_zero, List.getElem_cons_succ, List.setIfInBounds_toArray, List.set_cons_zero, List.set_cons_succ]
    refine G.load (i := 3) (v := .agg #[.int .u8 (d'.s0.toNat : Int), .int .u8 (d'.s1.toNat : Int), .int .u8 (d'.s2.toNat : Int), .int .u8 (d'.s3.toNat : Int), .int .i64 d'.port, d'.da, d'.bu]) rfl (by kernel_rfl) (fun _ _ _ h => h) (.inl ⟨rfl, fun w' hS => ?_⟩) (hS4) ?_
    · simp [execOp, Act.eval, hS, go_sem]
    simp only [Act.put, List.getElem_toArray, List.getElem_cons_zero, List.getElem_cons_succ, List.setIfInBounds_toArray, List.set_cons_zero, List.set_cons_succ]
    refine G.only' (i := 4) ?r4b rfl ?o4b
    case r4b => kernel_rfl
    intro K hK
    refine step_call rfl rfl (enters_of Try.func61 (by kernel_rfl) rfl) (qpush_ok Z.drew p base qv D d' ⟨hLZ.1.drw, hLZ.2.same (Nat.le_refl _) (fun _ _ => rfl)⟩ hpb (by show base ≤ Z.heap.size; omega) h1 (by omega)) rfl ?_
    rintro e w5 ⟨rfl, hP5⟩
    refine ⟨_, rfl, hK _ _ (fun e => Bool.noConfusion (show true = false from e)) ?_⟩
    clear hK K
    simp only [Act.put, List.getElem_toArray, List.getElem_cons_zero, List.getElem_cons_succ, List.setIfInBounds_toArray, List.set_cons_zero, List.set_cons_succ]
    refine G.pure' (i := 5) (v := .bool false) rfl (by kernel_rfl) (fun _ _ _ h => h) (.inl ⟨rfl, fun w' _ => ?_⟩) (fun e => Bool.noConfusion (show true = false from e)) ?_
    · simp [execOp, Act.eval, go_sem]
    simp only [Act.put, List.getElem_toArray, List.getElem_cons_zero, List.getElem_cons_succ, List.setIfInBounds_toArray, List.set_cons_zero, List.set_cons_succ]
    refine G.done (by kernel_rfl) ?_
    simp only [Exit.then]
    refine hK1 _ _ ?_
    clear hK1 K1
    have HF := Lib.hid hfull
    clear hfull hS4
    go_wp2
    go_ret
    have hlt : D.length < 4 := by have := HF.out; omega
    exact .inr ⟨hlt, rfl, d', Z.drew, hBZ.drew, ⟨hdup.ip, hdup.da.drew, hdup.bu.same fun _ _ => rfl⟩, hP5⟩
end Go.Proofs.Ytbhdojpgjmbogaa

