/- UdpLines: the walk over the law: it answers true. -/
import Derived.Test.YtbhdojpgjmbogaaLLines0
import Derived.Test.YtbhdojpgjmbogaaAwake
namespace Go.Proofs.Ytbhdojpgjmbogaa
open Go.RowKit Go.Maps Go.Shelf
theorem LSt.new {w wr : World} {base p : Nat} {qv vin : Value} {I J : List Itm} {D : List DG} (h : LSt w base p qv vin I J D wr) {g : Nat} (hg : wr.heap.size ≤ g) : LFree p qv vin D g :=
  ⟨by have := h.line.1.lt; omega, fun e => by have := (h.line.2.lt e).2; omega, fun e => by have := (h.ins.lt e).2; omega, fun d hd hh => by have := (h.lt hd hh).2; omega⟩
/-- A byte is stored, at a step of a region that draws. -/
theorem step_storeU {ops : Array Oper} {o : Oper} {a : Act} {w : World} {K : Act → World → Prop} {Q : Exit → Act → World → Prop} {E : Prop} (hgd : o.guard = none) (x y : Operand) (ho : o.op = .store 5 x y) {b off : Nat} {n : Int} {old : Value}
    (hx : a.eval x = .pointer (some ⟨b, off, none⟩)) (hy : a.eval y = .int .u8 n) (hc : w.cell? ⟨b, off, none⟩ = some old) (hf : w.frozen? ⟨b, off, none⟩ = false) (h : K (a.put o.dst undef) (w.setCell ⟨b, off, none⟩ (.int .u8 n))) :
    if Region.wanted o (yielded ops a.tmps) = true then Oper.wp Try.prog o a w K Q else E := by
  have hw : Region.wanted o (yielded ops a.tmps) = true := by simp [Region.wanted, hgd]
  rw [if_pos hw]
  have e : (Instr.storeAt 5 (.pointer (some ⟨b, off, none⟩)) (.int .u8 n)).run Try.prog w = .ok () (w.setCell ⟨b, off, none⟩ (.int .u8 n)) := by simp [hc, hf, go_sem]
  unfold Oper.wp execOp
  simp only [ho, hx, hy, Sem.run_bind, e, Result.andThen_ok, Sem.run_pure]
  exact h
/-- What stands between two rounds. -/
def LInv (w : World) (base p k first last : Nat) (vin : Value) (wr : World) : Prop :=
  ∃ qv I D, last = I.length ∧ I.length ≤ k ∧ first ≤ I.length ∧ LSt w base p qv vin I (I.drop first) D wr ∧ D.length ≤ 4
set_option maxRecDepth 100000 in
set_option maxHeartbeats 20000000 in
theorem law_lines (v vp : Value) (L : List Itm) (P : List Bool) (w : World) (hL : RdD w v L) (hP : RdV w vp (P.map Value.bool)) (hl : L.length ≤ 1048576) :
    Calls Try.prog 7 #[v, vp] w fun e w' => e = .returned (.bool true) ∧ Below w.heap.size w w' := by
  obtain ⟨AL, cL, rfl, hL1, hL2, hL3⟩ := hL
  obtain ⟨AP, cP, rfl, hP1, hP2, hP3⟩ := hP
  rw [List.length_map] at hP1 ⊢
  go_enter Try.func7, Try.ntmps7
  go_wp2_with fail
  refine (awake _).mono ?_
  rintro e w1 ⟨rfl, hb1⟩
  go_wp2_with fail
  refine (lnew _).mono ?_
  rintro e w2 ⟨p, rfl, hq, hp1, hp2, hb2⟩
  have hB2 := below_step hb1 hb1.size hb2
  have z1 := hb1.size
  have hp0 : w.heap.size ≤ p := by omega
  have hl9 : L.length ≤ 9223372036854775807 := by omega
  have hP9 : P.length ≤ 9223372036854775807 := by unfold maxLen at hP2; omega
  have h0 : LInv w w2.heap.size p 0 0 0 (.slice none 0 0) w2 := ⟨_, [], [], rfl, Nat.le_refl _, Nat.le_refl _, ⟨hq, Dups.nil _ _, QS.nil _ _, (fun it h => by simp at h), (fun g hg => by simp [Value.ownBlock] at hg), (fun d hd => by simp at hd), hB2, hp2, Nat.le_refl _⟩, by simp⟩
  clear hq hb1 hb2
  go_wp2
  go_loopw [7, 8, 9, 10] (fun f l vin i wr => ∃ k first last : Nat, i = .int .i64 k ∧ f = .int .i64 first ∧ l = .int .i64 last ∧ k ≤ L.length ∧ LInv w w2.heap.size p k first last vin wr) (fun _ _ _ i _ => L.length - (intOf i).toNat)
  case atStart => exact ⟨0, 0, 0, rfl, rfl, rfl, Nat.zero_le _, h0⟩
  case round =>
    obtain ⟨k, first, last, rfl, rfl, rfl, hk, qv, I, D, hlast, hIk, hf, hS, hD4⟩ := hrel
    subst hlast
    clear h0
    by_cases hlt : k < L.length
    · obtain ⟨⟨bl, ol, rfl, hbl2, hc⟩, hin⟩ := hL3 k hlt
      obtain ⟨it, hit⟩ : ∃ it, it = L[k] := ⟨_, rfl⟩
      rw [← hit] at hc hin
      have HL3 := Lib.hid hL3
      have HP3 := Lib.hid hP3
      have HIT := Lib.hid hit
      clear hL3 hP3 hit
      obtain ⟨Ad, cd, hda, hd1, hd2⟩ := hin.da.form
      obtain ⟨Ab, cb, hbu, hb1, hb2⟩ := hin.bu.form
      have hBr := hS.below
      have zr := hBr.size
      have hcell : ∀ W', Below w.heap.size w W' → ∀ i u, it.e.cells[i]? = some u → W'.cell? ⟨bl, ol + k * 7 + i, none⟩ = some u := fun W' hW i u hu => (hW.cell (p := ⟨bl, ol + k * 7 + i, none⟩) hbl2).trans (hc i u hu)
      have HCELL := Lib.hid hcell
      have e0 := hcell _ hBr 0 _ rfl
      have e1 := hcell _ hBr 1 _ rfl
      have e2 := hcell _ hBr 2 _ rfl
      have e3 := hcell _ hBr 3 _ rfl
      have e4 := hcell _ hBr 4 _ rfl
      have e5 := hcell _ hBr 5 _ rfl
      have e6 := hcell _ hBr 6 _ rfl
      simp only [Nat.add_zero, bv] at e0 e1 e2 e3 e4 e5 e6
      have HDA := Lib.hid hda
      have HBU := Lib.hid hbu
      rw [hda] at e5
      rw [hbu] at e6
      clear hcell hc hda hbu
      go_upto_region 12 with (fail)
      have hBA : Below wr.heap.size wr (wr.alloc (.cells #[.int .u8 (it.e.s0.toNat : Int), .int .u8 (it.e.s1.toNat : Int), .int .u8 (it.e.s2.toNat : Int), .int .u8 (it.e.s3.toNat : Int), .int .i64 it.e.port, .slice Ad it.data.length cd, .slice Ab it.bufs.length cb] 57)) := below_alloc wr _
      have hbx : Blk (wr.alloc (.cells #[.int .u8 (it.e.s0.toNat : Int), .int .u8 (it.e.s1.toNat : Int), .int .u8 (it.e.s2.toNat : Int), .int .u8 (it.e.s3.toNat : Int), .int .i64 it.e.port, .slice Ad it.data.length cd, .slice Ab it.bufs.length cb] 57)) wr.heap.size 57 (DG.arr ⟨it.e.s0, it.e.s1, it.e.s2, it.e.s3, it.e.port, .slice Ad it.data.length cd, .slice Ab it.bufs.length cb⟩) := Blk.new _ _ _ _ rfl
      have hrd : Rd (wr.alloc (.cells #[.int .u8 (it.e.s0.toNat : Int), .int .u8 (it.e.s1.toNat : Int), .int .u8 (it.e.s2.toNat : Int), .int .u8 (it.e.s3.toNat : Int), .int .i64 it.e.port, .slice Ad it.data.length cd, .slice Ab it.bufs.length cb] 57)) (.slice Ad it.data.length cd) it.data := by have h := (hin.da.mono hBr).mono hBA; rw [HDA.out] at h; exact h
      have hdl := hin.dl
      have hbl := hin.bl
      have a5 := (hBA.cell (p := ⟨bl, ol + k * 7 + 5, none⟩) (by show bl < _; omega)).trans e5
      clear e0 e1 e2 e3 e4 e5 e6
      go_upto_region 13 with ((with_reducible refine at_slot 45 ?_); refine wpList_app rfl (.const (.slice none 0 0)) (.tmp 44) rfl _ (Ow.nil _ _) hrd rfl rfl (by simp; omega) (Nat.le_refl _) ?_; intro v45 w3 ho3 hb3 hg3; clear hg3; rw [List.nil_append] at ho3; obtain ⟨A45, c45, e45, _, _⟩ := ho3.rd.form; subst e45; have hbx3 := hbx.mono hb3; have x5 := hbx3.cell 5; have y5 := hbx3.free 5; simp only [DG.arr, List.getElem?_toArray, List.getElem?_cons_zero, List.getElem?_cons_succ] at x5)
      have hB3 : Below wr.heap.size wr (w3.setCell ⟨wr.heap.size, 5, none⟩ (.slice A45 it.data.length c45)) := (below_step hBA hBA.size hb3).setCell (p := ⟨wr.heap.size, 5, none⟩) (Nat.le_refl _) _
      have hbx4 : Blk (w3.setCell ⟨wr.heap.size, 5, none⟩ (.slice A45 it.data.length c45)) wr.heap.size 57 (DG.arr ⟨it.e.s0, it.e.s1, it.e.s2, it.e.s3, it.e.port, .slice A45 it.data.length c45, .slice Ab it.bufs.length cb⟩) := by simpa [DG.arr] using hbx3.set 5 (.slice A45 it.data.length c45)
      have ho4 : Ow (w3.setCell ⟨wr.heap.size, 5, none⟩ (.slice A45 it.data.length c45)) (wr.heap.size + 1) (.slice A45 it.data.length c45) it.data := (ho3.less (by simp)).same' fun g hg => Below.heap_setCell _ _ _ _ (by have := (owns_block_lt ho3 hg).1; simp at this; show g ≠ wr.heap.size; omega)
      have z3 : wr.heap.size + 1 ≤ w3.heap.size := by have := hb3.size; simpa using this
      have hri : RdI (w3.setCell ⟨wr.heap.size, 5, none⟩ (.slice A45 it.data.length c45)) (.slice Ab it.bufs.length cb) it.bufs := by have h := (hin.bu.mono hBr).mono hB3; rw [HBU.out] at h; exact h
      have a6 := (hB3.cell (p := ⟨bl, ol + k * 7 + 6, none⟩) (by show bl < _; omega)).trans ((HCELL.out _ hBr 6 _ rfl).trans (by rw [HBU.out]))
      clear hbx hrd a5 x5 y5 hbx3 ho3 hb3 hBA
      go_upto_region 14 with ((with_reducible refine at_slot 52 ?_); refine wpList_appIs rfl (.const (.slice none 0 0)) (.tmp 51) rfl _ (OwI.nil _ _) hri rfl rfl (by simp; omega) (Nat.le_refl _) ?_; intro v52 w5 ho5 hb5 hg5; clear hg5; rw [List.nil_append] at ho5; obtain ⟨A52, c52, e52, _, _⟩ := ho5.form; subst e52; have hbx5 := hbx4.mono hb5; have x6 := hbx5.cell 6; have y6 := hbx5.free 6; simp only [DG.arr, List.getElem?_toArray, List.getElem?_cons_zero, List.getElem?_cons_succ] at x6)
      have hBa : Below wr.heap.size wr (w5.setCell ⟨wr.heap.size, 6, none⟩ (.slice A52 it.bufs.length c52)) := (below_step hB3 hB3.size hb5).setCell (p := ⟨wr.heap.size, 6, none⟩) (Nat.le_refl _) _
      have hbx6 : Blk (w5.setCell ⟨wr.heap.size, 6, none⟩ (.slice A52 it.bufs.length c52)) wr.heap.size 57 (DG.arr ⟨it.e.s0, it.e.s1, it.e.s2, it.e.s3, it.e.port, .slice A45 it.data.length c45, .slice A52 it.bufs.length c52⟩) := by simpa [DG.arr] using hbx5.set 6 (.slice A52 it.bufs.length c52)
      have z4 : (w3.setCell ⟨wr.heap.size, 5, none⟩ (.slice A45 it.data.length c45)).heap.size = w3.heap.size := by simp [World.setCell]
      have hoA : Ow (w5.setCell ⟨wr.heap.size, 6, none⟩ (.slice A52 it.bufs.length c52)) (wr.heap.size + 1) (.slice A45 it.data.length c45) it.data := (ho4.mono hb5).same' fun g hg => Below.heap_setCell _ _ _ _ (by have := (owns_block_lt ho4 hg).1; show g ≠ wr.heap.size; omega)
      have hoB : OwI (w5.setCell ⟨wr.heap.size, 6, none⟩ (.slice A52 it.bufs.length c52)) (wr.heap.size + 1) (.slice A52 it.bufs.length c52) it.bufs := (ho5.same fun g hg => Below.heap_setCell _ _ _ _ (by have := (ho5.lt hg).1; rw [z4] at this; show g ≠ wr.heap.size; omega)).less' (by rw [z4]; omega)
      have hAB : ∀ g, (Value.slice A45 it.data.length c45).ownBlock = some g → (Value.slice A52 it.bufs.length c52).ownBlock ≠ some g := fun g hg e => by have h1 := (owns_block_lt ho4 hg).2; have h2 := (ho5.lt e).1; omega
      have hSa := hS.mono hBa
      have hDI := hS.dups.1
      have hnew : ∀ g, wr.heap.size ≤ g → LFree p qv u9 D g := fun g hg => hS.new hg
      have HNEW := Lib.hid hnew
      have HAB := Lib.hid hAB
      obtain ⟨d, hd⟩ : ∃ d : DG, d = ⟨it.e.s0, it.e.s1, it.e.s2, it.e.s3, it.e.port, .slice A45 it.data.length c45, .slice A52 it.bufs.length c52⟩ := ⟨_, rfl⟩
      have hdip : d.s0 = it.e.s0 ∧ d.s1 = it.e.s1 ∧ d.s2 = it.e.s2 ∧ d.s3 = it.e.s3 ∧ d.port = it.e.port := by rw [hd]; exact ⟨rfl, rfl, rfl, rfl, rfl⟩
      have hdda : d.da = .slice A45 it.data.length c45 := by rw [hd]
      have hdbu : d.bu = .slice A52 it.bufs.length c52 := by rw [hd]
      rw [← hd] at hbx6
      generalize w5.setCell ⟨wr.heap.size, 6, none⟩ (.slice A52 it.bufs.length c52) = wa at *
      clear hbx4 hbx5 ho4 ho5 hri a6 x6 y6 hb5 hB3 z3 z4 hnew hAB hS hd
      have hpush := lpush_st hSa hD4 it d hdip (by rw [hdda]; exact hoA.rd) (by rw [hdbu]; exact hoB.rd) hdl hbl hp0
      have HPUSH := Lib.hid hpush
      have HDD := Lib.hid (And.intro hdda hdbu)
      clear hpush hdip hdda hdbu
      go_wp2_with ((with_reducible refine at_slot 55 ?_); refine wpList_loadB rfl 57 (.tmp 11) rfl hbx6 rfl Try.underlying57 rfl DG.info ?_)
      refine HPUSH.out.mono ?_
      rintro e w6 ⟨code, qv2, J2, D2, rfl, hS6, hfr, hpd, z6⟩
      clear HPUSH
      have hHl := hbx6.lt
      have hbx7 : Blk w6 wr.heap.size 57 d.arr := (hfr _ hHl (HNEW.out _ (Nat.le_refl _))).2.trans hbx6
      have hoA6 : Ow w6 (wr.heap.size + 1) (.slice A45 it.data.length c45) it.data := hoA.same' fun g hg => (hfr g (owns_block_lt hoA hg).2 (HNEW.out _ (by have := (owns_block_lt hoA hg).1; omega))).2
      have hoB6 : OwI w6 (wr.heap.size + 1) (.slice A52 it.bufs.length c52) it.bufs := hoB.same fun g hg => (hfr g (hoB.lt hg).2 (HNEW.out _ (by have := (hoB.lt hg).1; omega))).2
      have hfrA : ∀ g, (Value.slice A45 it.data.length c45).ownBlock = some g → LFree p qv2 u9 D2 g := fun g hg => (hfr g (owns_block_lt hoA hg).2 (HNEW.out _ (by have := (owns_block_lt hoA hg).1; omega))).1
      have hfrB : ∀ g, (Value.slice A52 it.bufs.length c52).ownBlock = some g → LFree p qv2 u9 D2 g := fun g hg => (hfr g (hoB.lt hg).2 (HNEW.out _ (by have := (hoB.lt hg).1; omega))).1
      have HFA := Lib.hid hfrA
      have HFB := Lib.hid hfrB
      have HPD := Lib.hid hpd
      clear hfr hfrA hfrB hpd hoA hoB hbx6 hSa HNEW
      have hw2 : w.heap.size ≤ wr.heap.size := zr
      have hdn : it.data.length ≤ 9223372036854775807 := by omega
      have hbn : it.bufs.length ≤ 9223372036854775807 := by omega
      clear hin zr hBr hBa
      generalize wr.heap.size = H at *
      clear wr
      go_wp2
      go_loopw [13] (fun i ws => ∃ (j : Nat) (l' : List UInt8), i = .int .i64 j ∧ j ≤ it.data.length ∧ Hid (l'.length = it.data.length) ∧ Ow ws (H + 1) (.slice A45 it.data.length c45) l' ∧ LSt w w2.heap.size p qv2 u9 I J2 D2 ws ∧ Blk ws H 57 d.arr ∧ OwI ws (H + 1) (.slice A52 it.bufs.length c52) it.bufs) (fun i _ => it.data.length - (intOf i).toNat)
      case atStart => exact ⟨0, it.data, rfl, Nat.zero_le _, rfl, hoA6, hS6, hbx7, hoB6⟩
      case round =>
        obtain ⟨j, l', rfl, hj, hl', ho, hSs, hbs, hos⟩ := hrel
        clear hoA6 hS6 hbx7 hoB6
        have x5 := hbs.dg.2.2.2.2.2.1
        have x6 := hbs.dg.2.2.2.2.2.2
        rw [HDD.out.1] at x5
        rw [HDD.out.2] at x6
        by_cases hjl : j < it.data.length
        · have hjl' : j < l'.length := by rw [hl'.out]; exact hjl
          obtain ⟨g, cap, e, hg1, hg2, _, _⟩ := ow_form ho (by omega)
          injection e with e1 e2 e3
          subst e1 e3
          obtain ⟨y0, y1⟩ := ow_cells ho j hjl'
          obtain ⟨y, hy⟩ : ∃ y, y = l'[j] := ⟨_, rfl⟩
          rw [← hy] at y0
          have hy2 := UInt8.toNat_lt y
          clear hy e2
          have hhg : H ≠ g := by omega
          go_upto_region 18 with (fail)
          rename_i K18 hK18
          have hS0 : (fun w' : World => w'.cell? ⟨H, 5, none⟩ = some (.slice (some ⟨g, 0, none⟩) it.data.length c45) ∧ w'.cell? ⟨g, j, none⟩ = some (.int .u8 (y.toNat : Int))) wr.drew := ⟨x5, y0⟩
          refine wp_region_any (by kernel_rfl) (wpAny_of_G (n := 10) (S := fun w' => w'.cell? ⟨H, 5, none⟩ = some (.slice (some ⟨g, 0, none⟩) it.data.length c45) ∧ w'.cell? ⟨g, j, none⟩ = some (.int .u8 (y.toNat : Int))) _ _ _ _ ?_)
          refine G.pure' (i := 0) (v := .pointer (some ⟨H, 5, none⟩)) rfl (by kernel_rfl) (fun _ _ _ h => h) (.inl ⟨rfl, fun w' _ => ?_⟩) (fun _ => hS0) ?_
          · simp [execOp, Act.eval, go_sem]
          simp only [Act.put, List.getElem_toArray, List.getElem_cons_zero, List.setIfInBounds_toArray, List.set_cons_zero, List.set_cons_succ]
          refine G.load (i := 1) (v := .slice (some ⟨g, 0, none⟩) it.data.length c45) rfl (by kernel_rfl) (fun _ _ _ h => h) (.inl ⟨rfl, fun w' hS => ?_⟩) (hS0) ?_
          · simp [execOp, Act.eval, hS, go_sem]
          simp only [Act.put, List.getElem_toArray, List.getElem_cons_zero, List.getElem_cons_succ, List.setIfInBounds_toArray, List.set_cons_zero, List.set_cons_succ]
          refine G.pure' (i := 2) (v := .int .i64 j) rfl (by kernel_rfl) (fun _ _ _ h => h) (.inl ⟨rfl, fun w' _ => ?_⟩) (fun _ => hS0) ?_
          · simp [execOp, Act.eval, go_sem]
          simp only [Act.put, List.getElem_toArray, List.getElem_cons_zero, List.getElem_cons_succ, List.setIfInBounds_toArray, List.set_cons_zero, List.set_cons_succ]
          refine G.pure' (i := 3) (v := .pointer (some ⟨H, 5, none⟩)) rfl (by kernel_rfl) (fun _ _ _ h => h) (.inl ⟨rfl, fun w' _ => ?_⟩) (fun _ => hS0) ?_
          · simp [execOp, Act.eval, go_sem]
          simp only [Act.put, List.getElem_toArray, List.getElem_cons_zero, List.getElem_cons_succ, List.setIfInBounds_toArray, List.set_cons_zero, List.set_cons_succ]
          refine G.load (i := 4) (v := .slice (some ⟨g, 0, none⟩) it.data.length c45) rfl (by kernel_rfl) (fun _ _ _ h => h) (.inl ⟨rfl, fun w' hS => ?_⟩) (hS0) ?_
          · simp [execOp, Act.eval, hS, go_sem]
          simp only [Act.put, List.getElem_toArray, List.getElem_cons_zero, List.getElem_cons_succ, List.setIfInBounds_toArray, List.set_cons_zero, List.set_cons_succ]
          refine G.pure' (i := 5) (v := .int .i64 j) rfl (by kernel_rfl) (fun _ _ _ h => h) (.inl ⟨rfl, fun w' _ => ?_⟩) (fun _ => hS0) ?_
          · simp [execOp, Act.eval, go_sem]
          simp only [Act.put, List.getElem_toArray, List.getElem_cons_zero, List.getElem_cons_succ, List.setIfInBounds_toArray, List.set_cons_zero, List.set_cons_succ]
          refine G.pure' (i := 6) (v := .pointer (some ⟨g, j, none⟩)) rfl (by kernel_rfl) (fun _ _ _ h => h) (.inl ⟨rfl, fun w' _ => ?_⟩) (fun _ => hS0) ?_
          · simp [execOp, Act.eval, hjl, go_sem]
          simp only [Act.put, List.getElem_toArray, List.getElem_cons_zero, List.getElem_cons_succ, List.setIfInBounds_toArray, List.set_cons_zero, List.set_cons_succ]
          refine G.load (i := 7) (v := .int .u8 (y.toNat : Int)) rfl (by kernel_rfl) (fun _ _ _ h => h) (.inl ⟨rfl, fun w' hS => ?_⟩) (hS0) ?_
          · simp [execOp, Act.eval, hS, go_sem]
          simp only [Act.put, List.getElem_toArray, List.getElem_cons_zero, List.getElem_cons_succ, List.setIfInBounds_toArray, List.set_cons_zero, List.set_cons_succ]
          refine G.pure' (i := 8) (v := .int .u8 (((y.toNat : Int) + 1) % 256)) rfl (by kernel_rfl) (fun _ _ _ h => h) (.inl ⟨rfl, fun w' _ => ?_⟩) (fun _ => hS0) ?_
          · simp [execOp, Act.eval, go_sem, IntKind.wrap_u8]
          simp only [Act.put, List.getElem_toArray, List.getElem_cons_zero, List.getElem_cons_succ, List.setIfInBounds_toArray, List.set_cons_zero, List.set_cons_succ]
          refine G.pure' (i := 9) (v := .pointer (some ⟨g, j, none⟩)) rfl (by kernel_rfl) (fun _ _ _ h => h) (.inl ⟨rfl, fun w' _ => ?_⟩) (fun _ => hS0) ?_
          · simp [execOp, Act.eval, hjl, go_sem]
          simp only [Act.put, List.getElem_toArray, List.getElem_cons_zero, List.getElem_cons_succ, List.setIfInBounds_toArray, List.set_cons_zero, List.set_cons_succ]
          refine G.only' (i := 10) ?r10 rfl ?o10
          case r10 => kernel_rfl
          intro K hK
          refine step_storeU (n := ((y.toNat : Int) + 1) % 256) rfl (.tmp 73) (.tmp 72) rfl ?q1 ?q2 hS0.2 y1 ?_
          case q1 => simp [Act.eval]
          case q2 => simp [Act.eval]
          refine hK _ _ (fun e => Bool.noConfusion (show true = false from e)) (G.done (by kernel_rfl) ?_)
          clear hK K
          simp only [Act.put, List.getElem_toArray, List.getElem_cons_zero, List.getElem_cons_succ]
          simp only [Exit.inBlock, Exit.then]
          refine hK18 _ _ ?_
          clear hK18 K18
          go_wp2
          go_roundw
          case rel =>
            refine ⟨j + 1, l'.set j (y + 1), by go_num, by omega, by unfold Hid; rw [List.length_set]; exact hl'.out, (ow_inc ho y).drew, hSs.touch (Touch.set (S := fun k => k = g) wr (p := ⟨g, j, none⟩) rfl _).drew (fun k hk _ => by subst hk; exact HFA.out _ rfl) (fun k hk => by subst hk; omega), (hbs.far (p := ⟨g, j, none⟩) hhg _).drw, hos.same fun g' hg' => Below.heap_setCell _ _ _ _ (fun e => HAB.out g' (by rw [e]; rfl) hg')⟩
          case measure => simp [intOf]; omega
        · obtain rfl : j = it.data.length := by omega
          go_upto_region 19 with (fail)
          have hAB2 := HAB.out
          clear x5 ho
          go_wp2
          go_loopw [14] (fun i ws => ∃ (j : Nat) (l2 : List Int), i = .int .i64 j ∧ j ≤ it.bufs.length ∧ Hid (l2.length = it.bufs.length) ∧ OwI ws (H + 1) (.slice A52 it.bufs.length c52) l2 ∧ LSt w w2.heap.size p qv2 u9 I J2 D2 ws ∧ Blk ws H 57 d.arr) (fun i _ => it.bufs.length - (intOf i).toNat)
          case atStart => exact ⟨0, it.bufs, rfl, Nat.zero_le _, rfl, hos, hSs, hbs⟩
          case round =>
            obtain ⟨j, l2, rfl, hj2, hl2', ho2, hSt, hbt⟩ := hrel
            clear hos hSs hbs x6
            have x6 := hbt.dg.2.2.2.2.2.2
            rw [HDD.out.2] at x6
            by_cases hjl : j < it.bufs.length
            · have hjl' : j < l2.length := by rw [hl2'.out]; exact hjl
              obtain ⟨g, e1, hg1, hg2⟩ := owI_form ho2 (by omega)
              subst e1
              obtain ⟨y0, y1⟩ := owI_cells ho2 j hjl'
              have hhg : H ≠ g := by omega
              go_wp2
              go_roundw
              case rel =>
                refine ⟨j + 1, l2.set j (-1), by go_num, by omega, by unfold Hid; rw [List.length_set]; exact hl2'.out, owI_set ho2 (-1), hSt.touch (Touch.set (S := fun k => k = g) wr (p := ⟨g, j, none⟩) rfl _) (fun k hk _ => by subst hk; exact HFB.out _ rfl) (fun k hk => by subst hk; omega), hbt.far (p := ⟨g, j, none⟩) hhg _⟩
              case measure => simp [intOf]; omega
            · obtain rfl : j = it.bufs.length := by omega
              go_upto_region 23 with (fail)
              have hpd := HPD.out
              clear ho2 hbt x6 HPD HFA HFB HAB hAB2 HDD
              have hIl : I.length ≤ 1048576 := by omega
              have hdI : D.length = I.length - first := by rw [← hDI]; simp
              go_cut [99] from 85 to 99 (fun c wx => c = .bool false ∧ wx = wr)
              case first =>
                rcases hpd.two with ⟨h4, rfl, -, -⟩ | ⟨h4, rfl, -, -⟩
                · have g1 : decide ((I.length : Int) - (first : Int) < 4) = true := by simp; omega
                  clear hpd h4
                  go_wp2_with fail
                  go_meet
                  exact ⟨rfl, rfl⟩
                · have g1 : decide ((I.length : Int) - (first : Int) < 4) = false := by simp; omega
                  clear hpd h4
                  go_wp2_with fail
                  go_meet
                  exact ⟨rfl, rfl⟩
              case rest =>
                obtain ⟨rfl, rfl⟩ := hcut
                have hBc := hSt.below
                have e0 := HCELL.out _ hBc 0 _ rfl
                have e1 := HCELL.out _ hBc 1 _ rfl
                have e2 := HCELL.out _ hBc 2 _ rfl
                have e3 := HCELL.out _ hBc 3 _ rfl
                have e4 := HCELL.out _ hBc 4 _ rfl
                have e5 := HCELL.out _ hBc 5 _ rfl
                have e6 := HCELL.out _ hBc 6 _ rfl
                simp only [Nat.add_zero, bv] at e0 e1 e2 e3 e4 e5 e6
                rw [HDA.out] at e5
                rw [HBU.out] at e6
                go_upto_if 101 with (fail)
                go_cut [8, 9] from 100 to 110 (fun l vin wx => ∃ (I' : List Itm) (n' : Nat), l = .int .i64 n' ∧ n' = I'.length ∧ LSt w w2.heap.size p qv2 vin I' (I'.drop first) D2 wx ∧ first ≤ I'.length ∧ I'.length ≤ k + 1 ∧ D2.length ≤ 4)
                case first =>
                  rcases hpd.two with ⟨h4, rfl, hJ, hD2⟩ | ⟨h4, rfl, hJ, hD2⟩
                  · obtain ⟨A9, c9, e9, _, _⟩ := hSt.ins.form
                    subst e9
                    subst hJ
                    have hBA := below_alloc wc (.cells #[.int .u8 (it.e.s0.toNat : Int), .int .u8 (it.e.s1.toNat : Int), .int .u8 (it.e.s2.toNat : Int), .int .u8 (it.e.s3.toNat : Int), .int .i64 it.e.port, .slice Ad it.data.length cd, .slice Ab it.bufs.length cb] 57)
                    have hSA := hSt.mono hBA
                    have HST := Lib.hid hSA
                    have hIt := (HIT.out ▸ (HL3.out k hlt).2 : it.In w)
                    have hde : it.e = ⟨it.e.s0, it.e.s1, it.e.s2, it.e.s3, it.e.port, .slice Ad it.data.length cd, .slice Ab it.bufs.length cb⟩ := by rw [← HDA.out, ← HBU.out]
                    have HDE := Lib.hid hde
                    have hnw : Blk (wc.alloc (.cells #[.int .u8 (it.e.s0.toNat : Int), .int .u8 (it.e.s1.toNat : Int), .int .u8 (it.e.s2.toNat : Int), .int .u8 (it.e.s3.toNat : Int), .int .i64 it.e.port, .slice Ad it.data.length cd, .slice Ab it.bufs.length cb] 57)) wc.heap.size 57 (DG.arr ⟨it.e.s0, it.e.s1, it.e.s2, it.e.s3, it.e.port, .slice Ad it.data.length cd, .slice Ab it.bufs.length cb⟩) := Blk.new _ _ _ _ rfl
                    have zc := hSA.hb
                    clear hpd hSA hSt hde
                    go_wp2_with ((with_reducible refine at_slot 108 ?_); refine wpList_appQ rfl (.tmp 102) (.tmp 107) rfl w2.heap.size HST.out.ins rfl rfl (fun j u hu => by rw [add_lit, Nat.zero_add, hnw.cell j, ← Array.getElem?_toList]; exact hu) (by intro u hu; simp [DG.cells] at hu; rcases hu with rfl | rfl | rfl | rfl | rfl | rfl | rfl <;> rfl) (by simp; omega) zc ?_; intro v5 w5' hq5 hg5 hb5)
                    go_meet
                    rw [← HDE.out] at hq5
                    exact ⟨I ++ [it], I.length + 1, by go_num, by simp, by have h := HST.out.app hIt hq5 hg5 hb5 (by omega); rwa [List.drop_append_of_le_length hf] , by simp; omega, by simp; omega, by omega⟩
                  · subst hJ
                    subst hD2
                    clear hpd
                    go_wp2_with fail
                    go_meet
                    exact ⟨I, _, rfl, rfl, hSt, hf, by omega, by omega⟩
                case rest =>
                  obtain ⟨I', n', rfl, hn', hSt', hf', hI', hD4'⟩ := hcut
                  clear hpd hSt e0 e1 e2 e3 e4 e5 e6 hBc hdI hDI hdl hbl hd1 hd2 hb1 hb2
                  have HN := Lib.hid hn'
                  clear hn'
                  go_upto_region 28 with (fail)
                  go_cut [120] from 111 to 120 (fun c wx => (∃ b, c = .bool b) ∧ wx = wc)
                  case first =>
                    by_cases hkp : k < P.length
                    · rcases HP3.out with h | ⟨bp, op, rfl, hbp, hcp⟩
                      · rw [List.map_eq_nil_iff] at h
                        rw [h] at hkp
                        simp at hkp
                      · have hck := (hSt'.below.cell (p := ⟨bp, op + k, none⟩) hbp).trans (hcp k (.bool P[k]) (by rw [List.getElem?_map, List.getElem?_eq_getElem hkp]; rfl))
                        clear hcp
                        go_wp2_with fail
                        go_meet
                        exact ⟨⟨_, rfl⟩, rfl⟩
                    · have g1 : decide ((k : Int) < (P.length : Int)) = false := by simp; omega
                      go_wp2_with fail
                      go_meet
                      exact ⟨⟨_, rfl⟩, rfl⟩
                  case rest =>
                    obtain ⟨⟨b, rfl⟩, rfl⟩ := hcut
                    have hd3 := hSt'.dups.1
                    go_upto_if 120 with (fail)
                    go_cut [7] from 121 to 169 (fun f wx => ∃ (first' : Nat) (qv3 : Value) (D3 : List DG), f = .int .i64 first' ∧ LSt w w2.heap.size p qv3 u9 I' (I'.drop first') D3 wx ∧ first' ≤ I'.length ∧ D3.length ≤ 4)
                    case first =>
                      cases b with
                      | false =>
                        go_wp2_with fail
                        go_meet
                        exact ⟨first, qv2, D2, rfl, hSt', hf', hD4'⟩
                      | true =>
                        go_wp2_with fail
                        refine (lpop_st hSt' hp0).mono ?_
                        rintro e w7 (⟨hJ, rfl, hS7, hD⟩ | ⟨d7, D7, it7, J7, qv7, hJ, hD, rfl, hS7, hdup⟩)
                        · have g1 : decide ((first : Int) < (n' : Int)) = false := by
                            have h0 : (I'.drop first).length = 0 := by rw [hJ]; rfl
                            have h1 := HN.out
                            simp at h0 ⊢
                            omega
                          have g2 : decide (first < n') = false := by simpa using g1
                          have hS8 := hS7.mono (below_alloc w7 (.cells #[.int .u8 0, .int .u8 0, .int .u8 0, .int .u8 0, .int .i64 0, .slice none 0 0, .slice none 0 0] 57))
                          have HS8 := Lib.hid hS8
                          clear hJ hS7 hS8 hSt' hd3
                          rw [DG.zero_v]
                          go_wp2_with fail
                          go_meet
                          exact ⟨first, qv2, D2, rfl, HS8.out, hf', hD4'⟩
                        · have hlen7 : (I'.drop first).length = J7.length + 1 := by rw [hJ]; rfl
                          have hfl : first < I'.length := by simp at hlen7; omega
                          have g1 : decide ((first : Int) < (n' : Int)) = true := by
                            have h1 := HN.out
                            simp
                            omega
                          have g2 : decide (first < n') = true := by simpa using g1
                          have hdrop : I'.drop first = I'[first] :: I'.drop (first + 1) := List.drop_eq_getElem_cons hfl
                          rw [hJ] at hdrop
                          injection hdrop with hi7 hJ7
                          have hin7 := hS7.isIn it7 (by rw [hi7]; exact List.getElem_mem _)
                          obtain ⟨A9, c9, e9, hc91, hc92⟩ := hS7.ins.form
                          have hm7 : (I'.map (·.e)).length = I'.length := by simp
                          rw [hm7] at e9 hc91
                          subst e9
                          obtain ⟨bi, oi, ei, hbi, hci⟩ := hS7.ins.at_ first (by simpa using hfl)
                          subst ei
                          have hget : (I'.map (·.e))[first]'(by simpa using hfl) = it7.e := by simp [hi7]
                          rw [hget] at hci
                          have hY0 : Blk (w7.alloc (.cells #[.int .u8 0, .int .u8 0, .int .u8 0, .int .u8 0, .int .i64 0, .slice none 0 0, .slice none 0 0] 57)) w7.heap.size 57 DG.zero.arr := Blk.new _ _ _ _ rfl
                          have hY := (heap_setRow (cells := d7.arr) hY0).1
                          have hBY : Below w7.heap.size w7 (World.setRow (w7.alloc (.cells #[.int .u8 0, .int .u8 0, .int .u8 0, .int .u8 0, .int .i64 0, .slice none 0 0, .slice none 0 0] 57)) w7.heap.size d7.arr) := below_setRow (below_alloc w7 _) hY0 (Nat.le_refl _)
                          have hS8 := hS7.mono hBY
                          have hd8 : Dup _ w2.heap.size it7 d7 := hdup.same fun g hg => hBY.block g (hdup.lt hg).2
                          have f0 := (hBY.cell (p := ⟨bi, oi + first * 7 + 0, none⟩) hbi).trans (hci 0 _ rfl)
                          have f1 := (hBY.cell (p := ⟨bi, oi + first * 7 + 1, none⟩) hbi).trans (hci 1 _ rfl)
                          have f2 := (hBY.cell (p := ⟨bi, oi + first * 7 + 2, none⟩) hbi).trans (hci 2 _ rfl)
                          have f3 := (hBY.cell (p := ⟨bi, oi + first * 7 + 3, none⟩) hbi).trans (hci 3 _ rfl)
                          have f4 := (hBY.cell (p := ⟨bi, oi + first * 7 + 4, none⟩) hbi).trans (hci 4 _ rfl)
                          have f5 := (hBY.cell (p := ⟨bi, oi + first * 7 + 5, none⟩) hbi).trans (hci 5 _ rfl)
                          have f6 := (hBY.cell (p := ⟨bi, oi + first * 7 + 6, none⟩) hbi).trans (hci 6 _ rfl)
                          simp only [Nat.add_zero, bv] at f0 f1 f2 f3 f4 f5 f6
                          obtain ⟨A7, c7, ha7, ha71, ha72⟩ := hin7.da.form
                          obtain ⟨B7, b7, hb7, hb71, hb72⟩ := hin7.bu.form
                          obtain ⟨A8, c8, ha8, ha81, ha82⟩ := hdup.da.rd.form
                          obtain ⟨B8, b8, hb8, hb81, hb82⟩ := hdup.bu.form
                          rw [ha7] at f5
                          rw [hb7] at f6
                          obtain ⟨x0, x1, x2, x3, x4, x5, x6⟩ := hY.dg
                          obtain ⟨i0, i1, i2, i3, i4⟩ := hdup.ip
                          rw [i0] at x0
                          rw [i1] at x1
                          rw [i2] at x2
                          rw [i3] at x3
                          rw [i4] at x4
                          rw [ha8] at x5
                          rw [hb8] at x6
                          have one7 := DG.arr_one hdup.one
                          have HS7 := Lib.hid hS7
                          have HS8 := Lib.hid hS8
                          have HD8 := Lib.hid hd8
                          have HIN7 := Lib.hid hin7
                          have HA := Lib.hid (And.intro ha7 (And.intro hb7 (And.intro ha8 hb8)))
                          have HJ := Lib.hid (And.intro hJ hJ7)
                          have HIP := Lib.hid (And.intro i0 (And.intro i1 (And.intro i2 (And.intro i3 i4))))
                          have HD := Lib.hid hD
                          clear hJ hJ7 hS7 hS8 hSt' hd3 hdup hd8 hin7 ha7 hb7 ha8 hb8 i0 i1 i2 i3 i4 hci hget hi7 hlen7 hm7 hD
                          go_upto_region 30 with (refine wpList_storeB rfl 57 (.tmp 15) (.tmp 124) rfl rfl hY0 d7.arr rfl rfl DG.info rfl one7 ?_)
                          have hS9 := HS8.out
                          obtain ⟨Y, hYe⟩ : ∃ Y, Y = World.setRow (w7.alloc (.cells #[.int .u8 0, .int .u8 0, .int .u8 0, .int .u8 0, .int .i64 0, .slice none 0 0, .slice none 0 0] 57)) w7.heap.size d7.arr := ⟨_, rfl⟩
                          have HD9 := HD8.out
                          rw [← hYe] at f0 f1 f2 f3 f4 f5 f6 x0 x1 x2 x3 x4 x5 x6 hS9 HD9 hBY ⊢
                          clear HS8 HD8 hYe hY hY0 HS7
                          have hin9 := HIN7.out.mono hS9.below
                          have hBA := below_alloc Y (.cells #[.int .u8 (it7.e.s0.toNat : Int), .int .u8 (it7.e.s1.toNat : Int), .int .u8 (it7.e.s2.toNat : Int), .int .u8 (it7.e.s3.toNat : Int), .int .i64 it7.e.port, .slice A7 it7.data.length c7, .slice B7 it7.bufs.length b7] 57)
                          have hYl : w7.heap.size < Y.heap.size := World.block_lt_of_cell? _ _ x0
                          have x0 := (hBA.cell (p := ⟨w7.heap.size, 0, none⟩) hYl).trans x0
                          have x1 := (hBA.cell (p := ⟨w7.heap.size, 1, none⟩) hYl).trans x1
                          have x2 := (hBA.cell (p := ⟨w7.heap.size, 2, none⟩) hYl).trans x2
                          have x3 := (hBA.cell (p := ⟨w7.heap.size, 3, none⟩) hYl).trans x3
                          have x4 := (hBA.cell (p := ⟨w7.heap.size, 4, none⟩) hYl).trans x4
                          have x5 := (hBA.cell (p := ⟨w7.heap.size, 5, none⟩) hYl).trans x5
                          have x6 := (hBA.cell (p := ⟨w7.heap.size, 6, none⟩) hYl).trans x6
                          have k0 := ip_same it7.e.s0 it7.e.s1 it7.e.s2 it7.e.s3
                          have k1 := run_str (HD9.da.rd.mono hBA)
                          have k2 := run_str (hin9.da.mono hBA)
                          rw [HA.out.2.2.1] at k1
                          rw [HA.out.1] at k2
                          have hSA := hS9.mono hBA
                          have HSA := Lib.hid hSA
                          clear hSA hS9 HD9 hin9 hBA
                          go_wp2_with fail
                          go_meet
                          have hJ2 := HJ.out
                          exact ⟨first + 1, qv7, D7, by go_num, by rw [← hJ2.2]; exact HSA.out, hfl, by have := HD.out; rw [this] at hD4'; simp at hD4'; omega⟩
                    case rest =>
                      obtain ⟨first', qv3, D3, rfl, hSu, hfu, hDu⟩ := hcut
                      clear hSt' hd3 hD4'
                      go_wp2_with fail
                      refine (lbufs _ p w2.heap.size qv3 _ D3 hSu.line hSu.dups hDu).mono ?_
                      rintro e w8 ⟨v18, rfl, ho18, hb8⟩
                      have hS8 := hSu.mono hb8
                      clear hSu
                      obtain ⟨A18, c18, rfl, h181, h182⟩ := ho18.form
                      have hr18 := ho18.rd
                      obtain ⟨A9, c9, e9, hc91, hc92⟩ := hS8.ins.form
                      have hm9 : (I'.map (·.e)).length = I'.length := by simp
                      rw [hm9] at e9 hc91
                      subst e9
                      have hlen18 : (bufsOf (I'.drop first')).length ≤ 9223372036854775807 := by omega
                      obtain ⟨J, hJ⟩ : ∃ J, J = I'.drop first' := ⟨_, rfl⟩
                      have hJl : J.length = I'.length - first' := by rw [hJ]; simp
                      have hn9 : I'.length ≤ 1048576 := by omega
                      rw [← hJ] at ho18 h181 hr18 hlen18 hS8 ⊢
                      have HS8 := Lib.hid hS8
                      have HJ := Lib.hid hJ
                      clear hJ hS8 hb8 hc91
                      obtain ⟨nb, hnb⟩ : ∃ nb, nb = (bufsOf J).length := ⟨_, rfl⟩
                      rw [← hnb] at ho18 h181 hr18 hlen18 ⊢
                      have HNB := Lib.hid hnb
                      clear hnb
                      go_wp2
                      go_loopw [19, 20] (fun n q ws => ∃ j : Nat, q = .int .i64 (first' + j : Nat) ∧ j ≤ J.length ∧ n = .int .i64 ((bufsOf (J.take j)).length : Nat) ∧ Below w8.heap.size w8 ws) (fun _ q _ => I'.length - (intOf q).toNat)
                      case atStart => exact ⟨0, rfl, Nat.zero_le _, rfl, Below.refl _ _⟩
                      case round =>
                        obtain ⟨j, rfl, hj, rfl, hbw⟩ := hrel
                        by_cases hjl : j < J.length
                        · have gq : decide (first' + j < n') = true := by have := HN.out; simp; omega
                          have gq2 : decide (((first' + j : Nat) : Int) < (n' : Int)) = true := by have := HN.out; simp; omega
                          obtain ⟨m, hm⟩ : ∃ m, m = first' + j := ⟨_, rfl⟩
                          have hmI : m < I'.length := by omega
                          have hJm : J[j] = I'[m] := drop_at I' J first' j m HJ.out hm hjl hmI
                          obtain ⟨bi, oi, ei, hbi, hci⟩ := HS8.out.inAt m hmI
                          subst ei
                          rw [← hJm] at hci
                          have hinJ : J[j].In w := by rw [hJm]; exact HS8.out.isIn _ (List.getElem_mem _)
                          have hsucc := bufsOf_succ J j hjl
                          have hat := bufsOf_at J j hjl
                          obtain ⟨itj, hitj⟩ : ∃ itj, itj = J[j] := ⟨_, rfl⟩
                          rw [← hitj] at hci hinJ hsucc
                          have hat2 : ∀ i (hi : i < itj.bufs.length), ∃ h : (bufsOf (J.take j)).length + i < (bufsOf J).length, (bufsOf J)[(bufsOf (J.take j)).length + i] = itj.bufs[i] := by rw [hitj]; exact hat
                          clear hat hitj hJm
                          obtain ⟨B7, b7, hb7, hb71, hb72⟩ := hinJ.bu.form
                          have hrb := hinJ.bu
                          have hrbl := hinJ.bl
                          rw [hb7] at hrb
                          have c6 := (hbw.cell (p := ⟨bi, oi + m * 7 + 6, none⟩) hbi).trans (hci 6 itj.e.bu rfl)
                          rw [hb7] at c6
                          obtain ⟨n0, hn0⟩ : ∃ n0, n0 = (bufsOf (J.take j)).length := ⟨_, rfl⟩
                          rw [← hn0] at hsucc hat2 ⊢
                          rw [← hm] at gq gq2 ⊢
                          have hbj9 : itj.bufs.length ≤ 9223372036854775807 := by omega
                          have hm9' : m ≤ 1048576 := by omega
                          have hnb9 : n0 + itj.bufs.length ≤ 9223372036854775807 := by
                            rcases Nat.eq_zero_or_pos itj.bufs.length with h | h
                            · have h2 : (bufsOf (J.take j)).length ≤ (bufsOf J).length := by
                                have e := congrArg (fun x => (bufsOf x).length) (List.take_append_drop j J)
                                simp only [bufsOf, List.flatMap_append, List.length_append] at e ⊢
                                omega
                              have h3 := HNB.out
                              omega
                            · have h3 := HNB.out
                              obtain ⟨h4, _⟩ := hat2 (itj.bufs.length - 1) (by omega)
                              omega
                          have HAT := Lib.hid hat2
                          have HSUC := Lib.hid hsucc
                          have HRB := Lib.hid hrb
                          have HM := Lib.hid hm
                          have HB7 := Lib.hid hb7
                          have HIN := Lib.hid hinJ
                          have HN0 := Lib.hid hn0
                          have HBL := Lib.hid hrbl
                          have HCI := Lib.hid (hci 6 itj.e.bu rfl)
                          clear hci
                          clear hat2 hsucc hrb hm hb7 hinJ hn0 hrbl
                          go_wp2
                          go_loopw [19, 21] (fun n q ws => ∃ i t : Nat, q = .int .i64 i ∧ i ≤ itj.bufs.length ∧ n = .int .i64 t ∧ t = n0 + i ∧ Below w8.heap.size w8 ws) (fun _ q _ => itj.bufs.length - (intOf q).toNat)
                          case atStart => exact ⟨0, n0, rfl, Nat.zero_le _, rfl, rfl, hbw⟩
                          case round =>
                            obtain ⟨i, t, rfl, hi, rfl, ht, hbw2⟩ := hrel
                            have c6 := (hbw2.cell (p := ⟨bi, oi + m * 7 + 6, none⟩) hbi).trans HCI.out
                            rw [HB7.out] at c6
                            by_cases hil : i < itj.bufs.length
                            · obtain ⟨h4, h5⟩ := HAT.out i hil
                              have htn : t < nb := by have := HNB.out; omega
                              have htn2 : (t : Int) < (nb : Int) := by omega
                              have g1 : decide ((nb : Int) ≤ (t : Int)) = false := by simp; omega
                              have g2 : decide (nb ≤ t) = false := by simp; omega
                              obtain ⟨bx, ox, ex, hbx, cx⟩ := RdI.at_ HRB.out i hil
                              subst ex
                              have cx8 := (hbw2.cell (p := ⟨bx, ox + i, none⟩) (Nat.lt_of_lt_of_le hbx HS8.out.below.size)).trans ((HS8.out.below.cell (p := ⟨bx, ox + i, none⟩) hbx).trans cx)
                              obtain ⟨by', oy, ey, hby, cy⟩ := RdI.at_ (l := bufsOf J) hr18 t (by have := HNB.out; omega)
                              subst ey
                              have hval : (bufsOf J)[t]'(by have := HNB.out; omega) = itj.bufs[i] := by subst ht; exact h5
                              rw [hval] at cy
                              have cy8 := (hbw2.cell (p := ⟨by', oy + t, none⟩) hby).trans cy
                              obtain ⟨z, hz⟩ : ∃ z, z = itj.bufs[i] := ⟨_, rfl⟩
                              rw [← hz] at cx8 cy8
                              have HT := Lib.hid ht
                              clear cx cy hval hz h4 h5 ht
                              go_upto_region 45 with (fail)
                              go_quiet (fail)
                              go_wp2
                              go_roundw
                              case rel => exact ⟨i + 1, t + 1, by go_num, by omega, by go_num, by have := HT.out; omega, below_drewN hbw2 _⟩
                              case measure => simp [intOf]; omega
                            · obtain rfl : i = itj.bufs.length := by omega
                              have hte : t = (bufsOf (J.take (j + 1))).length := by rw [HSUC.out]; exact ht
                              have HTE := Lib.hid hte
                              clear ht hte
                              go_wp2
                              go_roundw
                              case rel => exact ⟨j + 1, by have := HM.out; subst this; go_num, by omega, by rw [HTE.out], hbw2⟩
                              case measure => have := HM.out; simp [intOf]; omega
                        · obtain rfl : j = J.length := by omega
                          have hn'e := HN.out
                          have gq : decide (first' + J.length < n') = false := by simp; omega
                          have gq2 : decide (((first' + J.length : Nat) : Int) < (n' : Int)) = false := by simp; omega
                          have hnb2 : (bufsOf (J.take J.length)).length = nb := by rw [List.take_length]; exact HNB.out.symm
                          rw [hnb2]
                          have hDn : D3.length = J.length := HS8.out.dups.1.symm
                          have hsub : (n' : Int) - (first' : Int) = (D3.length : Int) := by omega
                          have hn'9 : n' ≤ 1048576 := by omega
                          have hf'9 : first' ≤ n' := by omega
                          obtain ⟨m, hm⟩ : ∃ m, m = first' + J.length := ⟨_, rfl⟩
                          rw [← hm] at gq gq2 ⊢
                          clear hn'e hm hnb2
                          have hS10 := HS8.out.mono hbw
                          have hll := llen _ p w2.heap.size qv3 D3 hS10.line
                          have HS10 := Lib.hid hS10
                          clear hS10
                          have HLL := Lib.hid hll
                          clear hll
                          go_wp2_with fail
                          refine HLL.out.mono ?_
                          rintro e w' ⟨rfl, rfl⟩
                          clear HLL
                          go_wp2
                          go_roundw
                          case rel => exact ⟨k + 1, first', n', by go_num, rfl, rfl, by omega, qv3, I', D3, HN.out, by omega, hfu, by rw [← HJ.out]; exact HS10.out, hDu⟩
                          case measure => simp [intOf]; omega
    · obtain rfl : k = L.length := by omega
      have HL3 := Lib.hid hL3
      have HP3 := Lib.hid hP3
      have hBf := hS.below
      clear hL3 hP3 hS
      go_wp2
      go_ret
      exact ⟨rfl, hBf⟩
end Go.Proofs.Ytbhdojpgjmbogaa
