/- tcp.Reset and the reference's. -/
import Derived.Test.YtbhdojpgjmbogaaTcp1
import Derived.Deep.RegionWith
namespace Go.Proofs.Ytbhdojpgjmbogaa
open Go.RowKit Go.Shelf
abbrev noS : Value := .slice none 0 0
def SG.zero : SG := ⟨0, 0, 0, 0, 0, 0, 0, false, noS, noS⟩
/-- What answers a segment. -/
def rstS (s : SG) (n : Nat) : SG := if hasB s.fl 16 then ⟨s.too, s.fr, s.ak, 0, 4, 0, 0, false, noS, noS⟩ else ⟨s.too, s.fr, 0, (s.sq + sizeN s.fl n) % 4294967296, 20, 0, 0, false, noS, noS⟩
def RsEnd (w : World) (s : SG) (n : Nat) (e : Ending) (w' : World) : Prop :=
  e = .returned (.tuple #[(if hasB s.fl 4 then SG.zero else rstS s n).v, .bool (!hasB s.fl 4)]) ∧ Below w.heap.size w w'
theorem ret_seg {fn : Func} {p u : Tmp} (h : fn.results = #[.cell p 67, .tmp u]) (tmps : Array Value) (w : World) {g : Nat} {cs : Array Value} (hp : tmps.getD p undef = .pointer (some ⟨g, 0, none⟩)) (hg : Blk w g 67 cs) (hs : cs.size = 10) :
    (results fn tmps).run Try.prog w = .ok (.tuple #[.agg cs, tmps.getD u undef]) w := by
  rw [results_cell_tmp h, hp]
  have e : (asAddr (.pointer (some ⟨g, 0, none⟩))).run Try.prog w = .ok ⟨g, 0, none⟩ w := rfl
  have hi : (Try.prog.info? 67).map (·.size) = some cs.size := by rw [hs]; exact SG.info
  rw [e]
  simp only [Result.andThen]
  rw [run_loadVar_row w g _ _ cs (0, 0) _ hg Try.underlying67 rfl hi]
/-- The boxes of a segment and of a result. -/
theorem box3 {w : World} {s : SG} {motive : World → Prop}
    (h : ∀ X, Below w.heap.size w X → w.heap.size + 2 = X.heap.size → Blk X w.heap.size 67 s.cells → Blk X (w.heap.size + 1) 67 SG.zero.cells → motive X) :
    motive ((w.alloc (.cells s.cells 67)).alloc (.cells SG.zero.cells 67)) :=
  h _ (((Below.refl w.heap.size w).alloc (Nat.le_refl _) _).alloc (by simp) _) (by simp) ((Blk.new w 67 s.cells _ rfl).alloc _) (Blk.new _ 67 SG.zero.cells _ (by simp))
theorem SG.one {s : SG} (hg : s.gt.oneCell' = true) (hd : s.da.oneCell' = true) : s.cells.all (·.oneCell') = true := by
  have e : ∀ a b c d e f g h : Value, a.oneCell' = true → b.oneCell' = true → c.oneCell' = true → d.oneCell' = true → e.oneCell' = true → f.oneCell' = true → g.oneCell' = true → h.oneCell' = true → (#[a, b, c, d, e, f, g, h, s.gt, s.da] : Array Value).all (·.oneCell') = true := by
    intro a b c d e f g h ha hb hc hd' he hf hg' hh
    simp [ha, hb, hc, hd', he, hf, hg', hh, hg, hd]
  exact e _ _ _ _ _ _ _ _ rfl rfl rfl rfl rfl rfl rfl rfl
/-- A whole variable that was boxed is stored into. -/
theorem wpList_storeB {ops : Array Oper} {rest : List Oper} {o : Oper} {a : Act} {w : World} {Q : Exit → Act → World → Prop} (hgd : o.guard = none) (ty : TypeId) (x y : Operand) (ho : o.op = .store ty x y) (hd : o.dst = none)
    {g : Nat} {t : TypeId} {old : Array Value} (hg : Blk w g t old) (cells : Array Value) (hx : a.eval x = .pointer (some ⟨g, 0, none⟩)) (hy : a.eval y = .agg cells) (hi : (Try.prog.info? ty).map (·.size) = some cells.size)
    (hold : old.size = cells.size) (h1 : cells.all (·.oneCell') = true)
    (h : wpList Try.prog ops Q rest a (w.setRow g cells)) : wpList Try.prog ops Q (o :: rest) a w :=
  wpList_store_row hgd ty x y ho g cells hx hy t old hg hi hold h1 (by rw [hd]; exact h)
theorem heap_setRow {w : World} {g : Nat} {t : TypeId} {old cells : Array Value} (hg : Blk w g t old) : Blk (w.setRow g cells) g t cells ∧ ∀ k, k ≠ g → (w.setRow g cells).heap[k]? = w.heap[k]? := by
  unfold Blk at *
  constructor
  · simp [World.setRow, Array.getElem?_modify, hg]
  · intro k hk
    simp [World.setRow, Array.getElem?_modify, Ne.symm hk]
theorem Blk.rowFar {w : World} {g k : Nat} {t t' : TypeId} {old cells cs : Array Value} (hg : Blk w g t old) (h : Blk w k t' cs) (hk : k ≠ g) : Blk (w.setRow g cells) k t' cs := ((heap_setRow hg).2 k hk).trans h
theorem below_setRow {B : Nat} {w w1 : World} {g : Nat} {t : TypeId} {old cells : Array Value} (h : Below B w w1) (hg : Blk w1 g t old) (hB : B ≤ g) : Below B w (w1.setRow g cells) :=
  h.trans ⟨rfl, rfl, rfl, by simp [World.setRow], fun k hk => (heap_setRow hg).2 k (by omega)⟩
/-- The cells of a boxed segment. -/
theorem Blk.sg {w : World} {g : Nat} {s : SG} (h : Blk w g 67 s.cells) :
    w.cell? ⟨g, 0, none⟩ = some (.int .i64 s.fr) ∧ w.cell? ⟨g, 1, none⟩ = some (.int .i64 s.too) ∧ w.cell? ⟨g, 2, none⟩ = some (.int .u32 s.sq) ∧ w.cell? ⟨g, 3, none⟩ = some (.int .u32 s.ak) ∧ w.cell? ⟨g, 4, none⟩ = some (.int .i64 s.fl) ∧
    w.cell? ⟨g, 5, none⟩ = some (.int .i64 s.wn) ∧ w.cell? ⟨g, 6, none⟩ = some (.int .i64 s.ms) ∧ w.cell? ⟨g, 7, none⟩ = some (.bool s.sk) ∧ w.cell? ⟨g, 8, none⟩ = some s.gt ∧ w.cell? ⟨g, 9, none⟩ = some s.da :=
  ⟨h.cell 0, h.cell 1, h.cell 2, h.cell 3, h.cell 4, h.cell 5, h.cell 6, h.cell 7, h.cell 8, h.cell 9⟩
theorem Blk.out3 {w : World} {g : Nat} {s : SG} (h : Blk w g 67 s.cells) : w.cell? ⟨g, 2, none⟩ = some (.int .u32 s.sq) ∧ w.cell? ⟨g, 3, none⟩ = some (.int .u32 s.ak) ∧ w.cell? ⟨g, 4, none⟩ = some (.int .i64 s.fl) := ⟨h.cell 2, h.cell 3, h.cell 4⟩
theorem Blk.free3 {w : World} {g : Nat} {s : SG} (h : Blk w g 67 s.cells) : w.frozen? ⟨g, 2, none⟩ = false ∧ w.frozen? ⟨g, 3, none⟩ = false ∧ w.frozen? ⟨g, 4, none⟩ = false := ⟨h.free 2, h.free 3, h.free 4⟩
theorem seg_set {w : World} {g : Nat} {s : SG} (h : Blk w g 67 s.cells) (v u : Int) :
    Blk (((w.setCell ⟨g, 2, none⟩ (.int .u32 0)).setCell ⟨g, 3, none⟩ (.int .u32 v)).setCell ⟨g, 4, none⟩ (.int .i64 u)) g 67 (SG.cells { s with sq := 0, ak := v, fl := u }) := by
  have := ((h.set 2 (.int .u32 0)).set 3 (.int .u32 v)).set 4 (.int .i64 u)
  simpa using this
set_option maxHeartbeats 1600000 in
theorem treset (s : SG) (n c : Nat) (A : Option Addr) (hd : s.da = .slice A n c) (hn : n ≤ 140737488355328) (w : World) :
    Calls Try.prog 47 #[s.v] w (RsEnd w s n) := by
  have a4 := and4 s.fl
  have a16 := and16 s.fl
  have Hd := Lib.hid hd
  clear hd
  by_cases h4 : s.fl / 4 % 2 = 1
  · rw [h4] at a4
    clear a16
    go_enter Try.func47, Try.ntmps47
    go_upto_region 1 with (fail)
    refine box3 (s := s) (motive := fun X => Code.wp Try.prog _ _ _ X) ?_
    intro X hB hX hs hz
    have hc := hs.cell 4
    simp only [List.getElem?_toArray, List.getElem?_cons_succ, List.getElem?_cons_zero] at hc
    go_wp2_with (refine wpList_storeB rfl 67 (.tmp 2) (.tmp 9) rfl rfl hz SG.zero.cells rfl rfl SG.info rfl (SG.one (s := SG.zero) rfl rfl) ?_)
    (try simp only [Exit.inBlock, Exit.then])
    have hz2 := (heap_setRow (cells := SG.zero.cells) hz).1
    refine bodyPost_ret (by exact ret_seg rfl _ _ rfl hz2 rfl) (by rfl) ?_
    exact ⟨by simp [hasB, h4], below_setRow hB hz (by omega)⟩
  · have h4' : s.fl / 4 % 2 = 0 := by omega
    rw [h4'] at a4
    by_cases h16 : s.fl / 16 % 2 = 1
    · rw [h16] at a16
      go_enter Try.func47, Try.ntmps47
      go_upto_region 1 with (fail)
      refine box3 (s := s) (motive := fun X => Code.wp Try.prog _ _ _ X) ?_
      intro X hB hX hs hz
      have hc := hs.cell 4
      have hc0 := hs.cell 0
      have hc1 := hs.cell 1
      have hc3 := hs.cell 3
      simp only [List.getElem?_toArray, List.getElem?_cons_succ, List.getElem?_cons_zero] at hc hc0 hc1 hc3
      go_upto_region 4 with (fail)
      refine box1 (s := ⟨s.too, s.fr, s.ak, 0, 4, 0, 0, false, noS, noS⟩) (motive := fun X => Code.wp Try.prog _ _ _ X) ?_
      intro Y hBY hY hr
      have hB2 := below_step hB hB.size hBY
      have hs2 := hs.mono hBY
      have hz2 := hz.mono hBY
      clear hc hc0 hc1 hc3 hs hz
      have hc := hs2.cell 4
      simp only [List.getElem?_toArray, List.getElem?_cons_succ, List.getElem?_cons_zero] at hc
      go_wp2_with (first | ((with_reducible refine at_slot 30 ?_); refine wpList_loadB rfl 67 (.tmp 4) rfl hr rfl Try.underlying67 rfl SG.info ?_) | (refine wpList_storeB rfl 67 (.tmp 2) (.tmp 30) rfl rfl hz2 (SG.cells ⟨s.too, s.fr, s.ak, 0, 4, 0, 0, false, noS, noS⟩) rfl rfl SG.info rfl (SG.one (s := ⟨s.too, s.fr, s.ak, 0, 4, 0, 0, false, noS, noS⟩) rfl rfl) ?_))
      (try simp only [Exit.inBlock, Exit.then])
      have hz3 := (heap_setRow (cells := SG.cells ⟨s.too, s.fr, s.ak, 0, 4, 0, 0, false, noS, noS⟩) hz2).1
      refine bodyPost_ret (by exact ret_seg rfl _ _ rfl hz3 rfl) (by rfl) ?_
      refine ⟨?_, below_setRow hB2 hz2 (by omega)⟩
      simp [hasB, h4', h16, rstS]
    · rw [show s.fl / 16 % 2 = 0 by omega] at a16
      go_enter Try.func47, Try.ntmps47
      go_upto_region 1 with (fail)
      refine box3 (s := s) (motive := fun X => Code.wp Try.prog _ _ _ X) ?_
      intro X hB hX hs hz
      have hc := hs.cell 4
      have hc0 := hs.cell 0
      have hc1 := hs.cell 1
      have hc3 := hs.cell 3
      simp only [List.getElem?_toArray, List.getElem?_cons_succ, List.getElem?_cons_zero] at hc hc0 hc1 hc3
      go_upto_region 4 with (fail)
      refine box1 (s := ⟨s.too, s.fr, s.ak, 0, 4, 0, 0, false, noS, noS⟩) (motive := fun X => Code.wp Try.prog _ _ _ X) ?_
      intro Y hBY hY hr
      have hB2 := below_step hB hB.size hBY
      have hs2 := hs.mono hBY
      have hz2 := hz.mono hBY
      clear hc hc0 hc1 hc3 hs hz
      have hc := hs2.cell 4
      simp only [List.getElem?_toArray, List.getElem?_cons_succ, List.getElem?_cons_zero] at hc
      go_upto_region 5 with (fail)
      obtain ⟨c0, c1, c2, c3, c4, c5, c6, c7, c8, c9⟩ := hs2.sg
      obtain ⟨r0, r1, r2⟩ := hr.out3
      obtain ⟨f0, f1, f2⟩ := hr.free3
      go_region_with (go_at_call 40; refine (tsize s n c A Hd.out hn _).mono ?_; rintro e w1 ⟨rfl, hb1⟩; obtain ⟨d0, d1, d2, d3, d4, d5, d6, d7, d8, d9⟩ := (hs2.drw.mono hb1).sg; obtain ⟨r0, r1, r2⟩ := (hr.drw.mono hb1).out3; obtain ⟨f0, f1, f2⟩ := (hr.drw.mono hb1).free3)
      all_goals
        have hBw := below_step hB2 hB2.size ((Below.refl Y.heap.size Y).drew.trans hb1)
        have hz3 := hz2.drw.mono hb1
        have hr3 := hr.drw.mono hb1
        have hS := seg_set hr3 (IntKind.u32.wrap (s.sq + IntKind.u32.wrap (sizeN s.fl n))) 20
        have hZ := ((hz3.far (p := ⟨X.heap.size, 2, none⟩) (by show w.heap.size + 1 ≠ X.heap.size; omega) (.int .u32 0)).far (p := ⟨X.heap.size, 3, none⟩) (by show w.heap.size + 1 ≠ X.heap.size; omega) (.int .u32 (IntKind.u32.wrap (s.sq + IntKind.u32.wrap (sizeN s.fl n))))).far (p := ⟨X.heap.size, 4, none⟩) (by show w.heap.size + 1 ≠ X.heap.size; omega) (.int .i64 20)
        have hBz := ((hBw.setCell (p := ⟨X.heap.size, 2, none⟩) hB.size (.int .u32 0)).setCell (p := ⟨X.heap.size, 3, none⟩) hB.size (.int .u32 (IntKind.u32.wrap (s.sq + IntKind.u32.wrap (sizeN s.fl n))))).setCell (p := ⟨X.heap.size, 4, none⟩) hB.size (.int .i64 20)
        clear hz2 hr hz3 hr3 hBw c0 c1 c2 c3 c4 c5 c6 c7 c8 c9 d0 d1 d2 d3 d4 d5 d6 d7 d8 d9 r0 r1 r2 f0 f1 f2 hb1
        generalize World.setCell (World.setCell (World.setCell w1 _ _) _ _) _ _ = Z at *
        have hV : IntKind.u32.wrap (s.sq + IntKind.u32.wrap (sizeN s.fl n)) = (s.sq + sizeN s.fl n) % 4294967296 := by simp [IntKind.wrap_u32]
        rw [hV] at hS
        simp only [hV]
        clear hV
        go_wp2_with (first | ((with_reducible refine at_slot 30 ?_); refine wpList_loadB rfl 67 (.tmp 4) rfl hS rfl Try.underlying67 rfl SG.info ?_) | (refine wpList_storeB rfl 67 (.tmp 2) (.tmp 30) rfl rfl hZ (SG.cells ⟨s.too, s.fr, 0, (s.sq + sizeN s.fl n) % 4294967296, 20, 0, 0, false, noS, noS⟩) rfl rfl SG.info rfl (SG.one (s := ⟨s.too, s.fr, 0, (s.sq + sizeN s.fl n) % 4294967296, 20, 0, 0, false, noS, noS⟩) rfl rfl) ?_))
        (try simp only [Exit.inBlock, Exit.then])
        have hz4 := (heap_setRow (cells := SG.cells ⟨s.too, s.fr, 0, (s.sq + sizeN s.fl n) % 4294967296, 20, 0, 0, false, noS, noS⟩) hZ).1
        refine bodyPost_ret (by exact ret_seg rfl _ _ rfl hz4 rfl) (by rfl) ?_
        refine ⟨?_, below_setRow hBz hZ (by omega)⟩
        have h16' : s.fl / 16 % 2 = 0 := by omega
        simp [hasB, h4', h16', rstS]
end Go.Proofs.Ytbhdojpgjmbogaa
