/- packhorseref09.Same: two heads that are the same. -/
import Derived.Test.YtbhdojpgjmbogaaDoorIEnc2
import Derived.Test.YtbhdojpgjmbogaaDoorIRefE
import Derived.ChangeKeysEq
namespace Go.Proofs.YtbhdojpgjmbogaaDoor
open Go.RowKit Go.Shelf
/-- The cells of the addresses of a packet that is boxed. -/
theorem Blk.pkAd {w : World} {g : Nat} {p : PK} (h : Blk w g 26 p.cells) :
    w.cell? ⟨g, 0, none⟩ = some (.int .u8 p.s.a.toNat) ∧ w.cell? ⟨g, 1, none⟩ = some (.int .u8 p.s.b.toNat) ∧ w.cell? ⟨g, 2, none⟩ = some (.int .u8 p.s.c.toNat) ∧ w.cell? ⟨g, 3, none⟩ = some (.int .u8 p.s.d.toNat) ∧
    w.cell? ⟨g, 4, none⟩ = some (.int .u8 p.d.a.toNat) ∧ w.cell? ⟨g, 5, none⟩ = some (.int .u8 p.d.b.toNat) ∧ w.cell? ⟨g, 6, none⟩ = some (.int .u8 p.d.c.toNat) ∧ w.cell? ⟨g, 7, none⟩ = some (.int .u8 p.d.d.toNat) :=
  ⟨h.cell 0, h.cell 1, h.cell 2, h.cell 3, h.cell 4, h.cell 5, h.cell 6, h.cell 7⟩
theorem ip_same (i : IP) (w : World) : (Op.equalIn 10000 23 (.agg i.cells) (.agg i.cells)).run Tryd.prog w = .ok true w := by
  obtain ⟨ib, hib, hiz, hi1, hi2⟩ := info_parts byte_info
  rw [run_equalIn_array w 9999 _ _ Tryd.underlying23 hib]
  have hc : Tryd.prog.cellsOf 5 = 1 := by kernel_rfl
  have hp : ∀ (k : Nat) (u : Value), i.cells[k]? = some u → (part 5 i.cells k).run Tryd.prog w = .ok u w := fun k u hu => run_part_plain w (by kernel_rfl) hu
  have he : ∀ n : Int, (Op.equalIn 9999 5 (.int .u8 n) (.int .u8 n)).run Tryd.prog w = .ok true w := fun n => by rw [run_equalIn_int w 9998 5 .u8 .u8 n n Tryd.underlying5]; simp
  rw [hc, show List.range 4 = [0, 1, 2, 3] from rfl]
  have hp0 : (part 5 i.cells 0).run Tryd.prog w = .ok (.int .u8 i.a.toNat) w := hp 0 _ rfl
  have hp1 : (part 5 i.cells 1).run Tryd.prog w = .ok (.int .u8 i.b.toNat) w := hp 1 _ rfl
  have hp2 : (part 5 i.cells 2).run Tryd.prog w = .ok (.int .u8 i.c.toNat) w := hp 2 _ rfl
  have hp3 : (part 5 i.cells 3).run Tryd.prog w = .ok (.int .u8 i.d.toNat) w := hp 3 _ rfl
  simp [Op.eqItems, Sem.run_bind, hp0, hp1, hp2, hp3, he]
theorem boxPP {w : World} {p q : PK} {motive : World → Prop}
    (h : ∀ X, Below w.heap.size w X → w.heap.size + 2 = X.heap.size → Blk X w.heap.size 26 p.cells → Blk X (w.heap.size + 1) 26 q.cells → motive X) :
    motive ((w.alloc (.cells p.cells 26)).alloc (.cells q.cells 26)) :=
  h _ (boxes_below _ _ _) (by simp) ((Blk.new w 26 p.cells _ rfl).alloc _) (Blk.new _ 26 q.cells _ (by simp))
set_option maxRecDepth 100000 in
set_option maxHeartbeats 8000000 in
theorem rsame9 (p : PK) (op' : Value) (o : List UInt8) (w : World) (hp : Rd w p.op o) (hq : Rd w op' o) :
    Calls Tryd.prog 14 #[p.v, ({ p with op := op' } : PK).v] w fun e w' => e = .returned (.bool true) ∧ Below w.heap.size w w' := by
  obtain ⟨ps, pd, ppr, ptl, pid, pts, wh, mo, pfo, pop⟩ := p
  dsimp only at hp ⊢
  obtain ⟨A1, c1, rfl, _, _⟩ := hp.form
  obtain ⟨A2, c2, rfl, _, _⟩ := hq.form
  go_enter Tryd.func14, Tryd.ntmps14
  go_upto_region 1 with (fail)
  refine boxPP (p := ⟨ps, pd, ppr, ptl, pid, pts, wh, mo, pfo, .slice A1 o.length c1⟩) (q := ⟨ps, pd, ppr, ptl, pid, pts, wh, mo, pfo, .slice A2 o.length c2⟩) (motive := fun X => Code.wp Tryd.prog _ _ _ X) ?_
  intro X hB hX h1 h2
  have e1 := ip_same ps X
  have e2 := ip_same pd X
  simp only [IP.cells] at e1 e2
  have k1 := run_str (hp.mono hB)
  have k2 := run_str (hq.mono hB)
  obtain ⟨a8, a9, a10, a11, a12, a13, a14, a15⟩ := h1.pk
  obtain ⟨b8, b9, b10, b11, b12, b13, b14, b15⟩ := h2.pk
  obtain ⟨a0, a1, a2, a3, a4, a5, a6, a7⟩ := h1.pkAd
  obtain ⟨b0, b1, b2, b3, b4, b5, b6, b7⟩ := h2.pkAd
  dsimp only at a0 a1 a2 a3 a4 a5 a6 a7 a8 a9 a10 a11 a12 a13 a14 a15 b0 b1 b2 b3 b4 b5 b6 b7 b8 b9 b10 b11 b12 b13 b14 b15
  clear hp hq
  go_wp2
  go_ret
  exact ⟨rfl, hB⟩
end Go.Proofs.YtbhdojpgjmbogaaDoor
