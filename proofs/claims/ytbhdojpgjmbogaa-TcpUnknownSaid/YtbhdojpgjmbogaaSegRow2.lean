/- Openers for the rows of layer 14: a segment with its spans and its bytes. -/
import Derived.Test.YtbhdojpgjmbogaaSegRow
import Derived.Test.YtbhdojpgjmbogaaRowD
import Derived.Test.YtbhdojpgjmbogaaTOpt
namespace Go.Proofs.Ytbhdojpgjmbogaa
open Go.ChangeShapes Go.WideShapes Go.ChangeAt Go.RowKit Go.Deep Go.Maps
set_option maxRecDepth 100000
theorem Try.cells_span : Try.prog.cellsOf 117 = 2 := by kernel_rfl
theorem Try.cells_sspan : Try.prog.cellsOf 65 = 1 := by kernel_rfl
theorem Try.cells_u32 : Try.prog.cellsOf 64 = 1 := by kernel_rfl
theorem Try.span_fields : ∃ f0 f1 : Field, Try.prog.underlying 117 = some (.struct #[f0, f1]) ∧ f0.type = 64 ∧ f1.type = 64 ∧ f0.offset = 0 ∧ f1.offset = 1 := ⟨_, _, Try.underlying117, rfl, rfl, rfl, rfl⟩
theorem u32_of_wf {k : Int} (h : (Lit.int .u32 k).wf = true) : U32 k := by
  simp [Lit.wf, IntKind.min, IntKind.max, IntKind.signed, IntKind.bits] at h
  unfold U32
  omega
section
variable {H : Type} {enc : TypeId × Value → H}
/-- A list of spans that came in. -/
theorem open_spans {w : World} {fuel : Nat} {v : Value} {x : DataW H × List MemPlace} (h : DataW.trod enc Try.prog w 0 (fun _ => true) true fuel 65 [v] = some x) :
    ∃ E : List (Int × Int), RdS w v E ∧ SpansU E := by
  rcases open_slice Try.underlying65 h with h0 | ⟨a, len, cap, m, n, D, Pl, hcs, hb, hl, hm, hmm, hxe, hx⟩
  · simp at h0
    obtain ⟨rfl, _⟩ := h0
    exact ⟨[], RdS.nil _, fun x hx => by simp at hx⟩
  · simp at hcs
    subst hcs
    have hlm : len ≤ m := by rw [hmm]; split <;> omega
    obtain ⟨f0, f1, hu, t0, t1, o0, o1⟩ := Try.span_fields
    have each : ∀ i, i < len → ∃ q : Int × Int, w.cell? (a.add (i * 2)) = some (.int .u32 q.1) ∧ w.cell? (a.add (i * 2 + 1)) = some (.int .u32 q.2) ∧ U32 q.1 ∧ U32 q.2 := by
      intro i hi
      obtain ⟨cs', h1, h2⟩ := hx i (by omega)
      rw [Try.cells_span] at h1
      obtain ⟨_, hlen, hcell⟩ := World.cells?_some h1
      obtain ⟨xs, k, _, _, _, hxl, hf⟩ := DataW.trod_struct hu h2
      match xs, hxl, cs', hlen with
      | [y0, y1], _, [v0, v1], _ =>
        have g0 := hf 0 f0 rfl
        have g1 := hf 1 f1 rfl
        rw [t0, o0, Try.cells_u32] at g0
        rw [t1, o1, Try.cells_u32] at g1
        simp at g0 g1
        have e0 := hcell 0 (by omega)
        have e1 := hcell 1 (by omega)
        rw [add_add] at e0 e1
        obtain ⟨k0, r0, _, w0⟩ := DataW.trod_int Try.underlying64 g0
        obtain ⟨k1, r1, _, w1⟩ := DataW.trod_int Try.underlying64 g1
        injection r0 with r0
        injection r1 with r1
        subst r0 r1
        exact ⟨⟨k0, k1⟩, by simpa using e0, by simpa using e1, u32_of_wf w0, u32_of_wf w1⟩
    obtain ⟨q, hq⟩ := choose_lt each
    refine ⟨(List.range len).map q, ⟨some a, cap, by simp, by simpa using hl, hm, ?_⟩, fun x hx => ?_⟩
    · by_cases h0 : len = 0
      · exact .inl (by simp [h0])
      · obtain ⟨ab, ao, spot⟩ := a
        have hspot : spot = none := by simpa [Addr.add] using World.cell?_spot (hq 0 (by omega)).1
        subst hspot
        have h0' := (hq 0 (by omega)).1
        rw [Addr.add_lit] at h0'
        refine .inr ⟨ab, ao, rfl, cell_lt h0', fun j u hu => ?_⟩
        have hj2 : j / 2 < len := by
          have := (List.getElem?_eq_some_iff.1 hu).1
          rw [scells_length] at this
          simp at this
          omega
        obtain ⟨p0, p1⟩ := scells_at ((List.range len).map q) (j / 2) (by simpa using hj2)
        obtain ⟨c0, c1, _, _⟩ := hq (j / 2) hj2
        rw [Addr.add_lit] at c0 c1
        have hj : j = j / 2 * 2 ∨ j = j / 2 * 2 + 1 := by omega
        simp only [List.getElem_map, List.getElem_range] at p0 p1
        rcases hj with hj | hj
        · rw [hj] at hu ⊢
          rw [p0] at hu
          rw [c0, ← hu]
        · rw [hj] at hu ⊢
          rw [p1] at hu
          rw [c1, ← hu]
    · obtain ⟨i, hi, rfl⟩ := List.mem_map.1 hx
      obtain ⟨_, _, u0, u1⟩ := hq i (List.mem_range.1 hi)
      exact ⟨u0, u1⟩
theorem Try.seg_fieldsS : ∃ f0 f1 f2 f3 f4 f5 f6 f7 f8 f9 : Field, Try.prog.underlying 67 = some (.struct #[f0, f1, f2, f3, f4, f5, f6, f7, f8, f9]) ∧ (f0.type = 3 ∧ f0.offset = 0) ∧ (f1.type = 3 ∧ f1.offset = 1) ∧ (f8.type = 65 ∧ f8.offset = 8) ∧ (f9.type = 24 ∧ f9.offset = 9) :=
  ⟨_, _, _, _, _, _, _, _, _, _, Try.underlying67, ⟨rfl, rfl⟩, ⟨rfl, rfl⟩, ⟨rfl, rfl⟩, ⟨rfl, rfl⟩⟩
/-- A segment that came in, with its spans and its bytes. -/
theorem open_segS {W : World} {v : Value} {d : DataW H} {p : List MemPlace} {base : Nat} (hval : Value.okWide Try.prog W .any base 67 v) (h : DataW.Trod enc Try.prog W 0 (fun _ => true) true 67 v d p)
    {ts : List TypeId} {ds : List (DataW H)} {j : Nat} (ht : ts[j]? = some 67) (hd : ds[j]? = some d) (hsz : (DataW.weightsEach Try.prog ts ds).all (· ≤ reachBytes) = true) :
    ∃ (s : SG) (E : List (Int × Int)) (b : List UInt8), v = s.v ∧ U32 s.sq ∧ U32 s.ak ∧ RdS W s.gt E ∧ SpansU E ∧ Rd W s.da b ∧ b.length ≤ 140737488351232 ∧ InI s.fr ∧ InI s.too := by
  obtain ⟨s, A, n, c, rfl, hq, ha, hda, hn⟩ := open_seg hval h ht hd hsz
  obtain ⟨fuel, hf⟩ := h
  obtain ⟨f0, f1, f2, f3, f4, f5, f6, f7, f8, f9, hu, ⟨t0, o0⟩, ⟨t1, o1⟩, ⟨t8, o8⟩, ⟨t9, o9⟩⟩ := Try.seg_fieldsS
  obtain ⟨xs, m, _, _, _, hxl, hfld⟩ := DataW.trod_struct hu hf
  have g0 := hfld 0 f0 rfl
  have g1 := hfld 1 f1 rfl
  have g8 := hfld 8 f8 rfl
  have g9 := hfld 9 f9 rfl
  rw [t0, o0, Try.cells_int] at g0
  rw [t1, o1, Try.cells_int] at g1
  rw [t8, o8, Try.cells_sspan] at g8
  rw [t9, o9, Try.cells_sbytes] at g9
  have hx : ∀ i, i < 10 → ∃ y, xs[i]? = some y := fun i hi => ⟨xs[i]'(by rw [hxl]; exact hi), List.getElem?_eq_getElem _⟩
  obtain ⟨y0, hy0⟩ := hx 0 (by omega)
  obtain ⟨y1, hy1⟩ := hx 1 (by omega)
  obtain ⟨y8, hy8⟩ := hx 8 (by omega)
  obtain ⟨y9, hy9⟩ := hx 9 (by omega)
  rw [hy0] at g0
  rw [hy1] at g1
  rw [hy8] at g8
  rw [hy9] at g9
  have e0 : (s.v.cells.toList.drop 0).take 1 = [.int .i64 s.fr] := rfl
  have e1 : (s.v.cells.toList.drop 1).take 1 = [.int .i64 s.too] := rfl
  have e8 : (s.v.cells.toList.drop 8).take 1 = [s.gt] := rfl
  have e9 : (s.v.cells.toList.drop 9).take 1 = [s.da] := rfl
  rw [e0] at g0
  rw [e1] at g1
  rw [e8] at g8
  rw [e9] at g9
  obtain ⟨k0, r0, _, w0⟩ := DataW.trod_int Try.underlying3 g0
  obtain ⟨k1, r1, _, w1⟩ := DataW.trod_int Try.underlying3 g1
  simp at r0 r1
  obtain ⟨E, hE, hU⟩ := open_spans g8
  obtain ⟨b, hb, _⟩ := open_rd g9
  have hbn : b.length = n := by
    obtain ⟨A', c', e, _, _⟩ := hb.form
    rw [hda] at e
    injection e with _ e _
    exact e.symm
  exact ⟨s, E, b, rfl, hq, ha, hE, hU, hb, by omega, by rw [r0]; exact ini_of_wf w0, by rw [r1]; exact ini_of_wf w1⟩
end
end Go.Proofs.Ytbhdojpgjmbogaa
