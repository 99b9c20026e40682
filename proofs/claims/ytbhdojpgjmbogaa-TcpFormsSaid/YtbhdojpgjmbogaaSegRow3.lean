/- Openers for the rows of layer 14: how many spans a segment that came in may hold. -/
import Derived.Test.YtbhdojpgjmbogaaSegRow2
namespace Go.Proofs.Ytbhdojpgjmbogaa
open Go.ChangeShapes Go.WideShapes Go.ChangeAt Go.RowKit Go.Deep Go.Maps
set_option maxRecDepth 100000
theorem Try.bytes_span : Try.prog.bytesOf 117 = 8 := by kernel_rfl
section
variable {H : Type} {enc : TypeId × Value → H}
theorem spans_len {w : World} {fuel : Nat} {v : Value} {x : DataW H × List MemPlace} {E : List (Int × Int)} (h : DataW.trod enc Try.prog w 0 (fun _ => true) true fuel 65 [v] = some x) (hE : RdS w v E)
    (hin : ∀ k ∈ x.1.weights Try.prog 65, k ≤ reachBytes) : E.length * 8 ≤ 140737488351232 := by
  obtain ⟨A, c, rfl, _, _⟩ := hE.form
  rcases open_slice Try.underlying65 h with h0 | ⟨a, len, cap, m, n, D, Pl, hcs, hb, hl, hm, hmm, hxe, hx⟩
  · simp at h0
    omega
  · simp at hcs
    obtain ⟨_, rfl, rfl⟩ := hcs
    subst hxe
    simp only [DataW.weights, Try.underlying65] at hin
    have h0 := hin _ List.mem_cons_self
    rw [Try.bytes_span] at h0
    simp only [List.length_map, List.length_range, reachBytes] at h0
    omega
/-- A segment that came in, with its spans and its bytes: all within the reach. -/
theorem open_segT {W : World} {v : Value} {d : DataW H} {p : List MemPlace} {base : Nat} (hval : Value.okWide Try.prog W .any base 67 v) (h : DataW.Trod enc Try.prog W 0 (fun _ => true) true 67 v d p)
    {ts : List TypeId} {ds : List (DataW H)} {j : Nat} (ht : ts[j]? = some 67) (hd : ds[j]? = some d) (hsz : (DataW.weightsEach Try.prog ts ds).all (· ≤ reachBytes) = true) :
    ∃ (s : SG) (E : List (Int × Int)) (b : List UInt8), v = s.v ∧ U32 s.sq ∧ U32 s.ak ∧ RdS W s.gt E ∧ SpansU E ∧ Rd W s.da b ∧ b.length ≤ 140737488351232 ∧ InI s.fr ∧ InI s.too ∧ E.length * 8 ≤ 140737488351232 := by
  obtain ⟨s, E, b, rfl, hq, ha, hE, hU, hb, hbl, hif, hit⟩ := open_segS hval h ht hd hsz
  refine ⟨s, E, b, rfl, hq, ha, hE, hU, hb, hbl, hif, hit, ?_⟩
  obtain ⟨fuel, hf⟩ := h
  obtain ⟨f0, f1, f2, f3, f4, f5, f6, f7, f8, f9, hu, ⟨t0, o0⟩, ⟨t1, o1⟩, ⟨t8, o8⟩, ⟨t9, o9⟩⟩ := Try.seg_fieldsS
  obtain ⟨xs, m, _, hx, _, hxl, hfld⟩ := DataW.trod_struct hu hf
  have g8 := hfld 8 f8 rfl
  rw [t8, o8, Try.cells_sspan] at g8
  obtain ⟨y8, hy8⟩ : ∃ y, xs[8]? = some y := ⟨xs[8]'(by rw [hxl]; show 8 < 10; omega), List.getElem?_eq_getElem _⟩
  rw [hy8] at g8
  have e8 : (s.v.cells.toList.drop 8).take 1 = [s.gt] := rfl
  rw [e8] at g8
  simp only [Prod.mk.injEq] at hx
  obtain ⟨rfl, _⟩ := hx
  refine spans_len g8 hE fun k hk => ?_
  have h1 := DataW.weights_mem_each (P := Try.prog) (ts := (#[f0, f1, f2, f3, f4, f5, f6, f7, f8, f9] : Array Field).toList.map (·.type)) (ds := xs.map (·.1)) (j := 8) (t := 65) (d := y8.1) (by simp [t8]) (by rw [List.getElem?_map, hy8]; rfl) k hk
  have h2 := DataW.weights_mem_each (P := Try.prog) ht hd k (by simp only [DataW.weights, hu]; exact h1)
  simpa using List.all_eq_true.1 hsz k h2
end
end Go.Proofs.Ytbhdojpgjmbogaa
