/- Openers for the rows of layer 14: a segment. -/
import Derived.Test.YtbhdojpgjmbogaaRow14
namespace Go.Proofs.Ytbhdojpgjmbogaa
open Go.ChangeShapes Go.WideShapes Go.ChangeAt Go.RowKit
set_option maxRecDepth 100000
theorem Try.cellTypes_seg : Try.prog.cellTypes Try.prog.depth 67 = some [3, 3, 64, 64, 3, 3, 3, 4, 65, 24] := by kernel_rfl
theorem Try.cells_seg : Try.prog.cellsOf 67 = 10 := by kernel_rfl
section
variable {P : Program} {W : World} {r : Reach} {base : Nat} {t : TypeId} {v : Value}
theorem cell_int (ht : P.underlying t = some (.int .i64)) (h : Cell.okWide P W r base t v) : ∃ n : Int, v = .int .i64 n := by
  cases v <;> simp [Cell.okWide, Cell.ok, ht] at h
  obtain ⟨rfl, _⟩ := h
  exact ⟨_, rfl⟩
theorem cell_u32 (ht : P.underlying t = some (.int .u32)) (h : Cell.okWide P W r base t v) : ∃ n : Int, v = .int .u32 n ∧ U32 n := by
  cases v <;> simp [Cell.okWide, Cell.ok, ht] at h
  obtain ⟨rfl, h'⟩ := h
  rename_i n
  simp [IntKind.has, IntKind.min, IntKind.max, IntKind.signed, IntKind.bits] at h'
  exact ⟨n, rfl, by unfold U32; omega⟩
theorem cell_bool (ht : P.underlying t = some .bool) (h : Cell.okWide P W r base t v) : ∃ b, v = .bool b := by
  cases v <;> simp_all [Cell.okWide, Cell.ok]
theorem cell_slice {e : TypeId} (ht : P.underlying t = some (.slice e)) (h : Cell.okWide P W r base t v) : ∃ a n c, v = .slice a n c := by
  cases v <;> simp_all [Cell.okWide, Cell.ok]
end
theorem Try.seg_fields : ∃ f0 f1 f2 f3 f4 f5 f6 f7 f8 f9 : Field, Try.prog.underlying 67 = some (.struct #[f0, f1, f2, f3, f4, f5, f6, f7, f8, f9]) ∧ f9.type = 24 ∧ f9.offset = 9 := ⟨_, _, _, _, _, _, _, _, _, _, Try.underlying67, rfl, rfl⟩
theorem Try.cells_bytes : Try.prog.cellsOf 24 = 1 := by kernel_rfl
/-- A segment that came in. -/
theorem open_seg {H : Type} {enc : TypeId × Value → H} {W : World} {v : Value} {d : DataW H} {p : List MemPlace} {base : Nat} (hval : Value.okWide Try.prog W .any base 67 v) (h : DataW.Trod enc Try.prog W 0 (fun _ => true) true 67 v d p)
    {ts : List TypeId} {ds : List (DataW H)} {j : Nat} (ht : ts[j]? = some 67) (hd : ds[j]? = some d) (hsz : (DataW.weightsEach Try.prog ts ds).all (· ≤ reachBytes) = true) :
    ∃ (s : SG) (A : Option Addr) (n c : Nat), v = s.v ∧ U32 s.sq ∧ U32 s.ak ∧ s.da = .slice A n c ∧ n ≤ 140737488351232 := by
  have hval' : ∃ cs, v = .agg cs ∧ cs.size = Try.prog.cellsOf 67 ∧ Row.okWide Try.prog W .any base 67 cs := by simpa [Value.okWide, Try.underlying67] using hval
  obtain ⟨cs, rfl, hs, hrow⟩ := hval'
  rw [Try.cells_seg] at hs
  obtain ⟨tys, e1, _, h3⟩ := hrow
  obtain rfl := Option.some.inj (Try.cellTypes_seg.symm.trans e1)
  have key : ∀ i (hi : i < 10), ∃ u, [3, 3, 64, 64, 3, 3, 3, 4, 65, 24][i]? = some u ∧ Cell.okWide Try.prog W .any base u (cs[i]'(by omega)) := fun i hi => by
    obtain ⟨u, hu, hk⟩ := h3 i _ (Array.getElem?_eq_getElem (by omega))
    refine ⟨u, ?_, hk⟩
    have : i % 10 = i := Nat.mod_eq_of_lt hi
    rw [← hu]
    show _ = [3, 3, 64, 64, 3, 3, 3, 4, 65, 24][i % 10]?
    rw [this]
  obtain ⟨u0, w0, k0⟩ := key 0 (by omega)
  obtain ⟨u1, w1, k1⟩ := key 1 (by omega)
  obtain ⟨u2, w2, k2⟩ := key 2 (by omega)
  obtain ⟨u3, w3, k3⟩ := key 3 (by omega)
  obtain ⟨u4, w4, k4⟩ := key 4 (by omega)
  obtain ⟨u5, w5, k5⟩ := key 5 (by omega)
  obtain ⟨u6, w6, k6⟩ := key 6 (by omega)
  obtain ⟨u7, w7, k7⟩ := key 7 (by omega)
  obtain ⟨u8, w8, k8⟩ := key 8 (by omega)
  obtain ⟨u9, w9, k9⟩ := key 9 (by omega)
  obtain rfl := Option.some.inj w0
  obtain rfl := Option.some.inj w1
  obtain rfl := Option.some.inj w2
  obtain rfl := Option.some.inj w3
  obtain rfl := Option.some.inj w4
  obtain rfl := Option.some.inj w5
  obtain rfl := Option.some.inj w6
  obtain rfl := Option.some.inj w7
  obtain rfl := Option.some.inj w8
  obtain rfl := Option.some.inj w9
  obtain ⟨x0, e0⟩ := cell_int Try.underlying3 k0
  obtain ⟨x1, e1⟩ := cell_int Try.underlying3 k1
  obtain ⟨x2, e2, q2⟩ := cell_u32 Try.underlying64 k2
  obtain ⟨x3, e3, q3⟩ := cell_u32 Try.underlying64 k3
  obtain ⟨x4, e4⟩ := cell_int Try.underlying3 k4
  obtain ⟨x5, e5⟩ := cell_int Try.underlying3 k5
  obtain ⟨x6, e6⟩ := cell_int Try.underlying3 k6
  obtain ⟨x7, e7⟩ := cell_bool Try.underlying4 k7
  obtain ⟨a9, n9, c9, e9⟩ := cell_slice Try.underlying24 k9
  have hcs : cs = #[.int .i64 x0, .int .i64 x1, .int .u32 x2, .int .u32 x3, .int .i64 x4, .int .i64 x5, .int .i64 x6, .bool x7, cs[8]'(by omega), .slice a9 n9 c9] := by
    refine Array.ext (by simpa using hs) fun i hi _ => ?_
    match i, (show i < 10 by omega) with
    | 0, _ => exact e0
    | 1, _ => exact e1
    | 2, _ => exact e2
    | 3, _ => exact e3
    | 4, _ => exact e4
    | 5, _ => exact e5
    | 6, _ => exact e6
    | 7, _ => exact e7
    | 8, _ => rfl
    | 9, _ => exact e9
  refine ⟨⟨x0, x1, x2, x3, x4, x5, x6, x7, cs[8]'(by omega), .slice a9 n9 c9⟩, a9, n9, c9, by rw [SG.v]; exact congrArg Value.agg hcs, q2, q3, rfl, ?_⟩
  obtain ⟨fuel, hf⟩ := h
  obtain ⟨f0, f1, f2, f3, f4, f5, f6, f7, f8, f9, hu, t9, o9⟩ := Try.seg_fields
  obtain ⟨xs, m, _, hx, _, hxl, hfld⟩ := DataW.trod_struct hu hf
  have g9 := hfld 9 f9 rfl
  rw [t9, o9, Try.cells_bytes] at g9
  have hcell : ((Value.agg cs).cells.toList.drop 9).take 1 = [.slice a9 n9 c9] := by
    show (cs.toList.drop 9).take 1 = _
    rw [hcs]
    rfl
  rw [hcell] at g9
  obtain ⟨y, hy⟩ : ∃ y, xs[9]? = some y := ⟨xs[9]'(by rw [hxl]; show 9 < 10; omega), List.getElem?_eq_getElem _⟩
  rw [hy] at g9
  simp only [Prod.mk.injEq] at hx
  obtain ⟨rfl, _⟩ := hx
  have hin : ∀ k ∈ y.1.weights Try.prog 24, k ≤ reachBytes := fun k hk => by
    have h1 := DataW.weights_mem_each (P := Try.prog) (ts := (#[f0, f1, f2, f3, f4, f5, f6, f7, f8, f9] : Array Field).toList.map (·.type)) (ds := xs.map (·.1)) (j := 9) (t := 24) (d := y.1) (by simp [t9]) (by rw [List.getElem?_map, hy]; rfl) k hk
    have h2 := DataW.weights_mem_each (P := Try.prog) ht hd k (by simp only [DataW.weights, hu]; exact h1)
    simpa using List.all_eq_true.1 hsz k h2
  rcases open_ints Try.underlying24 Try.underlying5 Try.cells_u8 g9 with ⟨hc, hx⟩ | ⟨a, len', cap', zs, hc, _, hl, hm, hz, hx, hcell', hwz⟩
  · simp at hc
    omega
  · simp at hc
    obtain ⟨rfl, rfl, rfl⟩ := hc
    simp only [if_true] at hz
    subst hx
    simp only [DataW.weights, Try.underlying24] at hin
    have h0 := hin _ List.mem_cons_self
    rw [Try.bytes_u8] at h0
    simp only [lits, List.length_map, List.length_take, List.length_drop, reachBytes] at h0
    omega
end Go.Proofs.Ytbhdojpgjmbogaa
