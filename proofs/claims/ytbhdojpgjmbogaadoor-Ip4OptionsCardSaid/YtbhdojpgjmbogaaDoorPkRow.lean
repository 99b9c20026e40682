/- An opener for rows over a packet. -/
import Derived.Test.YtbhdojpgjmbogaaDoorRow
import Derived.Test.YtbhdojpgjmbogaaDoorIEnc2
namespace Go.Proofs.YtbhdojpgjmbogaaDoor
open Go.ChangeShapes Go.WideShapes Go.ChangeAt Go.RowKit
set_option maxRecDepth 100000
theorem Tryd.cellTypes_pk : Tryd.prog.cellTypes Tryd.prog.depth 26 = some [5, 5, 5, 5, 5, 5, 5, 5, 3, 3, 3, 3, 4, 4, 3, 24] := by kernel_rfl
theorem Tryd.cells_pk : Tryd.prog.cellsOf 26 = 16 := by kernel_rfl
theorem Tryd.cells_bytes9 : Tryd.prog.cellsOf 24 = 1 := by kernel_rfl
theorem Tryd.pk_fields : ∃ f0 f1 f2 f3 f4 f5 f6 f7 f8 f9 : Field, Tryd.prog.underlying 26 = some (.struct #[f0, f1, f2, f3, f4, f5, f6, f7, f8, f9]) ∧ f9.type = 24 ∧ f9.offset = 15 := ⟨_, _, _, _, _, _, _, _, _, _, Tryd.underlying26, rfl, rfl⟩
section
variable {P : Program} {W : World} {r : Reach} {base : Nat} {t : TypeId} {v : Value}
theorem cell_i64 (ht : P.underlying t = some (.int .i64)) (h : Cell.okWide P W r base t v) : ∃ n : Int, v = .int .i64 n ∧ InI n := by
  cases v <;> simp [Cell.okWide, Cell.ok, ht] at h
  obtain ⟨rfl, h'⟩ := h
  rename_i n
  simp [IntKind.has, IntKind.min, IntKind.max, IntKind.signed, IntKind.bits] at h'
  exact ⟨n, rfl, by unfold InI; omega⟩
theorem cell_bool9 (ht : P.underlying t = some .bool) (h : Cell.okWide P W r base t v) : ∃ b, v = .bool b := by
  cases v <;> simp_all [Cell.okWide, Cell.ok]
theorem cell_slice9 {e : TypeId} (ht : P.underlying t = some (.slice e)) (h : Cell.okWide P W r base t v) : ∃ a n c, v = .slice a n c := by
  cases v <;> simp_all [Cell.okWide, Cell.ok]
end
/-- A packet that came in. -/
theorem open_pk {H : Type} {enc : TypeId × Value → H} {W : World} {v : Value} {d : DataW H} {p : List MemPlace} {base : Nat} (hval : Value.okWide Tryd.prog W .any base 26 v) (h : DataW.Trod enc Tryd.prog W 0 (fun _ => true) true 26 v d p)
    {ts : List TypeId} {ds : List (DataW H)} {j : Nat} (ht : ts[j]? = some 26) (hd : ds[j]? = some d) (hsz : (DataW.weightsEach Tryd.prog ts ds).all (· ≤ reachBytes) = true) :
    ∃ (s : PK) (o : List UInt8), v = s.v ∧ InI s.tl ∧ Rd W s.op o ∧ o.length ≤ 140737488351232 := by
  have hval' : ∃ cs, v = .agg cs ∧ cs.size = Tryd.prog.cellsOf 26 ∧ Row.okWide Tryd.prog W .any base 26 cs := by simpa [Value.okWide, Tryd.underlying26] using hval
  obtain ⟨cs, rfl, hs, hrow⟩ := hval'
  rw [Tryd.cells_pk] at hs
  obtain ⟨tys, e1, _, h3⟩ := hrow
  obtain rfl := Option.some.inj (Tryd.cellTypes_pk.symm.trans e1)
  have key : ∀ i (hi : i < 16), ∃ u, [5, 5, 5, 5, 5, 5, 5, 5, 3, 3, 3, 3, 4, 4, 3, 24][i]? = some u ∧ Cell.okWide Tryd.prog W .any base u (cs[i]'(by omega)) := fun i hi => by
    obtain ⟨u, hu, hk⟩ := h3 i _ (Array.getElem?_eq_getElem (by omega))
    refine ⟨u, ?_, hk⟩
    have : i % 16 = i := Nat.mod_eq_of_lt hi
    rw [← hu]
    show _ = [5, 5, 5, 5, 5, 5, 5, 5, 3, 3, 3, 3, 4, 4, 3, 24][i % 16]?
    rw [this]
  have k8 : ∀ i (hi : i < 8), ∃ x : UInt8, cs[i]'(by omega) = .int .u8 x.toNat := fun i hi => by
    obtain ⟨u, hu, hk⟩ := key i (by omega)
    have hm : [5, 5, 5, 5, 5, 5, 5, 5, 3, 3, 3, 3, 4, 4, 3, 24][i]? = some 5 := by
      rcases i with _ | _ | _ | _ | _ | _ | _ | _ | i <;> first | rfl | omega
    obtain rfl := Option.some.inj (hm.symm.trans hu)
    exact okWide_u8 Tryd.underlying5 hk
  obtain ⟨x0, e0⟩ := k8 0 (by omega)
  obtain ⟨x1, e1⟩ := k8 1 (by omega)
  obtain ⟨x2, e2⟩ := k8 2 (by omega)
  obtain ⟨x3, e3⟩ := k8 3 (by omega)
  obtain ⟨x4, e4⟩ := k8 4 (by omega)
  obtain ⟨x5, e5⟩ := k8 5 (by omega)
  obtain ⟨x6, e6⟩ := k8 6 (by omega)
  obtain ⟨x7, e7⟩ := k8 7 (by omega)
  have ki : ∀ i (hi : i < 16), [5, 5, 5, 5, 5, 5, 5, 5, 3, 3, 3, 3, 4, 4, 3, 24][i]? = some 3 → ∃ n : Int, cs[i]'(by omega) = .int .i64 n ∧ InI n := fun i hi hm => by
    obtain ⟨u, hu, hk⟩ := key i hi
    obtain rfl := Option.some.inj (hm.symm.trans hu)
    exact cell_i64 Tryd.underlying3 hk
  have kb : ∀ i (hi : i < 16), [5, 5, 5, 5, 5, 5, 5, 5, 3, 3, 3, 3, 4, 4, 3, 24][i]? = some 4 → ∃ b : Bool, cs[i]'(by omega) = .bool b := fun i hi hm => by
    obtain ⟨u, hu, hk⟩ := key i hi
    obtain rfl := Option.some.inj (hm.symm.trans hu)
    exact cell_bool9 Tryd.underlying4 hk
  obtain ⟨y8, e8, _⟩ := ki 8 (by omega) rfl
  obtain ⟨y9, e9, q9⟩ := ki 9 (by omega) rfl
  obtain ⟨y10, e10, _⟩ := ki 10 (by omega) rfl
  obtain ⟨y11, e11, _⟩ := ki 11 (by omega) rfl
  obtain ⟨y12, e12⟩ := kb 12 (by omega) rfl
  obtain ⟨y13, e13⟩ := kb 13 (by omega) rfl
  obtain ⟨y14, e14, _⟩ := ki 14 (by omega) rfl
  obtain ⟨u15, w15, k15⟩ := key 15 (by omega)
  obtain rfl := Option.some.inj w15
  obtain ⟨a9, n9, c9, e15⟩ := cell_slice9 Tryd.underlying24 k15
  have hcs : cs = #[.int .u8 x0.toNat, .int .u8 x1.toNat, .int .u8 x2.toNat, .int .u8 x3.toNat, .int .u8 x4.toNat, .int .u8 x5.toNat, .int .u8 x6.toNat, .int .u8 x7.toNat, .int .i64 y8, .int .i64 y9, .int .i64 y10, .int .i64 y11, .bool y12, .bool y13, .int .i64 y14, .slice a9 n9 c9] := by
    refine Array.ext (by simpa using hs) fun i hi _ => ?_
    rcases i with _ | _ | _ | _ | _ | _ | _ | _ | _ | _ | _ | _ | _ | _ | _ | _ | i
    · exact e0
    · exact e1
    · exact e2
    · exact e3
    · exact e4
    · exact e5
    · exact e6
    · exact e7
    · exact e8
    · exact e9
    · exact e10
    · exact e11
    · exact e12
    · exact e13
    · exact e14
    · exact e15
    · omega
  obtain ⟨fuel, hf⟩ := h
  obtain ⟨f0, f1, f2, f3, f4, f5, f6, f7, f8, f9, hu, t9, o9⟩ := Tryd.pk_fields
  obtain ⟨xs, m, _, hx, _, hxl, hfld⟩ := DataW.trod_struct hu hf
  have g9 := hfld 9 f9 rfl
  rw [t9, o9, Tryd.cells_bytes9] at g9
  have hcell : ((Value.agg cs).cells.toList.drop 15).take 1 = [.slice a9 n9 c9] := by
    show (cs.toList.drop 15).take 1 = _
    rw [hcs]
    rfl
  rw [hcell] at g9
  obtain ⟨y, hy⟩ : ∃ y, xs[9]? = some y := ⟨xs[9]'(by rw [hxl]; show 9 < 10; omega), List.getElem?_eq_getElem _⟩
  rw [hy] at g9
  simp only [Prod.mk.injEq] at hx
  obtain ⟨rfl, _⟩ := hx
  have hin : (DataW.weightsEach Tryd.prog ((#[f0, f1, f2, f3, f4, f5, f6, f7, f8, f9] : Array Field).toList.map (·.type)) (xs.map (·.1))).all (· ≤ reachBytes) = true := by
    rw [List.all_eq_true]
    intro k hk
    have h2 := DataW.weights_mem_each (P := Tryd.prog) ht hd k (by simp only [DataW.weights, hu]; exact hk)
    exact List.all_eq_true.1 hsz k h2
  obtain ⟨o, ho, hol⟩ := open_bytes (W := W) (v := .slice a9 n9 c9) (d := y.1) (p := y.2) (base := base) (j := 9) (by simpa [Value.okWide, Tryd.underlying24] using e15 ▸ k15) ⟨_, g9⟩ (by simp [t9]) (by rw [List.getElem?_map, hy]; rfl) hin
  exact ⟨⟨⟨x0, x1, x2, x3⟩, ⟨x4, x5, x6, x7⟩, y8, y9, y10, y11, y12, y13, y14, .slice a9 n9 c9⟩, o, congrArg Value.agg hcs, q9, ho, hol⟩
end Go.Proofs.YtbhdojpgjmbogaaDoor
