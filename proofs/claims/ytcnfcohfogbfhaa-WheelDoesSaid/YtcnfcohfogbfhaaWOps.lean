/- The wheel's laws: a list of calls as it came in. -/
import Derived.Test.YtcnfcohfogbfhaaWDues
namespace Go.Proofs.Ytcnfcohfogbfhaa
open Go.RowKit Go.Shelf Go.ChangeShapes Go.WideShapes Go.Deep
set_option maxRecDepth 100000
/-- A call. -/
structure Ocl where
  kind : Int
  id : Int
  tk : Int
  near : Bool
deriving Inhabited
@[reducible] def Ocl.cs (o : Ocl) : List Value := [.int .i64 o.kind, .int .i64 o.id, .int .i64 o.tk, .bool o.near]
theorem o_len (x : Ocl) : x.cs.length = 4 := rfl
abbrev RdC := RdE Ocl.cs
theorem Try.cells_bool : Try.prog.cellsOf 4 = 1 := by kernel_rfl
theorem Try.cells_ocl : Try.prog.cellsOf 30 = 4 := by kernel_rfl
theorem Try.bytes_ocl : Try.prog.bytesOf 30 = 32 := by kernel_rfl
section
variable {H : Type} {enc : TypeId × Value → H}
theorem open_calls {W : World} {v : Value} {d : DataW H} {p : List MemPlace} {base : Nat} (hval : Value.okWide Try.prog W .any base 22 v) (h : DataW.Trod enc Try.prog W 0 (fun _ => true) true 22 v d p)
    {ts : List TypeId} {ds : List (DataW H)} {j : Nat} (ht : ts[j]? = some 22) (hd : ds[j]? = some d) (hsz : (DataW.weightsEach Try.prog ts ds).all (· ≤ reachBytes) = true) :
    ∃ l : List Ocl, RdC W v l ∧ l.length ≤ 140737488351232 ∧ ∀ o ∈ l, InI o.kind ∧ InI o.id ∧ InI o.tk := by
  obtain ⟨a1, len, cap, rfl⟩ := okWide_slice Try.underlying22 hval
  obtain ⟨fuel, hf⟩ := h
  rcases open_slice Try.underlying22 hf with ⟨hcs, hx⟩ | ⟨a, len', cap', m, n, D, Pl, hcs, hb, hl, hm, hmm, hx, hel⟩
  · simp [Value.cells] at hcs
    obtain ⟨rfl, rfl, rfl⟩ := hcs
    exact ⟨[], RdE.nil _, Nat.zero_le _, fun o ho => by simp at ho⟩
  · simp [Value.cells] at hcs
    obtain ⟨rfl, rfl, rfl⟩ := hcs
    simp only [if_true] at hmm
    have each : ∀ i, i < len → ∃ q : Ocl, (∀ t u, q.cs[t]? = some u → W.cell? (a.add (i * 4 + t)) = some u) ∧ InI q.kind ∧ InI q.id ∧ InI q.tk := by
      intro i hi
      obtain ⟨cs', h1, h2⟩ := hel i (by omega)
      rw [Try.cells_ocl] at h1
      obtain ⟨_, hlen, hcell⟩ := World.cells?_some h1
      obtain ⟨xs, k, hk, hxy, _, hxl, hf⟩ := DataW.trod_struct Try.underlying30 h2
      match xs, hxl, cs', hlen with
      | [y0, y1, y2, y3], _, [v0, v1, v2, v3], _ =>
        have g0 := hf 0 _ rfl
        have g1 := hf 1 _ rfl
        have g2 := hf 2 _ rfl
        have g3 := hf 3 _ rfl
        simp [Try.cells_int, Try.cells_bool] at g0 g1 g2 g3
        obtain ⟨k0, r0, _, w0⟩ := DataW.trod_int Try.underlying3 g0
        obtain ⟨k1, r1, _, w1⟩ := DataW.trod_int Try.underlying3 g1
        obtain ⟨k2, r2, _, w2⟩ := DataW.trod_int Try.underlying3 g2
        obtain ⟨k3, r3, _⟩ := DataW.trod_bool Try.underlying4 g3
        injection r0 with r0
        injection r1 with r1
        injection r2 with r2
        injection r3 with r3
        subst r0 r1 r2 r3
        refine ⟨⟨k0, k1, k2, k3⟩, fun t u hu => ?_, ini_of_wf w0, ini_of_wf w1, ini_of_wf w2⟩
        have ht4 : t < 4 := by
          have := (List.getElem?_eq_some_iff.1 hu).1
          simpa using this
        have e := hcell t (by omega)
        rw [add_add_eq] at e
        rw [e]
        match t, ht4 with
        | 0, _ | 1, _ | 2, _ | 3, _ => simpa using hu
    obtain ⟨Z, hZ⟩ := choose_lt each
    have hlz : ∀ j, j < len → ((List.range len).map Z)[j]? = some (Z j) := fun j hj => by rw [List.getElem?_map, List.getElem?_range hj]; rfl
    refine ⟨(List.range len).map Z, ⟨some a, cap, by simp, by simpa using hl, hm, ?_⟩, ?_, fun o ho => ?_⟩
    · by_cases h0 : len = 0
      · exact .inl (by simp [h0])
      · right
        obtain ⟨ab, ao, spot⟩ := a
        have hspot : spot = none := by simpa [Addr.add] using World.cell?_spot ((hZ 0 (by omega)).1 0 _ rfl)
        subst hspot
        have hlt : ab < W.heap.size := by
          have h0' := (hZ 0 (by omega)).1 0 _ rfl
          rw [Addr.add_lit] at h0'
          exact cell_lt h0'
        refine ⟨ab, ao, rfl, hlt, fun j u hu => ?_⟩
        have hjl : j < len * 4 := by
          have := (List.getElem?_eq_some_iff.1 hu).1
          rw [ecells_length o_len] at this
          simpa using this
        have hj4 : j / 4 < len := by omega
        have e1 := ecells_at o_len ((List.range len).map Z) (j / 4) (by simpa using hj4) (j % 4) (by omega)
        rw [Nat.div_add_mod' j 4, hu] at e1
        have e2 : ((List.range len).map Z)[j / 4]'(by simpa using hj4) = Z (j / 4) := by simp
        rw [e2] at e1
        have := (hZ (j / 4) hj4).1 (j % 4) u e1.symm
        rw [Nat.div_add_mod' j 4, Addr.add_lit] at this
        exact this
    · simp only [Prod.mk.injEq] at hx
      have := sized_slice hsz ht (by rw [hd, hx.1]) Try.underlying22
      rw [Try.bytes_ocl] at this
      simp only [List.length_map, List.length_range, reachBytes] at this
      simp only [List.length_map, List.length_range]
      omega
    · obtain ⟨i, hi, rfl⟩ := List.mem_map.1 ho
      exact (hZ i (by simpa using hi)).2
end
end Go.Proofs.Ytcnfcohfogbfhaa
