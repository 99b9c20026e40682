/- Openers: a list of datagrams, and a list of bools, as they came in. -/
import Derived.Test.YtbhdojpgjmbogaaRow
import Derived.Test.YtbhdojpgjmbogaaLine1
import Derived.Deep.Slices
namespace Go.Proofs.Ytbhdojpgjmbogaa
open Go.RowKit Go.Maps Go.ChangeShapes Go.WideShapes Go.ChangeAt Go.Deep
set_option maxRecDepth 100000
theorem bulk_one {H : Type} (d : DataW H) : 1 ≤ Rows.uptoBulk d := by
  cases d with
  | lit l => cases l <;> simp [Rows.uptoBulk]
  | _ => simp [Rows.uptoBulk]
theorem bulk_mem {H : Type} {d : DataW H} : ∀ {l : List (DataW H)}, d ∈ l → Rows.uptoBulk d ≤ Rows.uptoBulkAll l
  | x :: r, h => by
    simp only [Rows.uptoBulkAll]
    rcases List.mem_cons.1 h with rfl | h
    · omega
    · have := bulk_mem h
      omega
theorem bulk_len {H : Type} : ∀ l : List (DataW H), l.length ≤ Rows.uptoBulkAll l
  | [] => by simp
  | x :: r => by
    have := bulk_one x
    have := bulk_len r
    simp only [Rows.uptoBulkAll, List.length_cons]
    omega
section
variable {H : Type} {enc : TypeId × Value → H}
/-- A slice of one-cell ints as it came in. -/
theorem open_rowV {P : Program} {w : World} {fuel : Nat} {v : Value} {k : IntKind} {t e : TypeId} {x : DataW H × List MemPlace} (ht : P.underlying t = some (.slice e)) (he : P.underlying e = some (.int k)) (hc : P.cellsOf e = 1)
    (h : DataW.trod enc P w 0 (fun _ => true) true fuel t [v] = some x) :
    ∃ zs : List Int, RdV w v (zs.map (Value.int k)) ∧ zs.length ≤ Rows.uptoBulk x.1 ∧ ∀ n ∈ zs, (Lit.int k n).wf = true := by
  rcases open_ints ht he hc h with ⟨hcs, hx⟩ | ⟨a, len, cap, zs, hcs, _, hl, hm, hz, hx, hcell, hwz⟩
  · simp at hcs
    subst hcs
    exact ⟨[], RdV.nil _, Nat.zero_le _, fun n hn => by simp at hn⟩
  · simp at hcs
    subst hcs
    simp only [if_true] at hz
    have hlen : (zs.take len).length = len := by simp; omega
    refine ⟨zs.take len, ⟨some a, cap, by rw [List.length_map, hlen], by rw [List.length_map, hlen]; exact hl, hm, ?_⟩, ?_, fun n hn => hwz n (List.mem_of_mem_take hn)⟩
    · by_cases h0 : len = 0
      · exact .inl (by simp [h0])
      · obtain ⟨ab, ao, spot⟩ := a
        have hspot : spot = none := by simpa [Addr.add] using World.cell?_spot (hcell 0 (by omega))
        subst hspot
        have hlt : ab < w.heap.size := by
          have h0' := hcell 0 (by omega)
          rw [Addr.add_lit] at h0'
          exact cell_lt h0'
        refine .inr ⟨ab, ao, rfl, hlt, fun j u hu => ?_⟩
        rw [List.getElem?_map] at hu
        obtain ⟨z, hz', rfl⟩ := Option.map_eq_some_iff.1 hu
        have hj : j < len := by
          have := (List.getElem?_eq_some_iff.1 hz').1
          omega
        have hzj : zs[j]? = some z := by rw [← hz', List.getElem?_take, if_pos hj]
        have hcj := hcell j (by omega)
        rw [Addr.add_lit] at hcj
        rw [hcj, List.getD_eq_getElem?_getD, hzj]
        rfl
    · rw [hx]
      simp only [Rows.uptoBulk]
      have h1 := bulk_len (lits (H := H) k (zs.take len))
      simp only [lits, List.length_map] at h1 ⊢
      omega
theorem open_rdI {w : World} {fuel : Nat} {v : Value} {x : DataW H × List MemPlace} (h : DataW.trod enc Try.prog w 0 (fun _ => true) true fuel 51 [v] = some x) :
    ∃ l : List Int, RdI w v l ∧ l.length ≤ Rows.uptoBulk x.1 := by
  obtain ⟨zs, h1, h2, _⟩ := open_rowV Try.underlying51 Try.underlying3 Try.cells_int h
  exact ⟨zs, h1, h2⟩
theorem bytes_of_wf : ∀ zs : List Int, (∀ n ∈ zs, (Lit.int .u8 n).wf = true) → zs.map (Value.int .u8) = (zs.map fun n => UInt8.ofNat n.toNat).map bv := by
  intro zs h
  rw [List.map_map]
  refine List.map_congr_left fun n hn => ?_
  have := h n hn
  simp [Lit.wf, IntKind.min, IntKind.max, IntKind.signed, IntKind.bits] at this
  simp only [Function.comp, bv, UInt8.toNat_ofNat']
  congr 1
  omega
theorem open_rd {w : World} {fuel : Nat} {v : Value} {x : DataW H × List MemPlace} (h : DataW.trod enc Try.prog w 0 (fun _ => true) true fuel 24 [v] = some x) :
    ∃ l : List UInt8, Rd w v l ∧ l.length ≤ Rows.uptoBulk x.1 := by
  obtain ⟨zs, h1, h2, h3⟩ := open_rowV Try.underlying24 Try.underlying5 Try.cells_u8 h
  rw [bytes_of_wf zs h3] at h1
  exact ⟨_, h1, by simpa using h2⟩
/-- A slice of bools as it came in. -/
theorem open_rdB {w : World} {v : Value} {d : DataW H} {p : List MemPlace} {base : Nat} (hval : Value.okWide Try.prog w .any base 53 v) (h : DataW.Trod enc Try.prog w 0 (fun _ => true) true 53 v d p) :
    ∃ l : List Bool, RdV w v (l.map Value.bool) := by
  obtain ⟨a1, len, cap, rfl⟩ := okWide_slice Try.underlying53 hval
  obtain ⟨fuel, hf⟩ := h
  have ce : Try.prog.cellsOf 4 = 1 := by kernel_rfl
  rcases open_slice Try.underlying53 hf with h0 | ⟨a, len', cap', m, n, D, Pl, hcs, hb, hl, hm, hmm, _, hx⟩
  · simp [Value.cells] at h0
    obtain ⟨⟨rfl, rfl, rfl⟩, _⟩ := h0
    exact ⟨[], RdV.nil _⟩
  · simp [Value.cells] at hcs
    obtain ⟨rfl, rfl, rfl⟩ := hcs
    have hlm : len ≤ m := by rw [hmm]; split <;> omega
    have each : ∀ i, i < len → ∃ q : Bool, w.cell? (a.add i) = some (.bool q) := by
      intro i hi
      obtain ⟨cs', h1, h2⟩ := hx i (by omega)
      rw [ce, Nat.mul_one] at h1
      obtain ⟨b, rfl, _⟩ := DataW.trod_bool Try.underlying4 h2
      exact ⟨b, cell_of_cells?_one h1⟩
    obtain ⟨q, hq⟩ := choose_lt each
    refine ⟨(List.range len).map q, some a, cap, by simp, by simpa using hl, hm, ?_⟩
    by_cases h0 : len = 0
    · exact .inl (by simp [h0])
    · obtain ⟨ab, ao, spot⟩ := a
      have hspot : spot = none := by simpa [Addr.add] using World.cell?_spot (hq 0 (by omega))
      subst hspot
      have h0' := hq 0 (by omega)
      rw [Addr.add_lit] at h0'
      refine .inr ⟨ab, ao, rfl, cell_lt h0', fun j u hu => ?_⟩
      have hj : j < len := by
        have := (List.getElem?_eq_some_iff.1 hu).1
        simpa using this
      have := hq j hj
      rw [Addr.add_lit] at this
      simp [hj] at hu
      rw [this, hu]
/-- A datagram and what its slices read. -/
structure Itm where
  e : DG
  data : List UInt8
  bufs : List Int
deriving Inhabited
structure Itm.In (w : World) (it : Itm) : Prop where
  da : Rd w it.e.da it.data
  bu : RdI w it.e.bu it.bufs
  dl : it.data.length ≤ 1048576
  bl : it.bufs.length ≤ 1048576
theorem Itm.In.mono {w w' : World} {it : Itm} (h : it.In w) (hb : Below w.heap.size w w') : it.In w' := ⟨h.da.mono hb, h.bu.mono hb, h.dl, h.bl⟩
/-- A slice of datagrams reads as a list. -/
def RdD (w : World) (v : Value) (l : List Itm) : Prop :=
  ∃ A c, v = .slice A l.length c ∧ l.length ≤ c ∧ c ≤ maxLen ∧ ∀ j (h : j < l.length), (∃ b o, A = some ⟨b, o, none⟩ ∧ b < w.heap.size ∧ ∀ i u, l[j].e.cells[i]? = some u → w.cell? ⟨b, o + j * 7 + i, none⟩ = some u) ∧ l[j].In w
theorem Try.cells_dgram : Try.prog.cellsOf 57 = 7 := by kernel_rfl
theorem Try.cells_sints : Try.prog.cellsOf 51 = 1 := by kernel_rfl
theorem Try.cells_sbytes : Try.prog.cellsOf 24 = 1 := by kernel_rfl
theorem Try.dgram_fields : ∃ f0 f1 f2 f3 : Field, Try.prog.underlying 57 = some (.struct #[f0, f1, f2, f3]) ∧ f0.type = 23 ∧ f1.type = 3 ∧ f2.type = 24 ∧ f3.type = 51 ∧ f0.offset = 0 ∧ f1.offset = 4 ∧ f2.offset = 5 ∧ f3.offset = 6 :=
  ⟨_, _, _, _, Try.underlying57, rfl, rfl, rfl, rfl, rfl, rfl, rfl, rfl⟩
theorem open_dgram {w : World} {fuel : Nat} {cs : List Value} {x : DataW H × List MemPlace} (h : DataW.trod enc Try.prog w 0 (fun _ => true) true fuel 57 cs = some x) (hx : Rows.uptoBulk x.1 ≤ 1048576) :
    ∃ it : Itm, cs = it.e.cells ∧ it.In w := by
  obtain ⟨f0, f1, f2, f3, hu, t0, t1, t2, t3, o0, o1, o2, o3⟩ := Try.dgram_fields
  obtain ⟨xs, n, _, rfl, hlen, hxl, hf⟩ := DataW.trod_struct hu h
  rw [Try.cells_dgram] at hlen
  match xs, hxl, cs, hlen with
  | [y0, y1, y2, y3], _, [c0, c1, c2, c3, c4, c5, c6], _ =>
    have g0 := hf 0 f0 rfl
    have g1 := hf 1 f1 rfl
    have g2 := hf 2 f2 rfl
    have g3 := hf 3 f3 rfl
    rw [t0, o0, Try.cells_ip] at g0
    rw [t1, o1, Try.cells_int] at g1
    rw [t2, o2, Try.cells_sbytes] at g2
    rw [t3, o3, Try.cells_sints] at g3
    simp at g0 g1 g2 g3
    obtain ⟨z, e1, _, _⟩ := DataW.trod_int Try.underlying3 g1
    injection e1 with e1
    obtain ⟨l2, r2, b2⟩ := open_rd g2
    obtain ⟨l3, r3, b3⟩ := open_rdI g3
    obtain ⟨ys, m, _, _, _, hyl, hy⟩ := DataW.trod_array Try.underlying23 g0
    have hb : Rows.uptoBulk y2.1 ≤ 1048576 ∧ Rows.uptoBulk y3.1 ≤ 1048576 := by
      simp [Rows.uptoBulk, Rows.uptoBulkAll] at hx
      omega
    have byte : ∀ i (hi : i < 4), ∃ q : UInt8, [c0, c1, c2, c3][i]? = some (bv q) := by
      intro i hi
      have hyi := hy i hi
      rw [Try.cells_u8, Nat.mul_one, List.getElem?_eq_getElem (by omega)] at hyi
      obtain ⟨z, hz, _, hw⟩ := DataW.trod_int Try.underlying5 hyi
      simp [Lit.wf, IntKind.min, IntKind.max, IntKind.signed, IntKind.bits] at hw
      refine ⟨UInt8.ofNat z.toNat, ?_⟩
      have : ([c0, c1, c2, c3].drop i).take 1 = [.int .u8 z] := hz
      have h2 : [c0, c1, c2, c3][i]? = (([c0, c1, c2, c3].drop i).take 1)[0]? := by simp
      rw [h2, this]
      simp only [List.getElem?_cons_zero, bv, UInt8.toNat_ofNat']
      congr 2
      omega
    obtain ⟨q0, h0⟩ := byte 0 (by omega)
    obtain ⟨q1, h1⟩ := byte 1 (by omega)
    obtain ⟨q2, h2⟩ := byte 2 (by omega)
    obtain ⟨q3, h3⟩ := byte 3 (by omega)
    simp at h0 h1 h2 h3
    subst h0 h1 h2 h3 e1
    exact ⟨⟨⟨q0, q1, q2, q3, z, c5, c6⟩, l2, l3⟩, rfl, r2, r3, Nat.le_trans b2 hb.1, Nat.le_trans b3 hb.2⟩
/-- A list of datagrams that came in. -/
theorem open_dgrams {w : World} {v : Value} {d : DataW H} {p : List MemPlace} {base : Nat} (hval : Value.okWide Try.prog w .any base 52 v) (h : DataW.Trod enc Try.prog w 0 (fun _ => true) true 52 v d p) (hbulk : Rows.uptoBulk d ≤ 1048576) :
    ∃ l : List Itm, RdD w v l ∧ l.length ≤ 1048576 := by
  obtain ⟨a1, len, cap, rfl⟩ := okWide_slice Try.underlying52 hval
  obtain ⟨fuel, hf⟩ := h
  rcases open_slice Try.underlying52 hf with h0 | ⟨a, len', cap', m, n, D, Pl, hcs, hb, hl, hm, hmm, hxe, hx⟩
  · simp [Value.cells] at h0
    obtain ⟨⟨rfl, rfl, rfl⟩, _⟩ := h0
    exact ⟨[], ⟨none, 0, rfl, Nat.le_refl _, Nat.zero_le _, fun j hj => by simp at hj⟩, by simp⟩
  · simp [Value.cells] at hcs
    obtain ⟨rfl, rfl, rfl⟩ := hcs
    have hlm : len ≤ m := by rw [hmm]; split <;> omega
    injection hxe with hxe _
    subst hxe
    simp only [Rows.uptoBulk] at hbulk
    have hlb := bulk_len ((List.range len).map D)
    simp only [List.length_map, List.length_range] at hlb
    have each : ∀ i, i < len → ∃ q : Itm, q.In w ∧ ∀ j u, q.e.cells[j]? = some u → w.cell? ((a.add (i * 7)).add j) = some u := by
      intro i hi
      obtain ⟨cs', h1, h2⟩ := hx i (by omega)
      rw [Try.cells_dgram] at h1
      have hbi := bulk_mem (List.mem_map.2 ⟨i, List.mem_range.2 hi, rfl⟩ : D i ∈ (List.range len).map D)
      obtain ⟨it, rfl, hin⟩ := open_dgram h2 (by show Rows.uptoBulk (D i) ≤ _; omega)
      obtain ⟨_, hlen, hcell⟩ := World.cells?_some h1
      refine ⟨it, hin, fun j u hu => ?_⟩
      have hj : j < 7 := by
        have := (List.getElem?_eq_some_iff.1 hu).1
        simpa [DG.cells] using this
      have := hcell j (by omega)
      rw [this, hu]
    obtain ⟨q, hq⟩ := choose_lt each
    refine ⟨(List.range len).map q, ⟨some a, cap, by simp, by simpa using hl, hm, fun j hj => ?_⟩, by simp; omega⟩
    have hj' : j < len := by simpa using hj
    obtain ⟨hin, hc⟩ := hq j hj'
    simp only [List.getElem_map, List.getElem_range]
    refine ⟨?_, hin⟩
    obtain ⟨ab, ao, spot⟩ := a
    have hspot : spot = none := by
      have := World.cell?_spot ((hq 0 (by omega)).2 0 _ rfl)
      simpa [Addr.add] using this
    subst hspot
    have h4 := hc 4 _ rfl
    rw [Addr.add_lit, Addr.add_lit] at h4
    refine ⟨ab, ao, rfl, cell_lt h4, fun i u hu => ?_⟩
    have := hc i u hu
    rw [Addr.add_lit, Addr.add_lit] at this
    exact this
end
end Go.Proofs.Ytbhdojpgjmbogaa
