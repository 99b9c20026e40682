/- TcpSizes, the second form ('Upto'): the row. -/
import Derived.Test.YtbhdojpgjmbogaaSegRow
import Derived.Test.YtbhdojpgjmbogaaLSizes
import Derived.Deep.CondSized
namespace Go.Proofs.Ytbhdojpgjmbogaa
open Go.ChangeShapes Go.WideShapes Go.ChangeAt Go.RowKit
set_option maxRecDepth 100000
theorem bulk_one {H : Type} (d : DataW H) : 1 ≤ Rows.uptoBulk d := by
  cases d with
  | lit l => cases l <;> simp [Rows.uptoBulk]
  | _ => simp [Rows.uptoBulk]
theorem bulk_mem {H : Type} {d : DataW H} : ∀ {l : List (DataW H)}, d ∈ l → Rows.uptoBulk d ≤ Rows.uptoBulkAll l
  | x :: r, h => by
    simp only [Rows.uptoBulkAll]
    rcases List.mem_cons.1 h with rfl | h
    · omega
    · have := bulk_mem h
      omega
theorem bulk_len {H : Type} : ∀ l : List (DataW H), l.length ≤ Rows.uptoBulkAll l
  | [] => by simp
  | x :: r => by
    have := bulk_one x
    have := bulk_len r
    simp only [Rows.uptoBulkAll, List.length_cons]
    omega
/-- The bytes of a segment that came in count in its bulk. -/
theorem seg_bulk {H : Type} {enc : TypeId × Value → H} {W : World} {s : SG} {d : DataW H} {p : List MemPlace} {A : Option Addr} {n c : Nat} (h : DataW.Trod enc Try.prog W 0 (fun _ => true) true 67 s.v d p) (hda : s.da = .slice A n c) : n ≤ Rows.uptoBulk d := by
  obtain ⟨fuel, hf⟩ := h
  obtain ⟨f0, f1, f2, f3, f4, f5, f6, f7, f8, f9, hu, t9, o9⟩ := Try.seg_fields
  obtain ⟨xs, m, _, hx, _, hxl, hfld⟩ := DataW.trod_struct hu hf
  have g9 := hfld 9 f9 rfl
  rw [t9, o9, Try.cells_bytes] at g9
  have hcell : (s.v.cells.toList.drop 9).take 1 = [.slice A n c] := by
    show [s.da] = _
    rw [hda]
  rw [hcell] at g9
  obtain ⟨y, hy⟩ : ∃ y, xs[9]? = some y := ⟨xs[9]'(by rw [hxl]; show 9 < 10; omega), List.getElem?_eq_getElem _⟩
  rw [hy] at g9
  simp only [Prod.mk.injEq] at hx
  obtain ⟨rfl, _⟩ := hx
  have hin : Rows.uptoBulk y.1 ≤ Rows.uptoBulkAll (xs.map (·.1)) := bulk_mem (List.mem_map.2 ⟨y, List.mem_of_getElem? hy, rfl⟩)
  simp only [Rows.uptoBulk]
  rcases open_ints Try.underlying24 Try.underlying5 Try.cells_u8 g9 with ⟨hc, hx⟩ | ⟨a, len', cap', zs, hc, _, hl, hm, hz, hx, hcell', hwz⟩
  · simp at hc
    omega
  · simp at hc
    obtain ⟨rfl, rfl, rfl⟩ := hc
    simp only [if_true] at hz
    subst hx
    simp only [Rows.uptoBulk] at hin
    have h1 := bulk_len (lits (H := H) .u8 (zs.take n))
    simp only [lits, List.length_map, List.length_take] at h1 hin
    omega
theorem tcpSizes_lifted (os : Os) (started : os.Started) (H : Type) (enc : TypeId × Value → H) (F : Stop.Interp) :
    ReturnsInHanded {} Try.checked os 14 .any ((Rows.OpenSpec.upto Rows.tcpSizesSpec).pre6 enc Try.prog Try.f14 Rows.tcpSizesUptoRow.domain false) (((Rows.OpenSpec.upto Rows.tcpSizesSpec).at F).post enc Try.prog Try.f14 false true false false) := by
  refine returnsInHanded_of_cond_sized (C := Try.checked) (s := Rows.OpenSpec.upto Rows.tcpSizesSpec) (k := Rows.uptoSmall) rfl Try.own started (by kernel_rfl) Try.func14
    (OpenSpec.witness (enc := enc) (C := Try.checked) (s := Rows.OpenSpec.upto Rows.tcpSizesSpec) (k := Rows.uptoSmall) rfl false ⟨#[], #[.agg #[.int .i64 0, .int .i64 0, .int .u32 0, .int .u32 0, .int .i64 0, .int .i64 0, .int .i64 0, .bool false, .slice none 0 0, .slice none 0 0]], []⟩ 8 (by kernel_rfl) (by kernel_rfl) (by kernel_rfl)
      (x := ([.agg [.lit (.int .i64 0), .lit (.int .i64 0), .lit (.int .u32 0), .lit (.int .u32 0), .lit (.int .i64 0), .lit (.int .i64 0), .lit (.int .i64 0), .lit (.bool false), .nil, .nil]], [], [])) (by kernel_rfl) rfl (by kernel_rfl)) ?_
  intro W base args ds gs before hval hW _ hk hsz _
  have hW' := hW
  obtain ⟨p, q, hA, hV, rfl, _, _⟩ := hW'
  have hV' := hV
  obtain ⟨rfl, rfl⟩ := trodVars_none hV'
  have hvt : (Rows.OpenSpec.upto Rows.tcpSizesSpec).bare.plain.varTypes Try.checked.prog = [] := rfl
  rw [hvt, List.append_nil, List.append_nil] at hsz
  rw [List.append_nil] at hk
  rw [Try.params14] at hA hval hsz
  obtain ⟨v0, vs0, d0, ds0, p0, q0, hargs, rfl, rfl, h0, r0⟩ := trodAll_cons hA
  obtain ⟨rfl, rfl, rfl⟩ := trodAll_nil r0
  obtain rfl : args = #[v0] := by cases args; simp_all
  obtain ⟨s, A, n, c, rfl, hq, _, hda, hn⟩ := open_seg (hval 0 _ v0 rfl rfl) h0 (j := 0) rfl rfl hsz
  have hb := seg_bulk h0 hda
  have hk2 : Rows.uptoBulkAll [d0] ≤ 1048576 := of_decide_eq_true hk
  simp only [Rows.uptoBulkAll] at hk2
  exact (law_sizes s n c A hda (by omega) (by omega) hq W).mono fun e W' ⟨he, hB⟩ => ⟨_, he, answered (s := Rows.tcpSizesSpec) rfl (by kernel_rfl) (by kernel_rfl) rfl hW hB⟩
theorem tcpSizes_upto : Rows.TcpSizesUptoSaid :=
  OpenClaim.holds_of_cond 14 Try.f14 rfl rfl rfl rfl rfl rfl rfl ⟨rfl, rfl, rfl, rfl, rfl⟩ rfl rfl rfl rfl rfl (by kernel_rfl) Try.func14 (by kernel_rfl)
    (of_decide_eq_true (by kernel_rfl)) (by unfold Func.isWrapper; first | (rw [if_pos (by decide +kernel)]; kernel_rfl) | (rw [if_neg (by decide +kernel)]; exact ⟨rfl, rfl⟩))
    (fun os started H enc _ F => tcpSizes_lifted os started H enc F)
#print axioms tcpSizes_upto
end Go.Proofs.Ytbhdojpgjmbogaa
