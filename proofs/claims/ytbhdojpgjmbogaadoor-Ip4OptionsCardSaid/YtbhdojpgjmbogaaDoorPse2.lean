/- ip4.Pseudo: what a sum over what a packet carries begins with. -/
import Derived.Test.YtbhdojpgjmbogaaDoorConcat
import Derived.Deep.RegionWith
namespace Go.Proofs.YtbhdojpgjmbogaaDoor
open Go.RowKit
/-- A boxed address read as a slice. -/
theorem Blk.ip {w : World} {g : Nat} {i : IP} (h : Blk w g 23 i.cells) : Rd w (.slice (some ⟨g, 0, none⟩) 4 4) i.l :=
  ⟨some ⟨g, 0, none⟩, 4, rfl, Nat.le_refl _, by unfold maxLen; omega, .inr ⟨g, 0, rfl, h.lt, fun j u hu => by
    rw [Blk.cell h]
    simp only [Nat.zero_add]
    rw [← Array.getElem?_toList]
    exact hu⟩⟩
theorem Blk.drw {w : World} {g : Nat} {t : TypeId} {cs : Array Value} (h : Blk w g t cs) : Blk w.drew g t cs := h
/-- The cells of a boxed address. -/
theorem Blk.ip4 {w : World} {g : Nat} {i : IP} (h : Blk w g 23 i.cells) :
    w.cell? ⟨g, 0, none⟩ = some (.int .u8 i.a.toNat) ∧ w.cell? ⟨g, 1, none⟩ = some (.int .u8 i.b.toNat) ∧ w.cell? ⟨g, 2, none⟩ = some (.int .u8 i.c.toNat) ∧ w.cell? ⟨g, 3, none⟩ = some (.int .u8 i.d.toNat) :=
  ⟨h.cell 0, h.cell 1, h.cell 2, h.cell 3⟩
/-- A slice of slices that has just been built. -/
theorem rdL_new (w : World) (e : TypeId) (xs : Array Value) (ls : List (List UInt8)) (n H : Nat) (hn : xs.size = n) (hn' : ls.length = n) (hm : n ≤ 65536) (hH : w.heap.size = H)
    (h : ∀ i (h : i < xs.toList.length) (h' : i < ls.length), Rd w xs.toList[i] ls[i]) : RdL (w.alloc (.cells xs e)) (.slice (some ⟨H, 0, none⟩) n n) ls := by
  subst hH
  exact ⟨xs.toList, rdV_new w e xs n hn (by unfold maxLen; omega), by rw [Array.length_toList, hn, hn'], fun i hi hi' => (h i hi hi').mono (below_alloc w _)⟩
theorem ps_parts (w : World) (s d : IP) (p : Int) :
    RdL ((((w.alloc (.cells s.cells 23)).alloc (.cells d.cells 23)).alloc (.cells #[.int .u8 0, .int .u8 (IntKind.u8.wrap p)] 5)).alloc
      (.cells #[.slice (some ⟨w.heap.size, 0, none⟩) 4 4, .slice (some ⟨w.heap.size + 1, 0, none⟩) 4 4, .slice (some ⟨w.heap.size + 1 + 1, 0, none⟩) 2 2] 24)) (.slice (some ⟨w.heap.size + 1 + 1 + 1, 0, none⟩) 3 3) [s.l, d.l, [0, by8 p]] := by
  refine rdL_new _ _ _ _ 3 _ rfl rfl (by omega) (by simp) ?_
  have h0 : Rd (((w.alloc (.cells s.cells 23)).alloc (.cells d.cells 23)).alloc (.cells #[.int .u8 0, .int .u8 (IntKind.u8.wrap p)] 5)) (.slice (some ⟨w.heap.size, 0, none⟩) 4 4) s.l :=
    (((Blk.new w 23 s.cells _ rfl).alloc _).alloc _).ip
  have h1 : Rd (((w.alloc (.cells s.cells 23)).alloc (.cells d.cells 23)).alloc (.cells #[.int .u8 0, .int .u8 (IntKind.u8.wrap p)] 5)) (.slice (some ⟨w.heap.size + 1, 0, none⟩) 4 4) d.l :=
    ((Blk.new _ 23 d.cells _ (by simp)).alloc _).ip
  have h2 : Rd (((w.alloc (.cells s.cells 23)).alloc (.cells d.cells 23)).alloc (.cells #[.int .u8 0, .int .u8 (IntKind.u8.wrap p)] 5)) (.slice (some ⟨w.heap.size + 1 + 1, 0, none⟩) 2 2) [0, by8 p] :=
    rd_at _ _ _ 2 _ (by simp [bv_by8, IntKind.wrap_u8]; rfl) rfl (by omega) (by simp)
  intro i h h'
  match i, h' with
  | 0, _ => exact h0
  | 1, _ => exact h1
  | 2, _ => exact h2
set_option maxHeartbeats 400000 in
theorem pseudo (s d : IP) (p n : Int) (w : World) :
    Calls Tryd.prog 16 #[s.v, d.v, .int .i64 p, .int .i64 n] w fun e w' => ∃ v', e = .returned v' ∧ Ow w' w.heap.size v' (psl s d p n) ∧ Below w.heap.size w w' := by
  go_enter Tryd.func16, Tryd.ntmps16
  go_wp2_with fail
  go_region_with (first | (go_at_call 22; refine (join _ [s.l, d.l, [0, by8 p]] _ (ps_parts w s d p).drew (by simp [IP.l])).mono ?_; rintro e w1 ⟨v1, rfl, ho1, hb1⟩) | (go_at_call 21; refine (put16 _ _ _ _ ho1.rd (by simp [IP.l])).mono ?_; rintro e w2 ⟨v2, rfl, ho2, hb2⟩))
  have hB1 := below_step (below4 w _ _ _ _) (below4 w _ _ _ _).size hb1
  go_wp2
  go_ret
  have h : Ow w2 w.heap.size v2 (psl s d p n) := by
    have h := ho2.less hB1.size
    simpa [psl] using h
  exact ⟨_, rfl, h, below_step hB1 hB1.size hb2⟩
end Go.Proofs.YtbhdojpgjmbogaaDoor
