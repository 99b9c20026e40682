/- word.Sum: the checksum of parts that stand one behind the other. -/
import Derived.RangeFuncFrom
import Derived.Test.YtbhdojpgjmbogaaDoorWords
namespace Go.Proofs.YtbhdojpgjmbogaaDoor
open Go.RowKit Go.Shelf
attribute [local go_sem] Oper.semAt_some
theorem words_stops (F : Fence) (n : Nat) (hF : F.fn 42) (hro : F.round = none) (hn : 1 ≤ n) (Bs : Nat) (A : Option Addr) (c : Nat) (ls : List (List UInt8)) (hl : ls.flatten.length ≤ 140737488355328)
    (Wd w : World) (hBs : w.cell? ⟨Bs, 0, none⟩ = some (.slice A ls.length c)) (hBlt : Bs < w.heap.size) (hW : Below Wd.heap.size Wd w) (hr : RdL Wd (.slice A ls.length c) ls) :
    SeqStopsK F n Tryd.prog 42 #[.pointer (some ⟨Bs, 0, none⟩)] (fun x : W16 => #[.int .i64 x.1]) (Below Wd.heap.size) (fun ys => ys = wordsOf ls.flatten) (fun _ => True) (ls.flatten.length + 1) w :=
  fun l J Jx W hW2 _ _ hY h0 =>
    words1_in F n hF hro hn l Bs Wd.heap.size A c ls hl J Jx hY W Wd ((hW2.cell (p := ⟨Bs, 0, none⟩) hBlt).trans hBs) (below_step hW hW.size hW2) rfl hr h0
set_option maxHeartbeats 400000 in
theorem words_in (F : Fence) (n : Nat) (hF : F.fn 35) (hro : F.round = none) (A : Option Addr) (m c : Nat) (w : World) :
    CallsIn F n Tryd.prog 35 #[.slice A m c] w fun e w' => e = .returned (.func (.func 42) #[] #[.pointer (some ⟨w.heap.size, 0, none⟩)]) ∧ w.alloc (.cells #[.slice A m c] 59) = w' := by
  refine callsIn_of_wp Tryd.func35 rfl hF ?_ hro
  simp only [Tryd.ntmps35, List.size_toArray, List.length_cons, List.length_nil, Nat.reduceAdd, Nat.reduceSub, Array.replicate_succ, Array.replicate_zero, List.push_toArray, List.append_toArray, List.nil_append, List.cons_append]
  gi_wp2
  go_ret
  exact ⟨rfl, rfl⟩
/-- What the sum is when some words have come. -/
def sumTo (pre : List W16) : Int := pre.foldl (fun s w => fold (s + w.1)) 0
theorem sumTo_snoc (pre : List W16) (x : W16) : sumTo (pre ++ [x]) = fold (sumTo pre + x.1) := by simp [sumTo]
theorem sumTo_bd (pre : List W16) : 0 ≤ sumTo pre ∧ sumTo pre ≤ 65535 := by
  have : ∀ (pre : List W16) (s : Int), 0 ≤ s ∧ s ≤ 65535 → 0 ≤ pre.foldl (fun s w => fold (s + w.1)) s ∧ pre.foldl (fun s w => fold (s + w.1)) s ≤ 65535 := by
    intro pre
    induction pre with
    | nil => intro s h; exact h
    | cons x l ih => intro s h; exact ih _ ⟨fold_ge _ (by have := x.2; omega), fold_le _⟩
  exact this pre 0 (by omega)
set_option maxRecDepth 100000 in
set_option maxHeartbeats 2000000 in
theorem wsum (v : Value) (ls : List (List UInt8)) (hl : ls.flatten.length ≤ 140737488355328) (w : World) (hr : RdL w v ls) :
    Calls Tryd.prog 23 #[v] w fun e W' => e = .returned (.int .i64 (65535 - sumw ls.flatten 0)) ∧ Below w.heap.size w W' := by
  obtain ⟨A, c, rfl, hc1, hc2⟩ := hr.form
  refine (callsIn_wide (n := 6)).1 ?_
  refine callsIn_of_wp_marks Tryd.func23 rfl trivial ?_ rfl
  simp only [Tryd.ntmps23, List.size_toArray, List.length_cons, List.length_nil, Nat.reduceAdd, Nat.reduceSub, Array.replicate_succ, Array.replicate_zero, List.push_toArray, List.append_toArray, List.nil_append, List.cons_append]
  gi_wp2_with fail
  refine ⟨trivial, ?_⟩
  refine (words_in Fence.wide (6 - 1) trivial rfl _ _ _ _).mono ?_
  rintro e w' ⟨rfl, rfl⟩
  gi_wp2_with fail
  have hs : Blk ((w.alloc (.cells #[.int .i64 0] 3)).alloc (.cells #[.slice A ls.length c] 59)) w.heap.size 3 #[.int .i64 0] := (Blk.new w 3 #[.int .i64 0] w.heap.size rfl).alloc _
  have hb : Blk ((w.alloc (.cells #[.int .i64 0] 3)).alloc (.cells #[.slice A ls.length c] 59)) (w.heap.size + 1) 59 #[.slice A ls.length c] := Blk.new _ 59 _ _ (by simp)
  have hB0 : Below w.heap.size w ((w.alloc (.cells #[.int .i64 0] 3)).alloc (.cells #[.slice A ls.length c] 59)) := ((Below.refl _ w).alloc (Nat.le_refl _) _).alloc (by simp) _
  refine wpIn_rangeFunc_ownF rfl (by omega) (gf := 42) (lb := #[.pointer (some ⟨w.heap.size + 1, 0, none⟩)]) rfl trivial (enters_of Tryd.func42 (by kernel_rfl) rfl)
    (words_stops Fence.wide (6 - 1) trivial rfl (by omega) (w.heap.size + 1) A c ls hl w _ (hb.cell 0) (by simp) hB0 hr) belowK_t (belowK_b (by simp; omega)) (Below.refl _ _) (fun _ => rfl)
    (fun pre W => (W.cell? ⟨w.heap.size, 0, none⟩ = some (.int .i64 (sumTo pre)) ∧ W.frozen? ⟨w.heap.size, 0, none⟩ = false) ∧ Below w.heap.size w W)
    (fun _ _ _ => False)
    (OwnFrom.and (Own.from (fun s A B row hs hg hr => ⟨cell_kept hs.1 hg hr, (frozen_kept hs.1 hg hr).trans hs.2⟩) _) (ownFrom_below (Nat.le_refl _) (by simp; omega)))
    (fun _ _ _ _ _ hs _ _ => hs)
    ⟨⟨hs.cell 0, hs.free 0⟩, hB0⟩
    (fun x => { tmps := #[.slice A ls.length c, undef, .int .i64 0, .pointer (some ⟨w.heap.size, 0, none⟩), .int .i64 x.1, .slice A ls.length c, .func (.func 42) #[] #[.pointer (some ⟨w.heap.size + 1, 0, none⟩)], .int .i64 x.1, undef, undef, undef, undef, undef, undef], defers := [] }) ?assign ?body ?done ?stop
  case assign =>
    intro l x W K hK
    gi_wp2
    exact hK
  case body =>
    rintro l pre x W ⟨⟨hc, hf⟩, hB⟩ _
    have hx := x.2
    have hsb := sumTo_bd pre
    have hsn := sumTo_snoc pre x
    have Hsn := Lib.hid hsn
    clear hsn
    obtain ⟨hx0, hx1⟩ := hx
    obtain ⟨hs0, hs1⟩ := hsb
    clear hs hb hB0
    gi_wp2_with fail
    refine ⟨trivial, ?_⟩
    refine (CallsIn.inRound l (callsIn_wide.2 (wfold _ _ (by omega) (by omega)))).mono ?_
    rintro e w' ⟨rfl, rfl⟩
    gi_wp2
    exact ⟨KeepsOthers.setCell _ _ _, (Below.refl w.heap.size W).setCell (p := ⟨w.heap.size, 0, none⟩) (Nat.le_refl _) _, ⟨by rw [Hsn.out]; exact World.cell?_setCell_same' _ _ _ (by rw [hc]; rfl), by rw [World.frozen?_setCell]; exact hf⟩, hB.setCell (p := ⟨w.heap.size, 0, none⟩) (Nat.le_refl _) _⟩
  case done =>
    rintro D ys W hD rfl ⟨⟨hc, _⟩, hB⟩ hK
    rw [show sumTo (wordsOf ls.flatten) = sumw ls.flatten 0 from sumw_eq _] at hc
    obtain ⟨hw0, hw1⟩ := sumw_bd ls.flatten 0 (by omega) (by omega)
    gi_wp2
    refine ⟨by simp, .inl ⟨_, _, rfl, run_takeDeferred hK, ?_⟩⟩
    exact ⟨_, results_tmp rfl _ _ _, rfl, hB.trans (belowK_b (w := w) (Nat.le_refl _) W D _ _ (by simp at hD; omega) hK rfl rfl)⟩
  case stop =>
    rintro D c pre W _ _ h _
    exact h.elim
end Go.Proofs.YtbhdojpgjmbogaaDoor
