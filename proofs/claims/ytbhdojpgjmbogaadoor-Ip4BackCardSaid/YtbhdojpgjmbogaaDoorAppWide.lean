/- append of bytes where both together are more than 2^47: as long as the model lays them. -/
import Derived.Test.YtbhdojpgjmbogaaDoorKit
import Derived.Deep.DeepAppendWide
namespace Go.Proofs.YtbhdojpgjmbogaaDoor
open Go.RowKit
theorem wpList_appW {ops : Array Oper} {rest : List Oper} {o : Oper} {a : Act} {Q : Exit → Act → World → Prop} {w : World} (hgd : o.guard = none) (s x : Operand)
    (ho : o.op = .call { callee := .builtin .append, args := #[s, x], argTypes := #[24, 24] })
    (base : Nat) {v u : Value} {l m : List UInt8} (hown : Ow w base v l) (hr : Rd w u m) (hs : a.eval s = v) (hx : a.eval x = u)
    (hbytes : l.length + m.length ≤ 200000000000000) (hbase : base ≤ w.heap.size)
    (h : ∀ v' w', Ow w' base v' (l ++ m) → Below base w w' → wpList Tryd.prog ops Q rest (a.put o.dst v') w') :
    wpList Tryd.prog ops Q (o :: rest) a w := by
  by_cases hm : m.length = 0
  · obtain rfl : m = [] := List.eq_nil_of_length_eq_zero hm
    by_cases hs2 : l.length ≤ 140737488355328
    · exact wpList_app hgd s x ho base hown hr hs hx (by simpa using hs2) hbase fun v' w' h1 h2 _ => h v' w' h1 h2
    · obtain ⟨A, c, rfl, hc1, hc2, hcell⟩ := hr
      obtain ⟨i, hi, hz, hz1, hz2⟩ := info_parts byte_info
      change a.eval x = .slice A 0 c at hx
      refine wpList_plain hgd fun K hK => ?_
      rcases hown.2 with ⟨rfl, h0⟩ | ⟨g, cap, cur, rfl, _, _, hnc, _⟩
      · omega
      · have hrun : (Builtin.append_ #[24, 24] o.type #[.slice (some ⟨g, 0, none⟩) l.length cap, .slice A 0 c]).run Tryd.prog w = .ok (.slice (some ⟨g, 0, none⟩) l.length cap) w := by
          cases A with
          | none => simp [Builtin.append_, run_underlying und_bytes, sizeOf, typeInfo, hi, Builtin.lenOf, Builtin.firstCells, hnc, storeCells]
          | some ad => simp [Builtin.append_, run_underlying und_bytes, sizeOf, typeInfo, hi, Builtin.lenOf, Builtin.firstCells, hnc, storeCells, loadCells, loadCellsFrom]
        unfold Oper.wp execOp
        simp only [ho, resolve, invoke, builtin, Sem.run_bind, Sem.run_pure, Result.andThen_ok, List.map_toArray, List.map_cons, List.map_nil, hs, hx, hrun]
        refine hK _ _ (h _ _ ?_ (Below.refl _ _))
        rw [List.append_nil]
        exact hown
  · obtain ⟨A, c, rfl, hc1, hc2, hcell⟩ := hr
    obtain ⟨i, hi, hz, hz1, hz2⟩ := info_parts byte_info
    rcases hcell with h0 | ⟨b, o', rfl, hlt, hcs⟩
    · exact absurd (by simpa using congrArg List.length h0) hm
    · have hown0 := hown
      unfold Ow at hown
      obtain ⟨v', w', hrun, h2, h3, h4⟩ := run_append_own_wide (P := Tryd.prog) w base 24 o.type 5 i _ 1 1 und_bytes hi hz hz1 hz2 rfl (by decide) v l.length (l.map bv) hown ⟨b, o', none⟩ (m.map bv).length c (m.map bv) (by simp)
        (fun j y hy => by rw [add_lit]; exact hcs j y hy) (oneCell_bv m) (by simp only [List.length_map, maxLen]; omega) (by simp only [List.length_map]; omega) hbase
      refine wpList_plain hgd fun K hK => ?_
      unfold Oper.wp execOp
      simp only [ho, resolve, invoke, builtin, Sem.run_bind, Sem.run_pure, Result.andThen_ok, List.map_toArray, List.map_cons, List.map_nil, hs, hx, hrun]
      refine hK _ _ (h v' w' ?_ (below_app hown0 h3 (Nat.le_refl _) hbase))
      unfold Ow
      rw [List.map_append, List.length_append]
      rw [List.length_map] at h2
      exact h2
end Go.Proofs.YtbhdojpgjmbogaaDoor
