/- slices.Delete of one timer out of a row of the call's own. -/
import Derived.Test.YtcnfcohfogbfhaaWRow
import Derived.Shelf.RegionOpenPlain
import Derived.Lib.SlicesDelete
namespace Go.Proofs.Ytcnfcohfogbfhaa
open Go.RowKit Go.Shelf
/-- A row of the call's own, its block laid open. -/
theorem owT_cur {w : World} {base g n cap : Nat} {l : List Tm} (h : OwT w base (.slice (some ⟨g, 0, none⟩) n cap) l) :
    ∃ cur : List Value, w.heap[g]? = some (.cells cur.toArray 60 (0, 0)) ∧ cur.length = cap * 3 ∧ cur.take (l.length * 3) = ecells Tm.cs l ∧ l.length ≤ cap ∧ cap ≤ maxLen ∧ base ≤ g ∧ n = l.length := by
  obtain ⟨h1, h2⟩ := h
  rcases h2 with ⟨e, _⟩ | ⟨g', cap', cur, e, hb, hg, hn, hm, hs, ht⟩
  · cases e
  · injection e with e1 e2 e3
    injection e1 with e1
    injection e1 with e1
    subst e1 e3
    exact ⟨cur.toList, by simpa using hg, by simpa using hs, by simpa using ht, hn, hm, hb, e2⟩
/-- append of timers where there is room, as a step of a region that draws. -/
theorem step_roomT {ops : Array Oper} {o : Oper} {a : Act} {w : World} {K : Act → World → Prop} {Q : Exit → Act → World → Prop} {E : Prop} (hgd : o.guard = none) (s x : Operand)
    (ho : o.op = .call { callee := .builtin .append, args := #[s, x], argTypes := #[54, 54] }) {g n cap m c : Nat} {cur : List Value} (hg : w.heap[g]? = some (.cells cur.toArray 60 (0, 0)))
    (ad : Addr) (news : List Value) (hl : news.length = m * 3) (hnews : ∀ j u, news[j]? = some u → w.cell? (ad.add j) = some u) (h1 : ∀ u ∈ news, u.oneCell' = true) (hroom : n + m ≤ cap) (hfit : n * 3 + news.length ≤ cur.length)
    (hs : a.eval s = .slice (some ⟨g, 0, none⟩) n cap) (hx : a.eval x = .slice (some ad) m c)
    (h : K (a.put o.dst (.slice (some ⟨g, 0, none⟩) (n + m) cap)) (w.setRow g (cur.take (n * 3) ++ news ++ cur.drop (n * 3 + news.length)).toArray)) :
    if Region.wanted o (yielded ops a.tmps) = true then Oper.wp Try.prog o a w K Q else E := by
  have hw : Region.wanted o (yielded ops a.tmps) = true := by simp [Region.wanted, hgd]
  rw [if_pos hw]
  obtain ⟨i, hi, hz, hz1, hz2⟩ := info_parts tm_info
  have hrun := run_append_room (P := Try.prog) w 54 o.type 60 i Try.underlying54 hi g n cap cur.toArray hg ad m c news (by rw [hz1]; exact hl) hnews h1 hroom (by rw [hz1]; simpa using hfit)
  rw [hz1] at hrun
  simp only at hrun
  unfold Oper.wp execOp
  simp only [ho, resolve, invoke, builtin, Sem.run_bind, Sem.run_pure, Result.andThen_ok, List.map_toArray, List.map_cons, List.map_nil, hs, hx, hrun]
  exact h
theorem zero_tm (w : World) : (zeroValue 60).run Try.prog w = .ok (.agg #[.int .i64 0, .int .i64 0, .int .i64 0]) w := Try.zeroValue60 w
/-- clear of one timer. -/
theorem run_clearT {w : World} {g off c : Nat} {cur : List Value} (ty : TypeId) (hg : w.heap[g]? = some (.cells cur.toArray 60 (0, 0))) (hfit : off + 3 ≤ cur.length) :
    (Builtin.clear_ #[54] ty #[.slice (some ⟨g, off, none⟩) 1 c]).run Try.prog w = .ok (.tuple #[]) (w.setRow g (cur.take off ++ [Value.int .i64 0, Value.int .i64 0, Value.int .i64 0] ++ cur.drop (off + 3)).toArray) := by
  have hst := run_storeCells_at Try.prog g off 60 [Value.int .i64 0, Value.int .i64 0, Value.int .i64 0] 0 cur.toArray w hg (by simpa using hfit) (by intro u hu; simp at hu; subst hu; rfl)
  have ez : (Builtin.zeroCells (Value.agg #[.int .i64 0, .int .i64 0, .int .i64 0]).cells 1).toList = [Value.int .i64 0, Value.int .i64 0, Value.int .i64 0] := by kernel_rfl
  simp [Builtin.clear_, run_underlying (Try.underlying54), ez, hst]
theorem eraseIdx_cells (l : List Tm) (k : Nat) : ecells Tm.cs (l.eraseIdx k) = ecells Tm.cs (l.take k) ++ ecells Tm.cs (l.drop (k + 1)) := by
  rw [List.eraseIdx_eq_take_drop_succ, ecells_app]
set_option maxRecDepth 100000 in
set_option maxHeartbeats 8000000 in
/-- slices.Delete(s, k, k + 1). -/
theorem tdel {w : World} {base g cap k : Nat} {l : List Tm} (h : OwT w base (.slice (some ⟨g, 0, none⟩) l.length cap) l) (hk : k < l.length) :
    Calls Try.prog 29 #[.slice (some ⟨g, 0, none⟩) l.length cap, .int .i64 k, .int .i64 ((k + 1 : Nat) : Int)] w fun e w' =>
      e = .returned (.slice (some ⟨g, 0, none⟩) (l.length - 1) cap) ∧ OwT w' base (.slice (some ⟨g, 0, none⟩) (l.length - 1) cap) (l.eraseIdx k) ∧ Touch (fun i => i = g) w w' := by
  obtain ⟨cur, hg, hcl, hct, hlc, hcm, hbg, -⟩ := owT_cur h
  obtain ⟨n, hn⟩ : ∃ n, n = l.length := ⟨_, rfl⟩
  have hrd := h.rd
  obtain ⟨news, hnews⟩ : ∃ news, news = ecells Tm.cs (l.drop (k + 1)) := ⟨_, rfl⟩
  have hnl : news.length = (n - (k + 1)) * 3 := by rw [hnews, ecells_length tm_len, List.length_drop, hn]
  have hn1 : ∀ u ∈ news, u.oneCell' = true := by rw [hnews]; exact ecells_one tm_one _
  obtain ⟨A, hA, hsrc⟩ : ∃ A : Addr, (if cap = k + 1 then some (⟨g, 0, none⟩ : Addr) else some ⟨g, (k + 1) * 3, none⟩) = some A ∧ Hid (∀ j u, news[j]? = some u → w.drew.cell? (A.add j) = some u) := by
    by_cases hc : cap = k + 1
    · refine ⟨⟨g, 0, none⟩, by simp [hc], fun j u hu => ?_⟩
      have h0 : news.length = 0 := by rw [hnl]; omega
      rw [List.length_eq_zero_iff.1 h0] at hu
      simp at hu
    · refine ⟨⟨g, (k + 1) * 3, none⟩, by simp [hc], fun j u hu => ?_⟩
      rw [hnews, ecells_drop tm_len, List.getElem?_drop] at hu
      obtain ⟨A', c', e, _, _, h3⟩ := hrd
      injection e with e1
      rcases h3 with h0 | ⟨b, o, ha, _, hc⟩
      · rw [h0] at hk; simp at hk
      · rw [← e1] at ha
        injection ha with ha
        injection ha with ha1 ha2
        subst ha1 ha2
        have := hc _ _ hu
        rw [Nat.zero_add] at this
        rw [add_lit]
        exact this
  have HNL := Lib.hid hnl
  have HN1 := Lib.hid hn1
  have HG := Lib.hid hg
  have HCL := Lib.hid hcl
  obtain ⟨row1, hrow1⟩ : ∃ row1, row1 = cur.take (k * 3) ++ news ++ cur.drop (k * 3 + news.length) := ⟨_, rfl⟩
  have hr1l : row1.length = cap * 3 := by
    rw [hrow1, List.length_append, List.length_append, List.length_take, List.length_drop, hcl, hnl]; omega
  have hr1t : row1.take ((n - 1) * 3) = ecells Tm.cs (l.eraseIdx k) := by
    rw [eraseIdx_cells l k, ecells_take tm_len, ← hct, List.take_take, Nat.min_eq_left (by omega), ← hnews, hrow1, List.take_append_of_le_length (by rw [List.length_append, List.length_take, hnl, hcl]; omega), List.take_of_length_le (by rw [List.length_append, List.length_take, hnl, hcl]; omega)]
  have HR1 := Lib.hid hrow1
  have hW1 : (w.drew.setRow g row1.toArray).heap[g]? = some (.cells row1.toArray 60 (0, 0)) := setRow_heap w.drew g cur.toArray _ _ _ hg
  obtain ⟨row2, hrow2⟩ : ∃ row2, row2 = row1.take ((n - 1) * 3) ++ [Value.int .i64 0, Value.int .i64 0, Value.int .i64 0] ++ row1.drop ((n - 1) * 3 + 3) := ⟨_, rfl⟩
  have hclr : ∀ ty c, (Builtin.clear_ #[54] ty #[.slice (some ⟨g, (n - 1) * 3, none⟩) 1 c]).run Try.prog (w.drew.setRow g row1.toArray) = .ok (.tuple #[]) ((w.drew.setRow g row1.toArray).setRow g row2.toArray) := fun ty c => by
    rw [hrow2]
    exact run_clearT (w := w.drew.setRow g row1.toArray) (g := g) (off := (n - 1) * 3) (c := c) ty hW1 (by rw [hr1l]; omega)
  have HR2 := Lib.hid hrow2
  clear hrow2
  have hec : (l.eraseIdx k).length = n - 1 := by rw [List.length_eraseIdx_of_lt hk, hn]
  rw [← hn]
  rw [← hn] at hk hlc
  have hk1 : k + 1 ≤ n := by omega
  have HF := Lib.hid (And.intro hr1l hr1t)
  have HEC := Lib.hid hec
  have HB := Lib.hid (And.intro hbg (And.intro hcm hlc))
  clear hg hcl hct hnl hn1 hnews hrow1 hr1l hr1t hec hrd h hn hbg
  have hcn : ¬ cap = n - 1 := by omega
  obtain ⟨j, hj⟩ : ∃ j, j = k + 1 := ⟨_, rfl⟩
  rw [← hj] at hA HNL hk1 ⊢
  have hic : k ≤ cap := by omega
  have hjc : j ≤ cap := by omega
  have hkj : k ≤ j := by omega
  have hne : ¬ k = j := by omega
  have e1 : k + (n - j) = n - 1 := by omega
  have e2 : n - (n - 1) = 1 := by omega
  have e3 : n - 1 ≤ n := by omega
  have e4 : n - 1 ≤ cap := by omega
  have HJ := Lib.hid hj
  clear hj
  go_enter Try.func29, Try.ntmps29
  go_upto_region 5 with (fail)
  go_region_law (refine step_roomT rfl (.tmp 22) (.tmp 25) rfl (n := k) (cap := cap) (m := n - j) (c := cap - j) HG.out A news HNL.out hsrc.out HN1.out (by omega) (by rw [HNL.out, HCL.out]; omega) (by simp [Act.eval, Act.put]) (by simp [Act.eval, Act.put]) ?_; rw [← HR1.out])
  go_wp2
  go_ret
  have hg2 : ((w.drew.setRow g row1.toArray).setRow g row2.toArray).heap[g]? = some (.cells row2.toArray 60 (0, 0)) := setRow_heap _ g row1.toArray _ _ _ hW1
  refine ⟨rfl, ⟨by rw [ecells_length tm_len], .inr ⟨g, cap, _, by rw [HEC.out], HB.out.1, hg2, by rw [HEC.out]; exact e4, HB.out.2.1, ?_, ?_⟩⟩, ?_⟩
  · have := HF.out.1
    rw [HR2.out]
    simp only [List.size_toArray, List.length_append, List.length_take, List.length_drop, List.length_cons, List.length_nil]
    omega
  · have := HF.out.1
    rw [HEC.out, HR2.out, List.toList_toArray, List.append_assoc, List.take_append_of_le_length (by rw [List.length_take]; omega), List.take_of_length_le (by rw [List.length_take]; omega)]
    exact HF.out.2
  · have t1 : Touch (fun i => i = g) w (w.drew.setRow g row1.toArray) := ((Touch.refl (fun i => i = g) w).drew).trans (Touch.rowB (g := g) (t := 60) (old := cur.toArray) w.drew HG.out)
    exact t1.trans (Touch.rowB (g := g) (t := 60) (old := row1.toArray) _ hW1)
end Go.Proofs.Ytcnfcohfogbfhaa
