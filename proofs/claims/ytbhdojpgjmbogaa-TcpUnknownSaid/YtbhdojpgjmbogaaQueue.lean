/- Rows of datagrams: what a slice of them reads, what a call owns, and the law of append over them (the slice may begin anywhere in its block). -/
import Derived.Test.YtbhdojpgjmbogaaOps
import Derived.ArgAppend
import Derived.Deep.MidRow
namespace Go.Proofs.Ytbhdojpgjmbogaa
open Go.RowKit Go.Maps Go.Shelf
/-- A datagram as it lies in memory. -/
structure DG where
  s0 : UInt8
  s1 : UInt8
  s2 : UInt8
  s3 : UInt8
  port : Int
  da : Value
  bu : Value
deriving Inhabited
def DG.cells (d : DG) : List Value := [bv d.s0, bv d.s1, bv d.s2, bv d.s3, .int .i64 d.port, d.da, d.bu]
def DG.one (d : DG) : Prop := ∀ u ∈ d.cells, u.oneCell' = true
def dcells (D : List DG) : List Value := D.flatMap DG.cells
theorem dcells_length (D : List DG) : (dcells D).length = D.length * 7 := by
  induction D with
  | nil => rfl
  | cons d D ih => simp [dcells, List.flatMap_cons] at ih ⊢; rw [ih]; simp [DG.cells]; omega
theorem dcells_app (D E : List DG) : dcells (D ++ E) = dcells D ++ dcells E := by simp [dcells]
theorem dcells_one (d : DG) : dcells [d] = d.cells := by simp [dcells]
theorem dcells_at : ∀ (D : List DG) (k : Nat) (hk : k < D.length) (i : Nat), i < 7 → (dcells D)[k * 7 + i]? = D[k].cells[i]?
  | d :: D, 0, _, i, hi => by
    show (d.cells ++ dcells D)[0 * 7 + i]? = d.cells[i]?
    rw [Nat.zero_mul, Nat.zero_add, List.getElem?_append_left (by simpa [DG.cells] using hi)]
  | d :: D, k + 1, hk, i, hi => by
    show (d.cells ++ dcells D)[(k + 1) * 7 + i]? = _
    rw [List.getElem?_append_right (by simp [DG.cells]; omega)]
    have := dcells_at D k (by simpa using hk) i hi
    rw [show (k + 1) * 7 + i - d.cells.length = k * 7 + i by simp [DG.cells]; omega, this]
    rfl
/-- A row of datagrams of the call's own, which may begin anywhere in its block. -/
def QS (w : World) (base : Nat) (v : Value) (D : List DG) : Prop :=
  (v = .slice none 0 0 ∧ D = []) ∨ ∃ g o cap, v = .slice (some ⟨g, o, none⟩) D.length cap ∧ base ≤ g ∧ g < w.heap.size ∧ D.length ≤ cap ∧ cap ≤ maxLen ∧
    (∀ j, j < cap * 7 → (w.cell? ⟨g, o + j, none⟩).isSome = true ∧ w.frozen? ⟨g, o + j, none⟩ = false) ∧ ∀ (j : Nat) (u : Value), (dcells D)[j]? = some u → w.cell? ⟨g, o + j, none⟩ = some u
theorem QS.nil (w : World) (base : Nat) : QS w base (.slice none 0 0) [] := .inl ⟨rfl, rfl⟩
theorem QS.lt {w : World} {base : Nat} {v : Value} {D : List DG} (h : QS w base v D) {g : Nat} (hg : v.ownBlock = some g) : base ≤ g ∧ g < w.heap.size := by
  rcases h with ⟨rfl, _⟩ | ⟨g', o, cap, rfl, h1, h2, _⟩
  · simp [Value.ownBlock] at hg
  · simp [Value.ownBlock] at hg
    subst hg
    exact ⟨h1, h2⟩
theorem QS.same {w w' : World} {base : Nat} {v : Value} {D : List DG} (h : QS w base v D) (hs : w.heap.size ≤ w'.heap.size) (hb : ∀ g, v.ownBlock = some g → w'.heap[g]? = w.heap[g]?) : QS w' base v D := by
  rcases h with h | ⟨g, o, cap, rfl, h1, h2, h3, h4, h5, h6⟩
  · exact .inl h
  · have e := hb g rfl
    refine .inr ⟨g, o, cap, rfl, h1, Nat.lt_of_lt_of_le h2 hs, h3, h4, fun j hj => ?_, fun j u hu => ?_⟩
    · rw [World.cell?_of_block (w := w) (a := ⟨g, o + j, none⟩) e, World.frozen?_of_block (w := w) (a := ⟨g, o + j, none⟩) e]; exact h5 j hj
    · rw [World.cell?_of_block (w := w) (a := ⟨g, o + j, none⟩) e]; exact h6 j u hu
theorem QS.mono {w w' : World} {base : Nat} {v : Value} {D : List DG} (h : QS w base v D) (hb : Below w.heap.size w w') : QS w' base v D := h.same hb.size fun g hg => hb.block g (h.lt hg).2
theorem QS.less {w : World} {base base' : Nat} {v : Value} {D : List DG} (h : QS w base v D) (hb : base' ≤ base) : QS w base' v D := by
  rcases h with h | ⟨g, o, cap, rfl, h1, h2⟩
  · exact .inl h
  · exact .inr ⟨g, o, cap, rfl, Nat.le_trans hb h1, h2⟩
theorem QS.form {w : World} {base : Nat} {v : Value} {D : List DG} (h : QS w base v D) : ∃ A c, v = .slice A D.length c ∧ D.length ≤ c ∧ c ≤ 9223372036854775807 := by
  rcases h with ⟨rfl, rfl⟩ | ⟨g, o, cap, rfl, h1, h2, h3, h4, _⟩
  · exact ⟨none, 0, rfl, by simp, by omega⟩
  · exact ⟨_, cap, rfl, h3, h4⟩
/-- The cells of one of them. -/
theorem QS.at_ {w : World} {base : Nat} {A : Option Addr} {n c : Nat} {D : List DG} (h : QS w base (.slice A n c) D) (k : Nat) (hk : k < D.length) :
    ∃ b o, A = some ⟨b, o, none⟩ ∧ b < w.heap.size ∧ ∀ i u, D[k].cells[i]? = some u → w.cell? ⟨b, o + k * 7 + i, none⟩ = some u := by
  rcases h with ⟨_, rfl⟩ | ⟨g, o, cap, e, h1, h2, h3, h4, h5, h6⟩
  · simp at hk
  · injection e with e1 e2 e3
    refine ⟨g, o, e1, h2, fun i u hu => ?_⟩
    have hi : i < 7 := by
      have := (List.getElem?_eq_some_iff.1 hu).1
      simpa [DG.cells] using this
    have := h6 (k * 7 + i) u ((dcells_at D k hk i hi).trans hu)
    rwa [← Nat.add_assoc] at this
theorem setCells_grown (b : Nat) : ∀ (vs : List Value) (o : Nat) (w : World), w.grownBy (w.setCells b o vs) (some b)
  | [], _, w => World.grownBy.refl w _
  | v :: r, o, w => by
    have h := setCells_grown b r (o + 1) (w.setCell ⟨b, o, none⟩ v)
    refine ⟨h.os, h.tape, h.output, Nat.le_trans (by simp [World.setCell]) h.size, fun k hk hne => (h.block k (by simpa [World.setCell] using hk) hne).trans ?_⟩
    exact Below.heap_setCell w ⟨b, o, none⟩ v k (fun e => hne (by rw [e]))
/-- What is owned from its beginning on. -/
theorem QS.of_owns {w : World} {base n : Nat} {v : Value} {D : List DG} (h : w.ownsRow base 57 7 v n (dcells D)) (hn : n = D.length) : QS w base v D := by
  subst hn
  have hh := h
  rcases h.2 with ⟨rfl, h0⟩ | ⟨g, cap, cur, rfl, hb, hg, hn, hcap, hs, ht⟩
  · exact .inl ⟨rfl, List.eq_nil_of_length_eq_zero h0⟩
  · refine .inr ⟨g, 0, cap, rfl, hb, (owns_block_lt hh rfl).2, hn, hcap, fun j hj => ?_, fun j u hu => ?_⟩
    · rw [Nat.zero_add]
      refine ⟨?_, ?_⟩
      · rw [cell_of_row w g j cur _ (0, 0) hg, Array.getElem?_eq_getElem (by omega)]; rfl
      · simp [World.frozen?, hg]
    · have := hh.cells (g := g) rfl j u hu
      rwa [add_lit] at this
theorem dgram_info : (Try.prog.info? 57).map (fun i => (i.zero.map fun z => z.cells.size, i.size, i.bytes)) = some (some 7, 7, 64) := by kernel_rfl
/-- One run of append: one datagram more. -/
theorem run_appQ {w : World} (ty : TypeId) (base : Nat) (v : Value) (D : List DG) (d : DG) (ad : Addr) (c : Nat) (h : QS w base v D) (hnews : ∀ j u, d.cells[j]? = some u → w.cell? (ad.add j) = some u) (h1 : d.one)
    (hl : (D.length + 1) * 64 ≤ 140737488355328) (hbase : base ≤ w.heap.size) :
    ∃ v' w', (Builtin.append_ #[52, 52] ty #[v, .slice (some ad) 1 c]).run Try.prog w = .ok v' w' ∧ QS w' base v' (D ++ [d]) ∧ w.grownBy w' v.ownBlock ∧ (v'.ownBlock = v.ownBlock ∨ ∀ g, v'.ownBlock = some g → w.heap.size ≤ g) := by
  have hinfo := dgram_info
  cases hi : Try.prog.info? 57 with
  | none => rw [hi] at hinfo; cases hinfo
  | some i =>
    rw [hi] at hinfo
    simp only [Option.map_some, Option.some.injEq, Prod.mk.injEq] at hinfo
    obtain ⟨hz, hsz, hby⟩ := hinfo
    cases hz' : i.zero with
    | none => rw [hz'] at hz; cases hz
    | some z =>
      rw [hz'] at hz
      simp only [Option.map_some, Option.some.injEq] at hz
      have hsn : d.cells.length = 1 * 7 := rfl
      rcases h with ⟨rfl, rfl⟩ | ⟨g, o, cap, rfl, hb, hg, hn, hcap, hth, hc⟩
      · obtain ⟨v', w', hrun, h2, h3, _, h5⟩ := run_append_own_at (P := Try.prog) w base 52 ty 57 i z 7 64 Try.underlying52 hi hz' hsz hby hz (by decide) (.slice none 0 0) 0 [] (World.ownsRow_nil w base _ 7) ad 1 c d.cells hsn hnews h1 (by simp [maxLen]) (by simp) hbase
        refine ⟨v', w', hrun, QS.of_owns (n := 0 + 1) ?_ rfl, h3, h5.imp id fun e g hg => by rw [e] at hg; injection hg with hg; omega⟩
        simpa [dcells] using h2
      · by_cases hroom : D.length + 1 ≤ cap
        · have hst : ∀ j, j < d.cells.length → (w.cell? ⟨g, o + D.length * i.size + j, none⟩).isSome = true ∧ w.frozen? ⟨g, o + D.length * i.size + j, none⟩ = false := fun j hj => by
            rw [hsz, Nat.add_assoc]
            refine hth _ ?_
            have : d.cells.length = 7 := rfl
            omega
          have hr := run_append_room_cells (P := Try.prog) w 52 52 57 i Try.underlying52 hi g o D.length cap ad 1 c d.cells (by rw [hsz]; rfl) hnews h1 hroom (fun j hj => (hst j hj).1) (fun j hj => (hst j hj).2)
          have hr' : (Builtin.append_ #[52, 52] ty #[.slice (some ⟨g, o, none⟩) D.length cap, .slice (some ad) 1 c]).run Try.prog w = .ok (.slice (some ⟨g, o, none⟩) (D.length + 1) cap) (w.setCells g (o + D.length * i.size) d.cells) := hr
          have hgr := setCells_grown g d.cells (o + D.length * i.size) w
          refine ⟨_, _, hr', .inr ⟨g, o, cap, by simp, hb, Nat.lt_of_lt_of_le hg hgr.size, by simpa using hroom, hcap, fun j hj => ?_, fun j u hu => ?_⟩, hgr, .inl rfl⟩
          · rw [World.frozen?_setCells]
            exact ⟨World.isSome_setCells g d.cells _ w _ (hth j hj).1, (hth j hj).2⟩
          · rw [dcells_app, dcells_one] at hu
            have hlen := dcells_length D
            by_cases hj : j < (dcells D).length
            · rw [List.getElem?_append_left hj] at hu
              rw [World.cell?_setCells_out g d.cells _ w _ (fun _ _ => Or.inl (by show o + j < o + D.length * i.size; rw [hsz]; omega))]
              exact hc j u hu
            · rw [List.getElem?_append_right (by omega)] at hu
              obtain ⟨hj2, hu2⟩ := List.getElem?_eq_some_iff.1 hu
              have hin := World.cell?_setCells_in g d.cells (o + D.length * i.size) w (fun j hj => (hst j hj).1) (j - (dcells D).length) hj2
              rw [hu2] at hin
              rw [show o + j = o + D.length * i.size + (j - (dcells D).length) by rw [hsz]; omega]
              exact hin
        · have holds : ∀ j u, (dcells D)[j]? = some u → w.cell? ((⟨g, o, none⟩ : Addr).add j) = some u := fun j u hu => by rw [add_lit]; exact hc j u hu
          obtain ⟨v', w', hrun, h2, h3⟩ := run_append_arg_grows (P := Try.prog) w 52 ty 57 i z 7 64 Try.underlying52 hi hz' hsz hby hz (by decide) ⟨g, o, none⟩ D.length cap (dcells D) (dcells_length D) holds ad 1 c d.cells hsn hnews (by omega) (by unfold maxLen; omega) hl
          have h4 : QS w' w.heap.size v' (D ++ [d]) := QS.of_owns (n := D.length + 1) (by rw [dcells_app, dcells_one]; exact h2) (by simp)
          refine ⟨v', w', hrun, h4.less hbase, ⟨h3.os, h3.tape, h3.output, h3.size, fun k hk _ => h3.block k hk (by simp)⟩, .inr fun g hg => (h4.lt hg).1⟩
/-- append of one datagram, at the operation. -/
theorem wpList_appQ {ops : Array Oper} {rest : List Oper} {o : Oper} {a : Act} {Q : Exit → Act → World → Prop} {w : World} (hgd : o.guard = none) (s x : Operand)
    (ho : o.op = .call { callee := .builtin .append, args := #[s, x], argTypes := #[52, 52] })
    (base : Nat) {v : Value} {D : List DG} {d : DG} {ad : Addr} {c : Nat} (h : QS w base v D) (hs : a.eval s = v) (hx : a.eval x = .slice (some ad) 1 c)
    (hnews : ∀ j u, d.cells[j]? = some u → w.cell? (ad.add j) = some u) (h1 : d.one)
    (hl : (D.length + 1) * 64 ≤ 140737488355328) (hbase : base ≤ w.heap.size)
    (hK : ∀ v' w', QS w' base v' (D ++ [d]) → w.grownBy w' v.ownBlock → (v'.ownBlock = v.ownBlock ∨ ∀ g, v'.ownBlock = some g → w.heap.size ≤ g) → wpList Try.prog ops Q rest (a.put o.dst v') w') :
    wpList Try.prog ops Q (o :: rest) a w := by
  refine wpList_plain hgd fun K hK' => ?_
  obtain ⟨v', w', hrun, h2, h3, h4⟩ := run_appQ o.type base v D d ad c h hnews h1 hl hbase
  unfold Oper.wp execOp
  simp only [ho, resolve, invoke, builtin, Sem.run_bind, Sem.run_pure, Result.andThen_ok, List.map_toArray, List.map_cons, List.map_nil, hs, hx, hrun]
  exact hK' _ _ (hK v' w' h2 h3 h4)
end Go.Proofs.Ytbhdojpgjmbogaa
