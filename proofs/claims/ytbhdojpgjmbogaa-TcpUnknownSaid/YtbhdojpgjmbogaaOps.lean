/- A law's list of calls ([]Op) as it came in; rows of ints that a call owns. -/
import Derived.Test.YtbhdojpgjmbogaaRow
import Derived.Test.YtbhdojpgjmbogaaBind
import Derived.Deep.Slices
namespace Go.Proofs.Ytbhdojpgjmbogaa
open Go.RowKit Go.Maps Go.ChangeShapes Go.WideShapes Go.Deep
set_option maxRecDepth 100000
/-- A call. -/
structure Opn where
  kind : Int
  who : Int
  port : Int
deriving Inhabited
def Opn.In (o : Opn) : Prop := InI o.kind ∧ InI o.who ∧ InI o.port
/-- A slice of calls reads as a list. -/
def RdO (w : World) (v : Value) (l : List Opn) : Prop :=
  ∃ A c, v = .slice A l.length c ∧ l.length ≤ c ∧ c ≤ maxLen ∧ ∀ j (h : j < l.length), ∃ b o, A = some ⟨b, o, none⟩ ∧ b < w.heap.size ∧
    w.cell? ⟨b, o + j * 3, none⟩ = some (.int .i64 l[j].kind) ∧ w.cell? ⟨b, o + j * 3 + 1, none⟩ = some (.int .i64 l[j].who) ∧ w.cell? ⟨b, o + j * 3 + 2, none⟩ = some (.int .i64 l[j].port)
theorem RdO.mono {w w' : World} {v : Value} {l : List Opn} (h : RdO w v l) (hb : Below w.heap.size w w') : RdO w' v l := by
  obtain ⟨A, c, e, h1, h2, h3⟩ := h
  refine ⟨A, c, e, h1, h2, fun j hj => ?_⟩
  obtain ⟨b, o, e1, hlt, c0, c1, c2⟩ := h3 j hj
  exact ⟨b, o, e1, Nat.lt_of_lt_of_le hlt hb.size, (hb.cell (p := ⟨b, o + j * 3, none⟩) hlt).trans c0, (hb.cell (p := ⟨b, o + j * 3 + 1, none⟩) hlt).trans c1, (hb.cell (p := ⟨b, o + j * 3 + 2, none⟩) hlt).trans c2⟩
theorem Try.cells_op : Try.prog.cellsOf 42 = 3 := by kernel_rfl
theorem Try.cells_int : Try.prog.cellsOf 3 = 1 := by kernel_rfl
/-- The cell below a block. -/
theorem cell_lt {w : World} {b o : Nat} {v : Value} (h : w.cell? ⟨b, o, none⟩ = some v) : b < w.heap.size := by
  simp only [World.cell?] at h
  cases hh : w.heap[b]? with
  | none => simp [hh] at h
  | some o => exact (Array.getElem?_eq_some_iff.1 hh).1
theorem open_slice3 {H : Type} {enc : TypeId × Value → H} {P : Program} {w : World} {base : Nat} {spare : Nat → Bool} {held : Bool} {t e ty : TypeId} {f0 f1 f2 : Field} {fuel : Nat} {cs : List Value} {x : DataW H × List MemPlace} (ht : P.underlying t = some (.slice e)) (he : P.underlying e = some (.struct #[f0, f1, f2]))
    (ce : P.cellsOf e = 3) (o0 : f0.offset = 0) (o1 : f1.offset = 1) (o2 : f2.offset = 2) (t0 : f0.type = ty) (t1 : f1.type = ty) (t2 : f2.type = ty) (ht1 : P.cellsOf ty = 1) (hI : P.underlying ty = some (.int .i64))
    (h : DataW.trod enc P w base spare held fuel t cs = some x) :
    cs = [.slice none 0 0] ∨
    ∃ (a : Addr) (len cap : Nat) (Z : Nat → Opn), cs = [.slice (some a) len cap] ∧ len ≤ cap ∧ cap ≤ maxLen ∧
      ∀ i, i < len → w.cell? (a.add (i * 3)) = some (.int .i64 (Z i).kind) ∧ w.cell? (a.add (i * 3 + 1)) = some (.int .i64 (Z i).who) ∧ w.cell? (a.add (i * 3 + 2)) = some (.int .i64 (Z i).port) ∧
        (Lit.int .i64 (Z i).kind).wf = true ∧ (Lit.int .i64 (Z i).who).wf = true ∧ (Lit.int .i64 (Z i).port).wf = true := by
  rcases open_slice ht h with h0 | ⟨a, len, cap, m, n, D, Pl, rfl, hb, hl, hm, hmm, rfl, hx⟩
  · exact Or.inl h0.1
  right
  have hlm : len ≤ m := by rw [hmm]; split <;> omega
  have each : ∀ i, i < len → ∃ q : Opn, w.cell? (a.add (i * 3)) = some (.int .i64 q.kind) ∧ w.cell? (a.add (i * 3 + 1)) = some (.int .i64 q.who) ∧ w.cell? (a.add (i * 3 + 2)) = some (.int .i64 q.port) ∧
      (Lit.int .i64 q.kind).wf = true ∧ (Lit.int .i64 q.who).wf = true ∧ (Lit.int .i64 q.port).wf = true := by
    intro i hi
    obtain ⟨cs', h1, h2⟩ := hx i (by omega)
    rw [ce] at h1
    obtain ⟨_, hlen, hcell⟩ := World.cells?_some h1
    obtain ⟨xs, k, hk, hxy, _, hxl, hf⟩ := DataW.trod_struct he h2
    match xs, hxl, cs', hlen with
    | [y0, y1, y2], _, [v0, v1, v2], _ =>
      have g0 := hf 0 f0 rfl
      have g1 := hf 1 f1 rfl
      have g2 := hf 2 f2 rfl
      rw [t0] at g0
      rw [t1] at g1
      rw [t2] at g2
      simp [o0, o1, o2, ht1] at g0 g1 g2
      have e0 := hcell 0 (by omega)
      have e1 := hcell 1 (by omega)
      have e2 := hcell 2 (by omega)
      rw [add_add] at e0 e1 e2
      obtain ⟨k0, r0, _, w0⟩ := DataW.trod_int hI g0
      obtain ⟨k1, r1, _, w1⟩ := DataW.trod_int hI g1
      obtain ⟨k2, r2, _, w2⟩ := DataW.trod_int hI g2
      injection r0 with r0
      injection r1 with r1
      injection r2 with r2
      subst r0 r1 r2
      exact ⟨⟨k0, k1, k2⟩, by simpa using e0, by simpa using e1, by simpa using e2, w0, w1, w2⟩
  obtain ⟨q, hq⟩ := choose_lt each
  exact ⟨a, len, cap, q, rfl, hl, hm, hq⟩
theorem ini_of_wf {k : Int} (h : (Lit.int .i64 k).wf = true) : InI k := by
  simp [Lit.wf, IntKind.min, IntKind.max, IntKind.signed, IntKind.bits] at h
  unfold InI
  omega
/-- A list of calls that came in. -/
theorem open_ops {H : Type} {enc : TypeId × Value → H} {W : World} {v : Value} {d : DataW H} {p : List MemPlace} {base : Nat} (hval : Value.okWide Try.prog W .any base 34 v) (h : DataW.Trod enc Try.prog W 0 (fun _ => true) true 34 v d p) :
    ∃ l : List Opn, RdO W v l ∧ ∀ j (h : j < l.length), Opn.In l[j] := by
  obtain ⟨a1, len, cap, rfl⟩ := okWide_slice Try.underlying34 hval
  obtain ⟨fuel, hf⟩ := h
  rcases open_slice3 Try.underlying34 Try.underlying42 Try.cells_op rfl rfl rfl rfl rfl rfl Try.cells_int Try.underlying3 hf with hcs | ⟨a, len', cap', Z, hcs, hl, hm, hZ⟩
  · simp [Value.cells] at hcs
    obtain ⟨rfl, rfl, rfl⟩ := hcs
    exact ⟨[], ⟨none, 0, rfl, Nat.le_refl _, Nat.zero_le _, fun j hj => by simp at hj⟩, fun j hj => by simp at hj⟩
  · simp [Value.cells] at hcs
    obtain ⟨rfl, rfl, rfl⟩ := hcs
    refine ⟨(List.range len).map Z, ⟨some a, cap, by simp, by simpa using hl, hm, fun j hj => ?_⟩, fun j hj => ?_⟩
    · have hj' : j < len := by simpa using hj
      obtain ⟨c0, c1, c2, -⟩ := hZ j hj'
      obtain ⟨ab, ao, spot⟩ := a
      have hspot : spot = none := by simpa [Addr.add] using World.cell?_spot (hZ 0 (by omega)).1
      subst hspot
      rw [Addr.add_lit] at c0 c1 c2
      refine ⟨ab, ao, rfl, cell_lt c0, ?_, ?_, ?_⟩
      · simpa using c0
      · simpa [Nat.add_assoc] using c1
      · simpa [Nat.add_assoc] using c2
    · have hj' : j < len := by simpa using hj
      obtain ⟨_, _, _, w0, w1, w2⟩ := hZ j hj'
      simp only [List.getElem_map, List.getElem_range]
      exact ⟨ini_of_wf w0, ini_of_wf w1, ini_of_wf w2⟩
/-- A row of ints that a call owns. -/
def OwI (w : World) (base : Nat) (v : Value) (xs : List Int) : Prop := w.ownsRow base 3 1 v xs.length (xs.map (Value.int .i64))
theorem OwI.mono {w w' : World} {base : Nat} {v : Value} {l : List Int} (h : OwI w base v l) (hb : Below w.heap.size w w') : OwI w' base v l := owns_mono h hb
theorem OwI.nil (w : World) (base : Nat) : OwI w base (.slice none 0 0) [] := World.ownsRow_nil w base _ 1
theorem OwI.same {w w' : World} {base : Nat} {v : Value} {l : List Int} (h : OwI w base v l) (hb : ∀ g, v.ownBlock = some g → w'.heap[g]? = w.heap[g]?) : OwI w' base v l := owns_same h hb
theorem OwI.lt {w : World} {base : Nat} {v : Value} {l : List Int} (h : OwI w base v l) {g : Nat} (hg : v.ownBlock = some g) : base ≤ g ∧ g < w.heap.size := owns_block_lt h hg
theorem OwI.rd {w : World} {base : Nat} {v : Value} {l : List Int} (h : OwI w base v l) : RdV w v (l.map (Value.int .i64)) := by
  unfold OwI at h
  rw [← List.length_map (f := Value.int .i64)] at h
  exact owns_rdV h
theorem OwI.form {w : World} {base : Nat} {v : Value} {l : List Int} (h : OwI w base v l) : ∃ A c, v = .slice A l.length c ∧ l.length ≤ c ∧ c ≤ 9223372036854775807 := by
  obtain ⟨A, c, e, h1, h2, _⟩ := h.rd
  rw [List.length_map] at e h1
  exact ⟨A, c, e, h1, h2⟩
theorem OwI.at_ {w : World} {base : Nat} {A : Option Addr} {n c : Nat} {l : List Int} (h : OwI w base (.slice A n c) l) (k : Nat) (hk : k < l.length) :
    ∃ b o, A = some ⟨b, o, none⟩ ∧ w.cell? ⟨b, o + k, none⟩ = some (.int .i64 l[k]) := by
  obtain ⟨A', c', e, _, _, h3⟩ := h.rd
  injection e with e1 e2 e3
  subst e1
  rcases h3 with h | ⟨b, o, ha, hlt, hc⟩
  · simp at h; subst h; simp at hk
  · refine ⟨b, o, ha, hc k _ ?_⟩
    rw [List.getElem?_map, List.getElem?_eq_getElem hk]
    rfl
theorem int_info : (Try.prog.info? 3).map (fun i => (i.zero, i.size, i.bytes)) = some (some (.int .i64 0), 1, 8) := by kernel_rfl
/-- append of one int. -/
theorem wpList_appI {ops : Array Oper} {rest : List Oper} {o : Oper} {a : Act} {Q : Exit → Act → World → Prop} {w : World} (hgd : o.guard = none) (s x : Operand)
    (ho : o.op = .call { callee := .builtin .append, args := #[s, x], argTypes := #[51, 51] })
    (base : Nat) {v u : Value} {l : List Int} {y : Int} (hown : OwI w base v l) (hr : RdV w u [.int .i64 y]) (hs : a.eval s = v) (hx : a.eval x = u)
    (hbytes : l.length ≤ 65536) (hbase : base ≤ w.heap.size)
    (h : ∀ v' w', OwI w' base v' (l ++ [y]) → Below base w w' → Grew w w' v v' → wpList Try.prog ops Q rest (a.put o.dst v') w') :
    wpList Try.prog ops Q (o :: rest) a w := by
  refine wpList_plain hgd fun K hK => ?_
  obtain ⟨i, hi, hz, hz1, hz2⟩ := info_parts int_info
  have hown0 := hown
  unfold OwI at hown
  rw [← List.length_map (f := Value.int .i64)] at hown
  obtain ⟨v', w', hrun, h2, h3, h4⟩ := run_app 51 3 i _ 8 Try.underlying51 hi hz hz1 hz2 rfl o.type base v u (l.map (Value.int .i64)) [.int .i64 y] hown hr (by simp [Value.oneCell']) (by simp only [List.length_map, List.length_cons, List.length_nil, maxLen]; omega) (by simp only [List.length_map, List.length_cons, List.length_nil]; omega) hbase
  unfold Oper.wp execOp
  simp only [ho, resolve, invoke, builtin, Sem.run_bind, Sem.run_pure, Result.andThen_ok, List.map_toArray, List.map_cons, List.map_nil, hs, hx, hrun]
  refine hK _ _ (h v' w' ?_ (below_app hown0 h3 (Nat.le_refl _) hbase) ⟨h3, h4⟩)
  unfold OwI
  rw [show l.map (Value.int .i64) ++ [Value.int .i64 y] = (l ++ [y]).map (Value.int .i64) by simp, List.length_map] at h2
  exact h2
end Go.Proofs.Ytbhdojpgjmbogaa
