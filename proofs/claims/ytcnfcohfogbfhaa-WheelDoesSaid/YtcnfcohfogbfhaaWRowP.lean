/- From a walk to the row: one law for all rows of this seat; lists of numbers and of calls as they came in. -/
import Derived.Test.YtcnfcohfogbfhaaRows
import Derived.Test.YtcnfcohfogbfhaaWBase
import Derived.Test.YtcnfcohfogbfhaaWRow
import Derived.ProofKit
import Derived.OpenShut
import Derived.SizedLaws
import Derived.Deep.Slices
namespace Go.Proofs.Ytcnfcohfogbfhaa
open Go.ChangeShapes Go.WideShapes Go.ChangeAt Go.RowKit Go.Deep
set_option maxRecDepth 100000
theorem Try.own : ownKnob Try.prog.godebug = none := by kernel_rfl
theorem Try.laidOut : laidOutB Try.prog = true := by kernel_rfl
section
variable {H : Type} {enc : TypeId × Value → H}
theorem post_of_below {H : Type} {enc : TypeId × Value → H} {P : Program} {f : Func} {s : ChangeSpec} {apart fresh handsOn again : Bool} {W W' : World} {args : Array Value} {v : Value} {ds gs : List (DataW H)} {before pa pv : List MemPlace}
    (hW : DataW.Whole enc P f.params.toList s.vars apart W args.toList ds gs before)
    (hres : ∀ (b : Nat) (sp : Nat → Bool) (hd : Bool), DataW.TrodAll enc P W' b sp hd f.resultTypes.toList (v.resultList f.resultTypes.size) (s.fn H (ds ++ gs)).results [])
    (hargs : ∀ sp : Nat → Bool, (∀ p ∈ before, sp p.block = true) → DataW.TrodAll enc P W' 0 sp true f.params.toList args.toList (s.fn H (ds ++ gs)).args pa)
    (hvars : ∀ sp : Nat → Bool, (∀ p ∈ before, sp p.block = true) → DataW.TrodVars enc P W' sp s.vars (s.fn H (ds ++ gs)).vars pv)
    (hps : before = pa ++ pv) (hb : Below W.heap.size W W')
    (hok : ∀ (j : Nat) (t : TypeId) (r : Value), f.resultTypes[j]? = some t → (v.resultList f.resultTypes.size)[j]? = some r → Value.okWide P W' .any 0 t r) :
    s.post enc P f apart fresh handsOn again W args v W' := by
  have hlt : ∀ p ∈ before, p.block < W.heap.size := fun p hp => hW.lt p hp
  have hold : ∀ p ∈ before, (fun b => decide (b < W.heap.size)) p.block = true := fun p hp => by simpa using hlt p hp
  refine ⟨ds, gs, before, [], pa, pv, hW, hres _ _ _, hargs _ hold, hvars _ hold, World.keptBut_mono (fun p hp => ⟨hp, ?_⟩) (hb.frame (· ∈ before)), fun _ => ?_⟩
  · rw [hps, List.mem_append] at hp
    exact Or.inr hp
  · obtain ⟨_, _, _, _, _, hz, hn⟩ := hW
    refine ⟨hok, _, _, ([] ++ pa) ++ pv, ⟨[] ++ pa, pv, trodAll_append (hargs _ (fun _ _ => rfl)) (hres _ _ _), hvars _ (fun _ _ => rfl), rfl, ?_, ?_⟩, ?_⟩
    · intro b off hp
      have hin : MemPlace.cell b off ∈ before := by rw [hps]; simpa using hp
      rw [hb.frozen (hlt _ hin)]
      exact hz b off hin
    · intro ha
      have := hn ha
      rw [hps] at this
      simpa using this
    · intro p hp _
      rw [hps]
      simpa using hp
theorem okWide_bool_mk {P : Program} {W : World} {t : TypeId} {b : Bool} (ht : P.underlying t = some .bool) : Value.okWide P W .any 0 t (.bool b) := by
  simp [Value.okWide, Cell.okWide, Cell.ok, ht]
theorem varTypes_nil {P : Program} {s : ChangeSpec} (hv : s.vars = []) : s.plain.varTypes P = [] := by
  simp [ChangeSpec.plain, DataSpec.varTypes, hv]
def rowed (P : Program) (ts : List TypeId) : Bool := ts.all fun t => P.readableRec t && decide (t < P.types.size)
theorem trodAll_stays {P : Program} (hl : laidOutB P = true) {W W' : World} (hb : Below W.heap.size W W') {sp : Nat → Bool} :
    ∀ {ts : List TypeId} {vs : List Value} {ds : List (DataW H)} {ps : List MemPlace}, rowed P ts = true → DataW.TrodAll enc P W 0 (fun _ => true) true ts vs ds ps → (∀ x ∈ ps, x.block < W.heap.size) → (∀ x ∈ ps, sp x.block = true) →
      DataW.TrodAll enc P W' 0 sp true ts vs ds ps
  | [], [], [], _, _, h, _, _ => h
  | t :: ts, v :: vs, d :: ds, ps, hr, h, hlt, hsp => by
    obtain ⟨p, q, h1, h2, rfl⟩ := h
    simp only [rowed, List.all_cons, Bool.and_eq_true, decide_eq_true_eq] at hr
    exact ⟨p, q, WideElems.Trod_stays hl hr.1.1 hr.1.2 h1 (fun x hx => hb.same (hlt x (by simp [hx]))) (fun x hx => hsp x (by simp [hx])),
      trodAll_stays hl hb (by simpa [rowed] using hr.2) h2 (fun x hx => hlt x (by simp [hx])) (fun x hx => hsp x (by simp [hx])), rfl⟩
  | [], _ :: _, _, _, _, h, _, _ => by cases h
  | [], [], _ :: _, _, _, h, _, _ => by cases h
  | _ :: _, [], _, _, _, h, _, _ => by cases h
  | _ :: _, _ :: _, [], _, _, h, _, _ => by cases h
/-- What a law's answer leaves: the post of its row. -/
theorem answered {f : Func} {s : ChangeSpec} {fresh handsOn again : Bool} {W W' : World} {args : Array Value} {ds : List (DataW H)} {before : List MemPlace}
    (hv : s.vars = []) (hr : f.resultTypes = #[4]) (hro : rowed Try.prog f.params.toList = true) (hf : s.fn H ds = { results := [.lit (.bool true)], args := ds })
    (hW : DataW.Whole enc Try.prog f.params.toList s.vars false W args.toList ds [] before) (hb : Below W.heap.size W W') :
    s.post enc Try.prog f false fresh handsOn again W args (.bool true) W' := by
  have hlt : ∀ p ∈ before, p.block < W.heap.size := fun p hp => hW.lt p hp
  have hW' := hW
  obtain ⟨p, q, hA, hV, rfl, _, _⟩ := hW'
  rw [hv] at hV
  obtain ⟨_, rfl⟩ := trodVars_none hV
  refine post_of_below (pa := p) (pv := []) hW (fun b sp hd => ?_) (fun sp hsp => ?_) (fun sp _ => ?_) rfl hb (ok_one hr rfl ?_)
  · rw [hr, List.append_nil, hf]
    exact trodAll_mk1 (shut_bool Try.underlying4 _)
  · rw [List.append_nil, hf]
    exact trodAll_stays Try.laidOut hb hro hA (fun x hx => hlt x (by simp [hx])) (fun x hx => hsp x (by simp [hx]))
  · rw [List.append_nil, hf, hv]
    rfl
  · exact okWide_bool_mk Try.underlying4
/-- The contract a law's row asks of its walk. -/
def Walked (fid : FuncId) (fn : Func) : Prop :=
  ∀ {H : Type} {enc : TypeId × Value → H} (W : World) (base : Nat) (args : Array Value) (ds : List (DataW H)) (p : List MemPlace),
    (∀ (j : Nat) t v, fn.params[j]? = some t → args[j]? = some v → Value.okWide Try.prog W .any base t v) →
    DataW.TrodAll enc Try.prog W 0 (fun _ => true) true fn.params.toList args.toList ds p →
    (DataW.weightsEach Try.prog fn.params.toList ds).all (· ≤ reachBytes) = true →
    Calls Try.prog fid args W fun e W' => e = .returned (.bool true) ∧ Below W.heap.size W W'
theorem lifted {os : Os} (started : os.Started) {fid : FuncId} {fn : Func} {s : ChangeSpec} {conds : List PathCond} {fresh handsOn again : Bool} (noInit : Try.checked.prog.inits.idxOf? fid = none) (hfn : Try.checked.prog.funcs[fid]? = some fn)
    (witness : ∃ (w : World) (tape : Tape) (i : Input), w.os = os ∧ (w.forCall tape i).Shaped Try.checked.prog ∧ i.vars = [] ∧ Input.okWide Try.checked.prog (w.forCall tape i) .any w.heap.size fid i ∧
      s.pre6 enc Try.checked.prog fn conds false (w.forCall tape i).memory i.args ∧ ({} : Assume).holds Try.checked.prog (lone (Frame.enter Try.checked.prog fid i.args .normal) [] (w.forCall tape i)))
    (hv : s.vars = []) (hr : fn.resultTypes = #[4]) (hro : rowed Try.prog fn.params.toList = true) (hf : ∀ ds : List (DataW H), ds.length = fn.params.toList.length → s.fn H ds = { results := [.lit (.bool true)], args := ds })
    (walk : Walked fid fn) : ReturnsInHanded {} Try.checked os fid .any (s.pre6 enc Try.checked.prog fn conds false) (s.post enc Try.checked.prog fn false fresh handsOn again) := by
  refine returnsInHanded_of_change_sized (C := Try.checked) Try.own started noInit hfn witness ?_
  intro W base args ds gs before hval hW _ hsz _
  have hW' := hW
  obtain ⟨p, q, hA, hV, rfl, _, _⟩ := hW'
  have hvt : s.plain.varTypes Try.checked.prog = [] := varTypes_nil hv
  have hV' := hV
  rw [hv] at hV'
  obtain ⟨rfl, rfl⟩ := trodVars_none hV'
  rw [hvt, List.append_nil, List.append_nil] at hsz
  have hlen : ∀ {ts : List TypeId} {vs : List Value} {ds : List (DataW H)} {ps : List MemPlace}, DataW.TrodAll enc Try.checked.prog W 0 (fun _ => true) true ts vs ds ps → ds.length = ts.length := by
    intro ts
    induction ts with
    | nil => intro vs ds ps h; cases vs <;> cases ds <;> first | rfl | cases h
    | cons t ts ih =>
      intro vs ds ps h
      match vs, ds, h with
      | v :: vs, d :: ds, ⟨_, _, _, h2, _⟩ => simp [ih h2]
      | [], [], h => cases h
      | [], _ :: _, h => cases h
      | _ :: _, [], h => cases h
  exact (walk W base args ds p hval hA hsz).mono fun e W' ⟨he, hb⟩ => ⟨_, he, answered hv hr hro (hf ds (hlen hA)) hW hb⟩
theorem open_i64 {W : World} {base : Nat} {v : Value} (h : Value.okWide Try.prog W .any base 3 v) : ∃ n : Int, v = .int .i64 n := okWide_int Try.underlying3 h
theorem ini_of_wf {k : Int} (h : (Lit.int .i64 k).wf = true) : InI k := by
  simp [Lit.wf, IntKind.min, IntKind.max, IntKind.signed, IntKind.bits] at h
  unfold InI
  omega
theorem Try.cells_int : Try.prog.cellsOf 3 = 1 := by kernel_rfl
theorem Try.bytes_int : Try.prog.bytesOf 3 = 8 := by kernel_rfl
theorem cell_lt {w : World} {b o : Nat} {v : Value} (h : w.cell? ⟨b, o, none⟩ = some v) : b < w.heap.size := by
  simp only [World.cell?] at h
  cases hh : w.heap[b]? with
  | none => simp [hh] at h
  | some o => exact (Array.getElem?_eq_some_iff.1 hh).1
@[reducible] def ics (x : Int) : List Value := [.int .i64 x]
theorem i_len (x : Int) : (ics x).length = 1 := rfl
abbrev RdN := RdE ics
/-- A list of numbers that came in. -/
theorem open_nums {W : World} {v : Value} {d : DataW H} {p : List MemPlace} {base : Nat} (hval : Value.okWide Try.prog W .any base 40 v) (h : DataW.Trod enc Try.prog W 0 (fun _ => true) true 40 v d p)
    {ts : List TypeId} {ds : List (DataW H)} {j : Nat} (ht : ts[j]? = some 40) (hd : ds[j]? = some d) (hsz : (DataW.weightsEach Try.prog ts ds).all (· ≤ reachBytes) = true) :
    ∃ l : List Int, RdN W v l ∧ l.length ≤ 140737488351232 := by
  obtain ⟨a1, len, cap, rfl⟩ := okWide_slice Try.underlying40 hval
  obtain ⟨fuel, hf⟩ := h
  rcases open_slice Try.underlying40 hf with ⟨hcs, hx⟩ | ⟨a, len', cap', m, n, D, Pl, hcs, hb, hl, hm, hmm, hx, hel⟩
  · simp [Value.cells] at hcs
    obtain ⟨rfl, rfl, rfl⟩ := hcs
    exact ⟨[], RdE.nil _, Nat.zero_le _⟩
  · simp [Value.cells] at hcs
    obtain ⟨rfl, rfl, rfl⟩ := hcs
    simp only [if_true] at hmm
    have each : ∀ i, i < len → ∃ z : Int, W.cell? (a.add (i * 1)) = some (.int .i64 z) := by
      intro i hi
      obtain ⟨cs', h1, h2⟩ := hel i (by omega)
      rw [Try.cells_int] at h1
      obtain ⟨_, hlen, hcell⟩ := World.cells?_some h1
      match cs', hlen with
      | [v0], _ =>
        obtain ⟨k0, r0, _, w0⟩ := DataW.trod_int Try.underlying3 h2
        injection r0 with r0
        have e0 := hcell 0 (by omega)
        rw [add_add_eq, Nat.add_zero] at e0
        exact ⟨k0, by simpa [r0] using e0⟩
    obtain ⟨Z, hZ⟩ := choose_lt each
    refine ⟨(List.range len).map Z, ⟨some a, cap, by simp, by simpa using hl, hm, ?_⟩, ?_⟩
    · by_cases h0 : len = 0
      · exact .inl (by simp [h0])
      · right
        obtain ⟨ab, ao, spot⟩ := a
        have hspot : spot = none := by simpa [Addr.add] using World.cell?_spot (hZ 0 (by omega))
        subst hspot
        have hlt : ab < W.heap.size := by
          have h0' := hZ 0 (by omega)
          rw [Addr.add_lit] at h0'
          exact cell_lt h0'
        refine ⟨ab, ao, rfl, hlt, fun j u hu => ?_⟩
        have e1 : ecells ics ((List.range len).map Z) = ((List.range len).map Z).map (Value.int .i64) := by
          generalize (List.range len).map Z = L
          induction L with
          | nil => rfl
          | cons x L ih => rw [show ecells ics (x :: L) = ics x ++ ecells ics L from rfl, ih]; rfl
        rw [e1, List.getElem?_map, List.getElem?_map] at hu
        have hj : j < len := by
          rcases Nat.lt_or_ge j len with h | h
          · exact h
          · rw [List.getElem?_eq_none (by simpa using h)] at hu; simp at hu
        rw [List.getElem?_range hj] at hu
        simp only [Option.map_some, Option.some.injEq] at hu
        have := hZ j hj
        rw [Addr.add_lit, Nat.mul_one] at this
        rw [this, hu]
    · simp only [Prod.mk.injEq] at hx
      have := sized_slice hsz ht (by rw [hd, hx.1]) Try.underlying40
      rw [Try.bytes_int] at this
      simp only [List.length_map, List.length_range, reachBytes] at this
      simp only [List.length_map, List.length_range]
      omega
end
end Go.Proofs.Ytcnfcohfogbfhaa
