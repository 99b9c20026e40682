/- From a walk to the row: one law for all of this seat's rows: 'it answers true, below the heap's old size nothing has turned'. -/
import Derived.Test.YtbhdojpgjmbogaaDoorRows
import Derived.Test.YtbhdojpgjmbogaaDoorPseudo
import Derived.WalkKit
import Derived.ProofKit
import Derived.OpenShut
import Derived.SizedLaws
namespace Go.Proofs.YtbhdojpgjmbogaaDoor
open Go.ChangeShapes Go.WideShapes Go.ChangeAt Go.RowKit
set_option maxRecDepth 100000
theorem Tryd.own : ownKnob Tryd.prog.godebug = none := by kernel_rfl
theorem Tryd.laidOut : laidOutB Tryd.prog = true := by kernel_rfl
theorem Tryd.cells_u8 : Tryd.prog.cellsOf 5 = 1 := by kernel_rfl
theorem Tryd.bytes_u8 : Tryd.prog.bytesOf 5 = 1 := by kernel_rfl
theorem Tryd.cells_ip : Tryd.prog.cellsOf 23 = 4 := by kernel_rfl
theorem post_of_below {H : Type} {enc : TypeId × Value → H} {P : Program} {f : Func} {s : ChangeSpec} {apart fresh handsOn again : Bool} {W W' : World} {args : Array Value} {v : Value} {ds gs : List (DataW H)} {before pa pv : List MemPlace}
    (hW : DataW.Whole enc P f.params.toList s.vars apart W args.toList ds gs before)
    (hres : ∀ (b : Nat) (sp : Nat → Bool) (hd : Bool), DataW.TrodAll enc P W' b sp hd f.resultTypes.toList (v.resultList f.resultTypes.size) (s.fn H (ds ++ gs)).results [])
    (hargs : ∀ sp : Nat → Bool, (∀ p ∈ before, sp p.block = true) → DataW.TrodAll enc P W' 0 sp true f.params.toList args.toList (s.fn H (ds ++ gs)).args pa)
    (hvars : ∀ sp : Nat → Bool, (∀ p ∈ before, sp p.block = true) → DataW.TrodVars enc P W' sp s.vars (s.fn H (ds ++ gs)).vars pv)
    (hps : before = pa ++ pv) (hb : Below W.heap.size W W')
    (hok : ∀ (j : Nat) (t : TypeId) (r : Value), f.resultTypes[j]? = some t → (v.resultList f.resultTypes.size)[j]? = some r → Value.okWide P W' .any 0 t r) :
    s.post enc P f apart fresh handsOn again W args v W' := by
  have hlt : ∀ p ∈ before, p.block < W.heap.size := fun p hp => hW.lt p hp
  have hold : ∀ p ∈ before, (fun b => decide (b < W.heap.size)) p.block = true := fun p hp => by simpa using hlt p hp
  refine ⟨ds, gs, before, [], pa, pv, hW, hres _ _ _, hargs _ hold, hvars _ hold, World.keptBut_mono (fun p hp => ⟨hp, ?_⟩) (hb.frame (· ∈ before)), fun _ => ?_⟩
  · rw [hps, List.mem_append] at hp
    exact Or.inr hp
  · obtain ⟨_, _, _, _, _, hz, hn⟩ := hW
    refine ⟨hok, _, _, ([] ++ pa) ++ pv, ⟨[] ++ pa, pv, trodAll_append (hargs _ (fun _ _ => rfl)) (hres _ _ _), hvars _ (fun _ _ => rfl), rfl, ?_, ?_⟩, ?_⟩
    · intro b off hp
      have hin : MemPlace.cell b off ∈ before := by rw [hps]; simpa using hp
      rw [hb.frozen (hlt _ hin)]
      exact hz b off hin
    · intro ha
      have := hn ha
      rw [hps] at this
      simpa using this
    · intro p hp _
      rw [hps]
      simpa using hp
theorem okWide_bool_mk {P : Program} {W : World} {t : TypeId} {b : Bool} (ht : P.underlying t = some .bool) : Value.okWide P W .any 0 t (.bool b) := by
  simp [Value.okWide, Cell.okWide, Cell.ok, ht]
theorem okWide_u8 {P : Program} {W : World} {r : Reach} {base : Nat} {t : TypeId} {v : Value} (ht : P.underlying t = some (.int .u8)) (h : Cell.okWide P W r base t v) : ∃ x : UInt8, v = .int .u8 x.toNat := by
  cases v <;> simp [Cell.okWide, Cell.ok, ht] at h
  obtain ⟨rfl, h⟩ := h
  rename_i n
  simp [IntKind.has, IntKind.min, IntKind.max, IntKind.signed, IntKind.bits] at h
  refine ⟨UInt8.ofNat n.toNat, ?_⟩
  simp
  omega
theorem okWide_agg {P : Program} {W : World} {r : Reach} {base n : Nat} {t e : TypeId} {v : Value} (ht : P.underlying t = some (.array n e)) (h : Value.okWide P W r base t v) : ∃ cs, v = .agg cs ∧ cs.size = P.cellsOf t ∧ Row.okWide P W r base t cs := by
  simpa [Value.okWide, ht] using h
theorem four_cells {P : Program} {W : World} {r : Reach} {base : Nat} {t e : TypeId} {cs : Array Value} (hs : cs.size = 4) (hc : P.cellTypes P.depth t = some [e, e, e, e]) (he : P.underlying e = some (.int .u8)) (h : Row.okWide P W r base t cs) :
    ∃ a b c d : UInt8, cs = #[.int .u8 a.toNat, .int .u8 b.toNat, .int .u8 c.toNat, .int .u8 d.toNat] := by
  obtain ⟨ts, h1, _, h3⟩ := h
  obtain rfl : [e, e, e, e] = ts := Option.some.inj (hc.symm.trans h1)
  have key : ∀ i, (hi : i < 4) → ∃ x : UInt8, cs[i]'(by omega) = .int .u8 x.toNat := fun i hi => by
    obtain ⟨u, hu, hk⟩ := h3 i _ (Array.getElem?_eq_getElem (by omega))
    have hm : [e, e, e, e][i % [e, e, e, e].length]? = some e := by
      rcases i with _ | _ | _ | _ | i <;> first | rfl | omega
    obtain rfl : e = u := Option.some.inj (hm.symm.trans hu)
    exact okWide_u8 he hk
  obtain ⟨a, ha⟩ := key 0 (by omega)
  obtain ⟨b, hb⟩ := key 1 (by omega)
  obtain ⟨c, hc⟩ := key 2 (by omega)
  obtain ⟨d, hd⟩ := key 3 (by omega)
  refine ⟨a, b, c, d, Array.ext (by simpa using hs) fun i hi _ => ?_⟩
  match i, (show i < 4 by omega) with
  | 0, _ => simpa using ha
  | 1, _ => simpa using hb
  | 2, _ => simpa using hc
  | 3, _ => simpa using hd
theorem varTypes_nil {P : Program} {s : ChangeSpec} (hv : s.vars = []) : s.plain.varTypes P = [] := by
  simp [ChangeSpec.plain, DataSpec.varTypes, hv]
theorem Tryd.cellTypes_ip : Tryd.prog.cellTypes Tryd.prog.depth 23 = some [5, 5, 5, 5] := by kernel_rfl
section
variable {H : Type} {enc : TypeId × Value → H}
def rowed (P : Program) (ts : List TypeId) : Bool := ts.all fun t => P.readableRec t && decide (t < P.types.size)
theorem trodAll_stays {P : Program} (hl : laidOutB P = true) {W W' : World} (hb : Below W.heap.size W W') {sp : Nat → Bool} :
    ∀ {ts : List TypeId} {vs : List Value} {ds : List (DataW H)} {ps : List MemPlace}, rowed P ts = true → DataW.TrodAll enc P W 0 (fun _ => true) true ts vs ds ps → (∀ x ∈ ps, x.block < W.heap.size) → (∀ x ∈ ps, sp x.block = true) →
      DataW.TrodAll enc P W' 0 sp true ts vs ds ps
  | [], [], [], _, _, h, _, _ => h
  | t :: ts, v :: vs, d :: ds, ps, hr, h, hlt, hsp => by
    obtain ⟨p, q, h1, h2, rfl⟩ := h
    simp only [rowed, List.all_cons, Bool.and_eq_true, decide_eq_true_eq] at hr
    exact ⟨p, q, WideElems.Trod_stays hl hr.1.1 hr.1.2 h1 (fun x hx => hb.same (hlt x (by simp [hx]))) (fun x hx => hsp x (by simp [hx])),
      trodAll_stays hl hb (by simpa [rowed] using hr.2) h2 (fun x hx => hlt x (by simp [hx])) (fun x hx => hsp x (by simp [hx])), rfl⟩
  | [], _ :: _, _, _, _, h, _, _ => by cases h
  | [], [], _ :: _, _, _, h, _, _ => by cases h
  | _ :: _, [], _, _, _, h, _, _ => by cases h
  | _ :: _, _ :: _, [], _, _, h, _, _ => by cases h
/-- What a law's answer leaves: the post of its row. -/
theorem answered {f : Func} {s : ChangeSpec} {fresh handsOn again : Bool} {W W' : World} {args : Array Value} {ds : List (DataW H)} {before : List MemPlace}
    (hv : s.vars = []) (hr : f.resultTypes = #[4]) (hro : rowed Tryd.prog f.params.toList = true) (hf : s.fn H ds = { results := [.lit (.bool true)], args := ds })
    (hW : DataW.Whole enc Tryd.prog f.params.toList s.vars false W args.toList ds [] before) (hb : Below W.heap.size W W') :
    s.post enc Tryd.prog f false fresh handsOn again W args (.bool true) W' := by
  have hlt : ∀ p ∈ before, p.block < W.heap.size := fun p hp => hW.lt p hp
  have hW' := hW
  obtain ⟨p, q, hA, hV, rfl, _, _⟩ := hW'
  rw [hv] at hV
  obtain ⟨_, rfl⟩ := trodVars_none hV
  refine post_of_below (pa := p) (pv := []) hW (fun b sp hd => ?_) (fun sp hsp => ?_) (fun sp _ => ?_) rfl hb (ok_one hr rfl ?_)
  · rw [hr, List.append_nil, hf]
    exact trodAll_mk1 (shut_bool Tryd.underlying4 _)
  · rw [List.append_nil, hf]
    exact trodAll_stays Tryd.laidOut hb hro hA (fun x hx => hlt x (by simp [hx])) (fun x hx => hsp x (by simp [hx]))
  · rw [List.append_nil, hf, hv]
    rfl
  · exact okWide_bool_mk Tryd.underlying4
/-- The contract a law's row asks of its walk. -/
def Walked (fid : FuncId) (fn : Func) : Prop :=
  ∀ {H : Type} {enc : TypeId × Value → H} (W : World) (base : Nat) (args : Array Value) (ds : List (DataW H)) (p : List MemPlace),
    (∀ (j : Nat) t v, fn.params[j]? = some t → args[j]? = some v → Value.okWide Tryd.prog W .any base t v) →
    DataW.TrodAll enc Tryd.prog W 0 (fun _ => true) true fn.params.toList args.toList ds p →
    (DataW.weightsEach Tryd.prog fn.params.toList ds).all (· ≤ reachBytes) = true →
    Calls Tryd.prog fid args W fun e W' => e = .returned (.bool true) ∧ Below W.heap.size W W'
theorem lifted {os : Os} (started : os.Started) {fid : FuncId} {fn : Func} {s : ChangeSpec} {conds : List PathCond} {fresh handsOn again : Bool} (noInit : Tryd.checked.prog.inits.idxOf? fid = none) (hfn : Tryd.checked.prog.funcs[fid]? = some fn)
    (witness : ∃ (w : World) (tape : Tape) (i : Input), w.os = os ∧ (w.forCall tape i).Shaped Tryd.checked.prog ∧ i.vars = [] ∧ Input.okWide Tryd.checked.prog (w.forCall tape i) .any w.heap.size fid i ∧
      s.pre6 enc Tryd.checked.prog fn conds false (w.forCall tape i).memory i.args ∧ ({} : Assume).holds Tryd.checked.prog (lone (Frame.enter Tryd.checked.prog fid i.args .normal) [] (w.forCall tape i)))
    (hv : s.vars = []) (hr : fn.resultTypes = #[4]) (hro : rowed Tryd.prog fn.params.toList = true) (hf : ∀ ds : List (DataW H), ds.length = fn.params.toList.length → s.fn H ds = { results := [.lit (.bool true)], args := ds })
    (walk : Walked fid fn) : ReturnsInHanded {} Tryd.checked os fid .any (s.pre6 enc Tryd.checked.prog fn conds false) (s.post enc Tryd.checked.prog fn false fresh handsOn again) := by
  refine returnsInHanded_of_change_sized (C := Tryd.checked) Tryd.own started noInit hfn witness ?_
  intro W base args ds gs before hval hW _ hsz _
  have hW' := hW
  obtain ⟨p, q, hA, hV, rfl, _, _⟩ := hW'
  have hvt : s.plain.varTypes Tryd.checked.prog = [] := varTypes_nil hv
  have hV' := hV
  rw [hv] at hV'
  obtain ⟨rfl, rfl⟩ := trodVars_none hV'
  rw [hvt, List.append_nil, List.append_nil] at hsz
  have hlen : ∀ {ts : List TypeId} {vs : List Value} {ds : List (DataW H)} {ps : List MemPlace}, DataW.TrodAll enc Tryd.checked.prog W 0 (fun _ => true) true ts vs ds ps → ds.length = ts.length := by
    intro ts
    induction ts with
    | nil => intro vs ds ps h; cases vs <;> cases ds <;> first | rfl | cases h
    | cons t ts ih =>
      intro vs ds ps h
      match vs, ds, h with
      | v :: vs, d :: ds, ⟨_, _, _, h2, _⟩ => simp [ih h2]
      | [], [], h => cases h
      | [], _ :: _, h => cases h
      | _ :: _, [], h => cases h
  exact (walk W base args ds p hval hA hsz).mono fun e W' ⟨he, hb⟩ => ⟨_, he, answered hv hr hro (hf ds (hlen hA)) hW hb⟩
theorem open_ip {W : World} {base : Nat} {v : Value} (h : Value.okWide Tryd.prog W .any base 23 v) : ∃ i : IP, v = i.v := by
  obtain ⟨cs, rfl, h2, h3⟩ := okWide_agg Tryd.underlying23 h
  obtain ⟨a, b, c, d, rfl⟩ := four_cells (h2.trans Tryd.cells_ip) Tryd.cellTypes_ip Tryd.underlying5 h3
  exact ⟨⟨a, b, c, d⟩, rfl⟩
theorem open_i64 {W : World} {base : Nat} {v : Value} (h : Value.okWide Tryd.prog W .any base 3 v) : ∃ n : Int, v = .int .i64 n := okWide_int Tryd.underlying3 h
theorem open_bytes {W : World} {v : Value} {d : DataW H} {p : List MemPlace} {base : Nat} (hval : Value.okWide Tryd.prog W .any base 24 v) (h : DataW.Trod enc Tryd.prog W 0 (fun _ => true) true 24 v d p)
    {ts : List TypeId} {ds : List (DataW H)} {j : Nat} (ht : ts[j]? = some 24) (hd : ds[j]? = some d) (hsz : (DataW.weightsEach Tryd.prog ts ds).all (· ≤ reachBytes) = true) :
    ∃ l : List UInt8, Rd W v l ∧ l.length ≤ 140737488351232 := by
  obtain ⟨a1, len, cap, rfl⟩ := okWide_slice Tryd.underlying24 hval
  obtain ⟨fuel, hf⟩ := h
  rcases open_ints Tryd.underlying24 Tryd.underlying5 Tryd.cells_u8 hf with ⟨hcs, hx⟩ | ⟨a, len', cap', zs, hcs, _, hl, hm, hz, hx, hcell, hwz⟩
  · simp [Value.cells] at hcs
    obtain ⟨rfl, rfl, rfl⟩ := hcs
    exact ⟨[], ⟨none, 0, rfl, Nat.le_refl _, Nat.zero_le _, .inl rfl⟩, Nat.zero_le _⟩
  · simp [Value.cells] at hcs
    obtain ⟨rfl, rfl, rfl⟩ := hcs
    simp only [Prod.mk.injEq] at hx
    obtain ⟨rfl, rfl⟩ := hx
    simp only [if_true] at hz
    have hlen : ((zs.take len).map fun n => UInt8.ofNat n.toNat).length = len := by simp; omega
    refine ⟨(zs.take len).map fun n => UInt8.ofNat n.toNat, ⟨some a, cap, by rw [List.length_map, hlen], by rw [List.length_map, hlen]; exact hl, hm, ?_⟩, ?_⟩
    · by_cases h0 : len = 0
      · exact .inl (by simp [h0])
      · obtain ⟨ab, ao, spot⟩ := a
        have hspot : spot = none := by simpa [Addr.add] using World.cell?_spot (hcell 0 (by omega))
        subst hspot
        have hlt : ab < W.heap.size := by
          have h0' := hcell 0 (by omega)
          simp only [Addr.add_lit, World.cell?] at h0'
          cases hh : W.heap[ab]? with
          | none => simp [hh] at h0'
          | some o => exact (Array.getElem?_eq_some_iff.1 hh).1
        refine .inr ⟨ab, ao, rfl, hlt, fun j u hu => ?_⟩
        rw [List.getElem?_map] at hu
        obtain ⟨x, hx, rfl⟩ := Option.map_eq_some_iff.1 hu
        rw [List.getElem?_map] at hx
        obtain ⟨z, hz', rfl⟩ := Option.map_eq_some_iff.1 hx
        have hj : j < len := by
          have := (List.getElem?_eq_some_iff.1 hz').1
          simp at this
          omega
        have hzj : zs[j]? = some z := by rw [← hz', List.getElem?_take, if_pos hj]
        have hcj := hcell j (by omega)
        rw [Addr.add_lit] at hcj
        rw [hcj, List.getD_eq_getElem?_getD, hzj]
        have hw := range_u8 hwz j
        rw [hzj] at hw
        simp only [Option.getD_some] at hw
        simp only [bv, Option.getD_some, UInt8.toNat_ofNat']
        congr 2
        omega
    · have := sized_slice hsz ht hd Tryd.underlying24
      rw [Tryd.bytes_u8] at this
      simp only [lits, List.length_map, List.length_take, List.length_drop, reachBytes] at this
      rw [hlen]
      omega
end
end Go.Proofs.YtbhdojpgjmbogaaDoor
