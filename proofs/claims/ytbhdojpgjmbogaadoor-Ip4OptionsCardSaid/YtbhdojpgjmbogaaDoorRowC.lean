/- Rows that list variables (as data and as a pinned table), and their cards: one law for all of this seat's. -/
import Derived.Test.YtbhdojpgjmbogaaDoorRow
import Derived.Test.YtbhdojpgjmbogaaDoorTie
import Derived.Test.YtbhdojpgjmbogaaDoorCards
import Derived.LaidMore
import Derived.Lay
import Derived.SevenTiedAt
import Derived.Stop.Joined
namespace Go.Proofs.YtbhdojpgjmbogaaDoor
open Go.ChangeShapes Go.WideShapes Go.ChangeAt Go.RowKit
set_option maxRecDepth 100000
section
variable {H : Type} {enc : TypeId × Value → H}
/-- What all of this seat's rows list. -/
def Tryd.laid : List (String × DataW Unit) := [("unicode/utf8.acceptRanges", Rows.laid_unicode_utf8_acceptRanges), ("unicode/utf8.first", Rows.laid_unicode_utf8_first)]
theorem Tryd.laid_met (os : Os) (args : Array Value) : laidMetH Tryd.prog Tryd.laid ((World.laidAll Tryd.prog os Tryd.laid).forCall (fun _ _ => 0) ⟨#[], args, []⟩).memory := by
  rw [MakeChecks.laidMetH_plain _ _ _ (by kernel_rfl)]
  exact laidMet_laidAll _ (by kernel_rfl) (by kernel_rfl)
theorem liftedC {os : Os} (started : os.Started) {fid : FuncId} {fn : Func} {s : ChangeSpec} {fresh handsOn again : Bool} (noInit : Tryd.checked.prog.inits.idxOf? fid = none) (hfn : Tryd.checked.prog.funcs[fid]? = some fn)
    (witness : ∃ (w : World) (tape : Tape) (i : Input), w.os = os ∧ (w.forCall tape i).Shaped Tryd.checked.prog ∧ i.vars = [] ∧ Input.okWide Tryd.checked.prog (w.forCall tape i) .any w.heap.size fid i ∧
      ((s.pre enc Tryd.checked.prog fn [] false (w.forCall tape i).memory i.args ∧ laidMetH Tryd.prog Tryd.laid (w.forCall tape i).memory) ∧ sizedMet enc Tryd.checked.prog fn (OpenSpec.ofChange s) false (w.forCall tape i).memory i.args) ∧ ({} : Assume).holds Tryd.checked.prog (lone (Frame.enter Tryd.checked.prog fid i.args .normal) [] (w.forCall tape i)))
    (hv : s.vars = []) (hr : fn.resultTypes = #[4]) (hro : rowed Tryd.prog fn.params.toList = true) (hf : ∀ ds : List (DataW H), ds.length = fn.params.toList.length → s.fn H ds = { results := [.lit (.bool true)], args := ds })
    (walk : Walked fid fn) : ReturnsInHanded {} Tryd.checked os fid .any (fun w args => (s.pre enc Tryd.prog fn [] false w args ∧ laidMetH Tryd.prog Tryd.laid w) ∧ sizedMet enc Tryd.prog fn (OpenSpec.ofChange s) false w args) (s.post enc Tryd.checked.prog fn false fresh handsOn again) := by
  refine returnsInHanded_of_change_and (C := Tryd.checked) (X := fun w _ => laidMetH Tryd.prog Tryd.laid w) (fun _ _ _ hh h => h.of_heap hh) Tryd.own started noInit hfn witness ?_
  intro W base args ds gs before hval hW _ hsz _ _
  have hW' := hW
  obtain ⟨p, q, hA, hV, rfl, _, _⟩ := hW'
  have hvt : s.plain.varTypes Tryd.checked.prog = [] := varTypes_nil hv
  have hV' := hV
  rw [hv] at hV'
  obtain ⟨rfl, rfl⟩ := trodVars_none hV'
  rw [hvt, List.append_nil, List.append_nil] at hsz
  have hlen : ∀ {ts : List TypeId} {vs : List Value} {ds : List (DataW H)} {ps : List MemPlace}, DataW.TrodAll enc Tryd.checked.prog W 0 (fun _ => true) true ts vs ds ps → ds.length = ts.length := by
    intro ts
    induction ts with
    | nil => intro vs ds ps h; cases vs <;> cases ds <;> first | rfl | cases h
    | cons t ts ih =>
      intro vs ds ps h
      match vs, ds, h with
      | v :: vs, d :: ds, ⟨_, _, _, h2, _⟩ => simp [ih h2]
      | [], [], h => cases h
      | [], _ :: _, h => cases h
      | _ :: _, [], h => cases h
  exact (walk W base args ds p hval hA hsz).mono fun e W' ⟨he, hb⟩ => ⟨_, he, answered hv hr hro (hf ds (hlen hA)) hW hb⟩
/-- What a card asks of its function's parameters. -/
theorem stand_free {ts : Array TypeId} (h : (ts.toList.all fun u => !Tryd.prog.wantsStandIn u) = true) (j : Nat) (t : TypeId) (ht : ts[j]? = some t) : Tryd.prog.wantsStandIn t = false := by
  have hm : t ∈ ts.toList := by simpa using Array.mem_of_getElem? ht
  simpa using List.all_eq_true.1 h t hm
end
end Go.Proofs.YtbhdojpgjmbogaaDoor
