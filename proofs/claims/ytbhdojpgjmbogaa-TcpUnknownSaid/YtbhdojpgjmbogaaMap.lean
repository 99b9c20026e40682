/- A map from int to int that a call made: what it holds, as a function. -/
import Derived.Test.YtbhdojpgjmbogaaUdp1
import Derived.Maps.OwnSet
import Derived.Maps.OwnOps
import Derived.Maps.RangeWalk
import Derived.Maps.Ext
import Derived.WideKeyEntry
namespace Go.Proofs.Ytbhdojpgjmbogaa
open Go.RowKit Go.Maps
def InI (k : Int) : Prop := -9223372036854775808 ≤ k ∧ k ≤ 9223372036854775807
theorem wf_i64 {k : Int} (h : InI k) : (Lit.int .i64 k).wf = true := WalkArith.wf_i64 h
abbrev mT : TypeId := 93
abbrev iT : TypeId := 3
theorem kInt : Keyed Try.prog iT := int_keyed Try.underlying3
theorem uMap : Try.prog.underlying mT = some (.map iT iT) := Try.underlying93
theorem uInt : Try.prog.underlying iT = some (.int .i64) := Try.underlying3
theorem zInt (w : World) : (zeroValue iT).run Try.prog w = .ok (.int .i64 0) w := by kernel_rfl
/-- What the datum of a map says. -/
def Says (D : DataW Unit) (f : Int → Option Int) : Prop :=
  ∀ k, InI k → Maps.has D (.int .i64 k) = (f k).isSome ∧ ∀ v, f k = some v → D.atKey (.int .i64 k) (.lit (.int .i64 0)) = .lit (.int .i64 v)
/-- Block b is a map that holds what f says. -/
def MapIs (w : World) (b n : Nat) (f : Int → Option Int) : Prop := ∃ D : DataW Unit, w.ownsMap Try.prog iT (plainElem Try.prog iT) b n D ∧ Says D f
theorem MapIs.same {w w' : World} {b n : Nat} {f : Int → Option Int} (h : MapIs w b n f) (hb : w'.heap[b]? = w.heap[b]?) : MapIs w' b n f := by
  obtain ⟨D, ⟨es, c, h1, h2, h3, h4⟩, hs⟩ := h
  exact ⟨D, ⟨es, c, hb.trans h1, h2, h3, h4⟩, hs⟩
theorem MapIs.lt {w : World} {b n : Nat} {f : Int → Option Int} (h : MapIs w b n f) : b < w.heap.size := by
  obtain ⟨D, ⟨es, c, h1, _⟩, _⟩ := h
  rcases Nat.lt_or_ge b w.heap.size with hlt | hge
  · exact hlt
  · rw [Array.getElem?_eq_none hge] at h1; cases h1
theorem MapIs.made (w : World) : MapIs (w.alloc (.map #[] 0)) w.heap.size 0 (fun _ => none) := by
  refine ⟨_, World.ownsMap_made _ _ _ _, fun k _ => ⟨rfl, fun v h => by cases h⟩⟩
def upd (f : Int → Option Int) (k v : Int) : Int → Option Int := fun x => if x = k then some v else f x
theorem says_put {D : DataW Unit} {f : Int → Option Int} (hD : IsMap D) (h : Says D f) {k v : Int} (hk : InI k) : Says (D.put (.int .i64 k) (.lit (.int .i64 v))) (upd f k v) := by
  have hkl : WideAt.IsKeyLit (.int .i64 k) := by trivial
  intro x hx
  by_cases e : x = k
  · subst e
    refine ⟨by rw [has_put_same hD hkl]; simp [upd], fun u hu => ?_⟩
    rw [atKey_put_same hD hkl]
    simp [upd] at hu
    rw [hu]
  · have hne : (Lit.int .i64 x) ≠ .int .i64 k := by simpa using e
    refine ⟨by rw [has_put_other hne]; simp [upd, e, (h x hx).1], fun u hu => ?_⟩
    rw [atKey_put_other hne]
    simp [upd, e] at hu
    exact (h x hx).2 u hu
theorem own_isMap {w : World} {b n : Nat} {D : DataW Unit} (h : w.ownsMap Try.prog iT (plainElem Try.prog iT) b n D) : IsMap D := by
  obtain ⟨es, c, _, _, _, rfl⟩ := h
  exact ⟨_, rfl⟩
/-- Looking up a key. -/
theorem wpList_look {ops : Array Oper} {rest : List Oper} {o : Oper} {a : Act} {w : World} {Q : Exit → Act → World → Prop} (hg : o.guard = none) (m x : Operand) (hop : o.op = Op.lookup mT m x true)
    {b n : Nat} {f : Int → Option Int} (h : MapIs w b n f) {k : Int} (hk : InI k) (hm : a.eval m = .map (some b)) (hx : a.eval x = .int .i64 k)
    (hK : wpList Try.prog ops Q rest (a.put o.dst (.tuple #[.int .i64 ((f k).getD 0), .bool (f k).isSome])) w) : wpList Try.prog ops Q (o :: rest) a w := by
  obtain ⟨D, hown, hs⟩ := h
  refine wpList_lookup_own_ok_int w hg m x mT hop iT iT .i64 kInt uMap uInt (zInt _) b n D hm hown _ _ hx (keyOf_int_mk uInt (wf_i64 hk)) ?_
  intro c hat _
  rw [(hs k hk).1]
  cases hf : f k with
  | none =>
    have hn : Maps.has D (.int .i64 k) = false := by rw [(hs k hk).1, hf]; rfl
    rw [atKey_of_not_has hn] at hat
    injection hat with hat
    injection hat with _ hat
    rw [hf] at hK
    rw [← hat]
    exact hK
  | some v =>
    rw [(hs k hk).2 v hf] at hat
    injection hat with hat
    injection hat with _ hat
    rw [hf] at hK
    rw [← hat]
    exact hK
/-- Storing at a key. -/
theorem wpList_put {ops : Array Oper} {rest : List Oper} {o : Oper} {a : Act} {w : World} {Q : Exit → Act → World → Prop} (hg : o.guard = none) (m x v : Operand) (hop : o.op = Op.mapUpdate mT m x v)
    {b n : Nat} {f : Int → Option Int} (h : MapIs w b n f) (hn : n < maxLen) {k u : Int} (hk : InI k) (hu : InI u) (hm : a.eval m = .map (some b)) (hx : a.eval x = .int .i64 k) (hv : a.eval v = .int .i64 u)
    (hK : ∀ w', MapIs w' b (n + 1) (upd f k u) → w.grownBy w' (some b) → wpList Try.prog ops Q rest (a.put o.dst undef) w') : wpList Try.prog ops Q (o :: rest) a w := by
  obtain ⟨D, hown, hs⟩ := h
  refine wpList_mapUpdate_own w hg m x v mT hop iT iT kInt uMap _ b n D hm hown hn _ _ _ hx hv (keyOf_int_mk uInt (wf_i64 hk)) _ [] (plainElem_int uInt (wf_i64 hu)) ?_
  intro w' h1 h2
  exact hK w' ⟨_, h1, says_put (own_isMap hown) hs hk⟩ h2
open Go.WideElems Go.ChangeMaps Go.MapKept in
/-- An entry is made, and then stored into: in whatever world in which the map still lies so. -/
theorem entry_run {w : World} {b n : Nat} {f : Int → Option Int} (h : MapIs w b n f) (hn : n < maxLen) {k : Int} (hk : InI k) :
    ∃ (v0 : Value) (st : Nat) (W1 : World), (Instr.mapEntry mT (.map (some b)) (.int .i64 k)).run Try.prog w = .ok (.tuple #[v0, goInt st]) W1 ∧ w.grownBy W1 (some b) ∧
      ∀ u, InI u → ∀ w2 : World, w2.heap[b]? = W1.heap[b]? → ∃ W2, (Instr.entryStore mT (.map (some b)) (goInt st) (.int .i64 u)).run Try.prog w2 = .ok () W2 ∧ MapIs W2 b (n + 1) (upd f k u) ∧ w2.grownBy W2 (some b) := by
  obtain ⟨D, hown, hs⟩ := h
  have hkey := keyOf_int_mk (P := Try.prog) uInt (wf_i64 hk)
  have hD := own_isMap hown
  have hup : ∀ u, InI u → ∃ w', (Instr.mapUpdate mT (.map (some b)) (.int .i64 k) (.int .i64 u)).run Try.prog w = .ok () w' ∧ w'.ownsMap Try.prog iT (plainElem Try.prog iT) b (n + 1) (D.put (.int .i64 k) (.lit (.int .i64 u))) := fun u hu => by
    obtain ⟨w', h1, h2, _⟩ := hown.update kInt uMap hn hkey (plainElem_int uInt (wf_i64 hu))
    exact ⟨w', h1, h2⟩
  obtain ⟨es, clock, hb, F, _, _⟩ := hown
  obtain ⟨s1, s2, _⟩ := F.stamped
  have grow : ∀ (w : World) (es : Array MapEntry) (c : Nat) (o' : Obj), w.heap[b]? = some (.map es c) → w.grownBy (setBlock w b o') (some b) := fun w es c o' hb => ⟨rfl, rfl, rfl, by simp [setBlock], fun i _ hi => heap_setBlock_other hb _ (fun e => hi (by rw [e]))⟩
  have fin : ∀ (u : Int), InI u → ∀ (w2 : World) (es : Array MapEntry) (c : Nat) (o' : Obj), w2.heap[b]? = some (.map es c) → (Instr.mapUpdate mT (.map (some b)) (.int .i64 k) (.int .i64 u)).run Try.prog w = .ok () (setBlock w b o') → MapIs (setBlock w2 b o') b (n + 1) (upd f k u) := fun u hu w2 es c o' hw2 hrun => by
    obtain ⟨w', h1, h2⟩ := hup u hu
    rw [hrun] at h1
    obtain rfl : setBlock w b o' = w' := by injection h1
    exact MapIs.same (w := setBlock w b o') ⟨_, h2, says_put hD hs hk⟩ (by rw [heap_setBlock_same hw2, heap_setBlock_same hb])
  rcases kInt.find w hkey es.toList F.keys with ⟨h1, h2⟩ | ⟨j, e0, h1, h2, h3⟩
  · refine ⟨.int .i64 0, clock, setBlock w b (.map (es.push ⟨.int .i64 k, .int .i64 0, clock⟩) (clock + 1)), ?_, grow _ _ _ _ hb, fun u hu w2 hw2 => ?_⟩
    · simp [Instr.mapEntry, run_underlying uMap, MapKept.run_getObj_map hb, kInt.check w false hkey, h1, MapKept.run_setObj_map _ hb, Result.andThen, setBlock]
    · rw [heap_setBlock_same hb] at hw2
      refine ⟨setBlock w2 b (.map (es.push ⟨.int .i64 k, .int .i64 u, clock⟩) (clock + 1)), ?_, fin u hu w2 _ _ _ hw2 ?_, grow _ _ _ _ hw2⟩
      · have hidx : (es.push ⟨.int .i64 k, .int .i64 0, clock⟩).findIdx? (fun e => ((e.born : Nat) : Int) == ((clock : Nat) : Int)) = some es.size := by
          rw [findIdx_arr]
          have := findIdx_born (l := (es.push ⟨.int .i64 k, .int .i64 0, clock⟩).toList) (j := es.size) (e0 := ⟨.int .i64 k, .int .i64 0, clock⟩) (by
            simp only [Array.toList_push, List.map_append, List.map_cons, List.map_nil]
            refine List.nodup_append.2 ⟨s2, by simp, fun a ha c hc e1 => ?_⟩
            simp only [List.mem_singleton] at hc
            obtain ⟨x, hx, rfl⟩ := List.mem_map.1 ha
            have := s1 x hx
            omega) (by simp)
          exact this
        have hmod : (es.push ⟨.int .i64 k, .int .i64 0, clock⟩).modify es.size (fun e => { e with val := .int .i64 u }) = es.push ⟨.int .i64 k, .int .i64 u, clock⟩ := by
          apply Array.ext'
          rw [Array.toList_modify, Array.toList_push, Array.toList_push, ← Array.length_toList, modify_last]
        simp [Instr.entryStore, MapKept.run_getObj_map hw2, asInt, asIntOf, goInt, hidx, hmod, MapKept.run_setObj_map _ hw2, Result.andThen, setBlock]
      · simp [Instr.mapUpdate, run_underlying uMap, MapKept.run_getObj_map hb, kInt.check w false hkey, h1, MapKept.run_setObj_map _ hb, Result.andThen, setBlock]
  · have hj : es[j]? = some e0 := by simpa using h2
    have hsame : es.modify j (fun e => { e with key := .int .i64 k }) = es := by
      apply Array.ext'
      rw [Array.toList_modify, modify_eq_set _ _ _ _ h2]
      have : ({ e0 with key := .int .i64 k } : MapEntry) = e0 := by rw [← h3]
      rw [this]
      exact set_self _ _ _ h2
    refine ⟨e0.val, e0.born, setBlock w b (.map es clock), ?_, grow _ _ _ _ hb, fun u hu w2 hw2 => ?_⟩
    · simp [Instr.mapEntry, run_underlying uMap, MapKept.run_getObj_map hb, kInt.check w false hkey, h1, hj, h3, kInt.stays w hkey, hsame, MapKept.run_setObj_map _ hb, Result.andThen, setBlock]
    · rw [heap_setBlock_same hb] at hw2
      refine ⟨setBlock w2 b (.map (es.modify j fun e' => { e' with key := .int .i64 k, val := .int .i64 u }) clock), ?_, fin u hu w2 _ _ _ hw2 ?_, grow _ _ _ _ hw2⟩
      · have hidx : es.findIdx? (fun e => ((e.born : Nat) : Int) == ((e0.born : Nat) : Int)) = some j := by
          rw [findIdx_arr]
          exact findIdx_born s2 h2
        have hmod : es.modify j (fun e => { e with val := .int .i64 u }) = es.modify j (fun e' => { e' with key := .int .i64 k, val := .int .i64 u }) := by
          apply Array.ext'
          rw [Array.toList_modify, Array.toList_modify, modify_eq_set _ _ _ _ h2, modify_eq_set _ _ _ _ h2, ← h3]
        simp [Instr.entryStore, MapKept.run_getObj_map hw2, asInt, asIntOf, goInt, hidx, hmod, MapKept.run_setObj_map _ hw2, Result.andThen, setBlock]
      · simp [Instr.mapUpdate, run_underlying uMap, MapKept.run_getObj_map hb, kInt.check w false hkey, h1, hj, h3, kInt.stays w hkey, MapKept.run_setObj_map _ hb, Result.andThen, setBlock]
/-- Ports that wait to be bound: where they lie. -/
def PortsAt (w : World) (p b n : Nat) (f : Int → Option Int) (nx : Int) : Prop :=
  Blk w p 95 #[.map (some b), .int .i64 nx] ∧ MapIs w b n f ∧ 49152 ≤ nx ∧ nx ≤ 65535
theorem PortsAt.ne {w : World} {p b n : Nat} {f : Int → Option Int} {nx : Int} (h : PortsAt w p b n f nx) : p ≠ b := by
  rintro rfl
  obtain ⟨h1, ⟨D, ⟨es, c, h2, _⟩, _⟩, _⟩ := h
  unfold Blk at h1
  rw [h1] at h2
  cases h2
/-- What a call may have turned. -/
structure Touch (S : Nat → Prop) (w w' : World) : Prop where
  os : w'.os = w.os
  tape : w'.tape = w.tape
  output : w'.output = w.output
  size : w.heap.size ≤ w'.heap.size
  block : ∀ k, k < w.heap.size → ¬ S k → w'.heap[k]? = w.heap[k]?
theorem Touch.refl (S : Nat → Prop) (w : World) : Touch S w w := ⟨rfl, rfl, rfl, Nat.le_refl _, fun _ _ _ => rfl⟩
theorem Touch.trans {S : Nat → Prop} {a b c : World} (h : Touch S a b) (k : Touch S b c) : Touch S a c :=
  ⟨k.os.trans h.os, k.tape.trans h.tape, k.output.trans h.output, Nat.le_trans h.size k.size, fun i hi hs => (k.block i (Nat.lt_of_lt_of_le hi h.size) hs).trans (h.block i hi hs)⟩
theorem Touch.grown {S : Nat → Prop} {w w' : World} {row : Option Nat} (h : w.grownBy w' row) (hr : ∀ r, row = some r → S r) : Touch S w w' :=
  ⟨h.os, h.tape, h.output, h.size, fun k hk hs => h.block k hk fun e => hs (hr k e.symm)⟩
theorem Touch.set {S : Nat → Prop} (w : World) {p : Addr} (hp : S p.block) (u : Value) : Touch S w (w.setCell p u) :=
  ⟨rfl, rfl, rfl, by simp [World.setCell], fun k _ hs => Below.heap_setCell w p u k fun e => hs (e ▸ hp)⟩
theorem Touch.drew {S : Nat → Prop} {w w' : World} (h : Touch S w w') : Touch S w w'.drew := ⟨h.os, h.tape, h.output, h.size, h.block⟩
theorem Touch.below {S : Nat → Prop} {w w' : World} {B : Nat} (h : Touch S w w') (hB : ∀ k, S k → B ≤ k) (hw : B ≤ w.heap.size) : Below B w w' :=
  ⟨h.os, h.tape, h.output, h.size, fun k hk => h.block k (Nat.lt_of_lt_of_le hk hw) fun hs => by have := hB k hs; omega⟩
theorem Touch.of_below {S : Nat → Prop} {w w' : World} (h : Below w.heap.size w w') : Touch S w w' := ⟨h.os, h.tape, h.output, h.size, fun k hk _ => h.block k hk⟩
set_option maxHeartbeats 400000 in
theorem unew (w : World) : Calls Try.prog 21 #[] w fun e w' => ∃ p b, e = .returned (.pointer (some ⟨p, 0, none⟩)) ∧ PortsAt w' p b 0 (fun _ => none) 49152 ∧ w.heap.size ≤ p ∧ w.heap.size ≤ b ∧ Below w.heap.size w w' := by
  have hmm := @run_makeMap Try.prog
  go_enter Try.func21, Try.ntmps21
  go_wp2
  go_ret
  refine ⟨_, _, rfl, ⟨Blk.new _ _ _ _ (by simp), (MapIs.made w).same (Below.heap_alloc _ _ _ (by simp)), by omega, by omega⟩, by omega, by omega, boxes_below _ _ _⟩
set_option maxHeartbeats 400000 in
theorem uwho (w : World) {p b n : Nat} {f : Int → Option Int} {nx : Int} (h : PortsAt w p b n f nx) (k : Int) (hk : InI k) :
    Calls Try.prog 24 #[.pointer (some ⟨p, 0, none⟩), .int .i64 k] w fun e w' => e = .returned (.tuple #[.int .i64 ((f k).getD 0), .bool (f k).isSome]) ∧ w = w' := by
  have h0 := h.1.cell 0
  have hm := h.2.1
  simp only [List.getElem?_toArray, List.getElem?_cons_zero] at h0
  go_enter Try.func24, Try.ntmps24
  go_wp2_with (at_lookup; refine wpList_look rfl (.tmp 12) (.tmp 13) rfl hm hk rfl rfl ?_)
  go_ret2
  exact ⟨rfl, rfl⟩
/-- The port that is tried behind one. -/
def behindP (n : Int) : Int := if n = 65535 then 49152 else n + 1
set_option maxHeartbeats 400000 in
theorem ubehind (n : Int) (w : World) (h0 : 49152 ≤ n) (h1 : n ≤ 65535) : Calls Try.prog 59 #[.int .i64 n] w fun e w' => e = .returned (.int .i64 (behindP n)) ∧ w = w' := by
  by_cases h : n = 65535
  · subst h
    go_enter Try.func59, Try.ntmps59
    go_wp2
    go_ret
    exact ⟨rfl, rfl⟩
  · have g : (n == 65535) = false := by simpa using h
    go_enter Try.func59, Try.ntmps59
    go_wp2
    go_ret
    exact ⟨ret_int (by unfold behindP; rw [if_neg h]), rfl⟩
theorem behindP_bd {n : Int} (h0 : 49152 ≤ n) (h1 : n ≤ 65535) : 49152 ≤ behindP n ∧ behindP n ≤ 65535 := by unfold behindP; split <;> omega
end Go.Proofs.Ytbhdojpgjmbogaa
