/- The wheel: where it lies; a timer is found. -/
import Derived.Test.YtcnfcohfogbfhaaWDel
import Derived.Test.YtcnfcohfogbfhaaWShelf
namespace Go.Proofs.Ytcnfcohfogbfhaa
open Go.RowKit Go.Shelf
/-- The timers of a slot. -/
def slotL (A : List Tm) (s : Nat) : List Tm := A.filter fun t => t.due % 32 == (s : Int)
theorem mem_slotL {A : List Tm} {s : Nat} {t : Tm} : t ∈ slotL A s ↔ t ∈ A ∧ t.due % 32 = (s : Int) := by simp [slotL]
theorem slot_of (t : Tm) : ∃ s : Nat, s < 32 ∧ t.due % 32 = (s : Int) := ⟨(t.due % 32).toNat, by omega, by omega⟩
/-- The cells of a wheel. -/
def wcells (now : Int) (V : Nat → Value) (many ord : Int) : Array Value := (Value.int .i64 now :: ((List.range 32).map V ++ [Value.int .i64 many, Value.int .i64 ord])).toArray
theorem wcells_size (now : Int) (V : Nat → Value) (many ord : Int) : (wcells now V many ord).size = 35 := by simp [wcells]
theorem wcells_0 (now : Int) (V : Nat → Value) (many ord : Int) : (wcells now V many ord)[0]? = some (.int .i64 now) := by simp [wcells]
theorem wcells_s (now : Int) (V : Nat → Value) (many ord : Int) (s : Nat) (hs : s < 32) : (wcells now V many ord)[1 + s]? = some (V s) := by
  rw [Nat.add_comm]
  simp [wcells, List.getElem?_append_left, hs]
theorem wcells_33 (now : Int) (V : Nat → Value) (many ord : Int) : (wcells now V many ord)[33]? = some (.int .i64 many) := by simp [wcells]
theorem wcells_34 (now : Int) (V : Nat → Value) (many ord : Int) : (wcells now V many ord)[34]? = some (.int .i64 ord) := by simp [wcells]
theorem wcells_set0 (now : Int) (V : Nat → Value) (many ord n : Int) : (wcells now V many ord).setIfInBounds 0 (.int .i64 n) = wcells n V many ord := by simp [wcells]
theorem wcells_set33 (now : Int) (V : Nat → Value) (many ord n : Int) : (wcells now V many ord).setIfInBounds 33 (.int .i64 n) = wcells now V n ord := by simp [wcells]
theorem wcells_set34 (now : Int) (V : Nat → Value) (many ord n : Int) : (wcells now V many ord).setIfInBounds 34 (.int .i64 n) = wcells now V many n := by simp [wcells]
theorem wcells_sets (now : Int) (V : Nat → Value) (many ord : Int) (s : Nat) (hs : s < 32) (v : Value) : (wcells now V many ord).setIfInBounds (1 + s) v = wcells now (fun r => if r = s then v else V r) many ord := by
  apply Array.ext'
  apply List.ext_getElem?
  intro i
  rw [Array.getElem?_toList, Array.getElem?_toList, Array.getElem?_setIfInBounds, wcells_size]
  by_cases h : 1 + s = i
  · subst h
    rw [if_pos rfl, if_pos (by omega), wcells_s _ _ _ _ s hs, if_pos rfl]
  · rw [if_neg h]
    match i with
    | 0 => rw [wcells_0, wcells_0]
    | i + 1 =>
      by_cases hi : i < 32
      · rw [Nat.add_comm i 1, wcells_s _ _ _ _ i hi, wcells_s _ _ _ _ i hi, if_neg (by omega)]
      · by_cases h33 : i = 32
        · subst h33
          rw [wcells_33, wcells_33]
        · by_cases h34 : i = 33
          · subst h34
            rw [wcells_34, wcells_34]
          · rw [Array.getElem?_eq_none (by rw [wcells_size]; omega), Array.getElem?_eq_none (by rw [wcells_size]; omega)]
/-- Where a wheel lies: its block; its slots' rows, each in a block of its own. -/
structure WAt (w : World) (B p : Nat) (V : Nat → Value) (now : Int) (A : List Tm) (ord : Int) : Prop where
  blk : Blk w p 57 (wcells now V A.length ord)
  base : B ≤ p
  row : ∀ s, s < 32 → OwT w B (V s) (slotL A s)
  own : ∀ s, s < 32 → (V s).ownBlock ≠ some p
  apart : ∀ s r g, s < 32 → r < 32 → (V s).ownBlock = some g → (V r).ownBlock = some g → s = r
/-- What is a wheel's. -/
def Ft (p : Nat) (V : Nat → Value) (k : Nat) : Prop := k = p ∨ ∃ s, s < 32 ∧ (V s).ownBlock = some k
theorem WAt.lt {w : World} {B p : Nat} {V : Nat → Value} {now : Int} {A : List Tm} {ord : Int} (h : WAt w B p V now A ord) {k : Nat} (hk : Ft p V k) : B ≤ k ∧ k < w.heap.size := by
  rcases hk with rfl | ⟨s, hs, hg⟩
  · exact ⟨h.base, h.blk.lt⟩
  · exact (h.row s hs).lt hg
theorem WAt.touch {w w' : World} {B p : Nat} {V : Nat → Value} {now : Int} {A : List Tm} {ord : Int} (h : WAt w B p V now A ord) {S : Nat → Prop} (ht : Touch S w w') (hS : ∀ k, Ft p V k → ¬ S k) : WAt w' B p V now A ord :=
  ⟨h.blk.touch ht (hS p (.inl rfl)), h.base, fun s hs => (h.row s hs).touch ht fun g hg => hS g (.inr ⟨s, hs, hg⟩), h.own, h.apart⟩
theorem WAt.mono {w w' : World} {B p : Nat} {V : Nat → Value} {now : Int} {A : List Tm} {ord : Int} (h : WAt w B p V now A ord) (hb : Below w.heap.size w w') : WAt w' B p V now A ord :=
  h.touch (Touch.of_below (S := fun _ => False) hb) fun _ _ => id
theorem WAt.c0 {w : World} {B p : Nat} {V : Nat → Value} {now : Int} {A : List Tm} {ord : Int} (h : WAt w B p V now A ord) : w.cell? ⟨p, 0, none⟩ = some (.int .i64 now) := by rw [h.blk.cell, wcells_0]
theorem WAt.cs {w : World} {B p : Nat} {V : Nat → Value} {now : Int} {A : List Tm} {ord : Int} (h : WAt w B p V now A ord) (s : Nat) (hs : s < 32) : w.cell? ⟨p, 1 + s, none⟩ = some (V s) := by rw [h.blk.cell, wcells_s _ _ _ _ s hs]
theorem WAt.c33 {w : World} {B p : Nat} {V : Nat → Value} {now : Int} {A : List Tm} {ord : Int} (h : WAt w B p V now A ord) : w.cell? ⟨p, 33, none⟩ = some (.int .i64 A.length) := by rw [h.blk.cell, wcells_33]
theorem WAt.c34 {w : World} {B p : Nat} {V : Nat → Value} {now : Int} {A : List Tm} {ord : Int} (h : WAt w B p V now A ord) : w.cell? ⟨p, 34, none⟩ = some (.int .i64 ord) := by rw [h.blk.cell, wcells_34]
/-- The closure of find: is it that timer? -/
theorem wpred (id : Int) (b : Nat) (w : World) (hB : b < w.heap.size) (hcell : w.cell? ⟨b, 0, none⟩ = some (.int .i64 id)) :
    PredBelow Try.prog 33 #[.pointer (some ⟨b, 0, none⟩)] (fun x : Tm => .agg x.cs.toArray) (fun x => x.id == id) w := fun W x hb => by
  have hc : W.cell? ⟨b, 0, none⟩ = some (.int .i64 id) := (hb.cell (p := ⟨b, 0, none⟩) hB).trans hcell
  have hBW : b < W.heap.size := Nat.lt_of_lt_of_le hB hb.size
  have hne : b ≠ W.heap.size := by omega
  show Calls Try.prog 33 #[.agg #[.int .i64 x.id, .int .i64 x.due, .int .i64 x.ord], .pointer (some ⟨b, 0, none⟩)] W _
  go_enter Try.func33, Try.ntmps33
  go_wp2
  all_goals (go_ret; exact ⟨by simp_all, hb.alloc hb.size _⟩)
theorem agg_tm (w : World) : (isAgg 60).run Try.prog w = .ok true w := Try.isAgg60 w
theorem idx_spec (p : Tm → Bool) (l : List Tm) : (Lib.idxBy (fun _ y => p y) l default = -1 ∧ ∀ t ∈ l, p t = false) ∨ ∃ (k : Nat) (hk : k < l.length), Lib.idxBy (fun _ y => p y) l default = k ∧ p l[k] = true := by
  have gen : ∀ (l : List Tm) (i : Nat), (Lib.idxByFrom (fun _ y => p y) default l i = -1 ∧ ∀ t ∈ l, p t = false) ∨ ∃ (k : Nat) (hk : k < l.length), Lib.idxByFrom (fun _ y => p y) default l i = ((i + k : Nat) : Int) ∧ p l[k] = true := by
    intro l
    induction l with
    | nil => intro i; exact .inl ⟨rfl, by simp⟩
    | cons y r ih =>
      intro i
      by_cases hy : p y = true
      · exact .inr ⟨0, by simp, by simp [Lib.idxByFrom, hy], hy⟩
      · have hy' : p y = false := by simpa using hy
        have e : Lib.idxByFrom (fun _ y => p y) default (y :: r) i = Lib.idxByFrom (fun _ y => p y) default r (i + 1) := by simp [Lib.idxByFrom, hy']
        rw [e]
        rcases ih (i + 1) with ⟨h1, h2⟩ | ⟨k, hk, h1, h2⟩
        · exact .inl ⟨h1, by simp only [List.mem_cons]; rintro t (rfl | ht); exact hy'; exact h2 t ht⟩
        · exact .inr ⟨k + 1, by simpa using hk, by rw [h1]; congr 1; omega, h2⟩
  rcases gen l 0 with h | ⟨k, hk, h1, h2⟩
  · exact .inl h
  · exact .inr ⟨k, hk, by simpa [Lib.idxBy] using h1, h2⟩
set_option maxRecDepth 100000 in
set_option maxHeartbeats 4000000 in
/-- slices.IndexFunc where there is none. -/
theorem tidx0 (a : Option Addr) (c : Nat) (f : Value) (w : World) : Calls Try.prog 32 #[.slice a 0 c, f] w fun e w' => e = .returned (.int .i64 (-1)) ∧ Below w.heap.size w w' := by
  go_enter Try.func32, Try.ntmps32
  go_wp2
  go_loopw [5, 8] (fun _ i wr => i = .int .i64 0 ∧ Below w.heap.size w wr) (fun _ _ _ => 0)
  case atStart => exact ⟨rfl, Below.refl _ _⟩
  case round =>
    obtain ⟨rfl, hb⟩ := hrel
    go_wp2
    go_ret
    exact ⟨rfl, hb⟩
theorem tidx (id : Int) (b : Nat) (v : Value) (l : List Tm) (w : World) (hr : RdT w v l) (hB : b < w.heap.size) (hcell : w.cell? ⟨b, 0, none⟩ = some (.int .i64 id)) :
    Calls Try.prog 32 #[v, .func (.func 33) #[] #[.pointer (some ⟨b, 0, none⟩)]] w fun e w' =>
      e = .returned (.int .i64 (Lib.idxBy (fun _ y => y.id == id) l default)) ∧ Below w.heap.size w w' := by
  have hr' := hr
  obtain ⟨A, c, rfl, h1, h2, _⟩ := hr
  by_cases h0 : l = []
  · subst h0
    exact tidx0 A c _ w
  · obtain ⟨b1, o1, rfl, hlt, hc⟩ := hr'.at_ tm_len (List.length_pos_iff.2 h0)
    have eg : ∀ args w, (callFunc 33 args).run Try.prog w = .ok (.enter 33 args) w := enters_of Try.func33 (by kernel_rfl) rfl
    have hcon := AnyQ.slices_IndexFunc Try.lIdx 3 agg_tm Try.sizeOf60 Tm.cs tm_len (fun x => x.id == id) 33 #[.pointer (some ⟨b, 0, none⟩)] eg b1 o1 l.length c l w (wpred id b w hB hcell) (Nat.le_refl _) (by unfold maxLen at h2; omega) hlt
      (fun j hj i v hi => hc j hj i v (by rw [getElem!_pos l j hj] at hi; exact hi))
    change Calls Try.prog 32 _ _ _ at hcon
    rw [List.take_length] at hcon
    exact hcon
/-- What find tells. -/
def FindIs (A : List Tm) (id : Int) (e : Ending) : Prop :=
  (∃ (s k : Nat) (hk : k < (slotL A s).length), s < 32 ∧ (slotL A s)[k].id = id ∧ e = .returned (.tuple #[.int .i64 s, .int .i64 k, .bool true])) ∨ ((∀ t ∈ A, t.id ≠ id) ∧ e = .returned (.tuple #[.int .i64 0, .int .i64 0, .bool false]))
set_option maxRecDepth 100000 in
set_option maxHeartbeats 4000000 in
theorem tfind {w : World} {B p : Nat} {V : Nat → Value} {now : Int} {A : List Tm} {ord : Int} (h : WAt w B p V now A ord) (id : Int) :
    Calls Try.prog 27 #[.pointer (some ⟨p, 0, none⟩), .int .i64 id] w fun e w' => FindIs A id e ∧ Below w.heap.size w w' := by
  go_enter Try.func27, Try.ntmps27
  go_upto_region 1 with (fail)
  have hbX := below_alloc w (.cells #[.int .i64 id] 3)
  have hX := h.mono hbX
  have hcX : (w.alloc (.cells #[.int .i64 id] 3)).cell? ⟨w.heap.size, 0, none⟩ = some (.int .i64 id) := by simp
  have hzX : w.heap.size < (w.alloc (.cells #[.int .i64 id] 3)).heap.size := by simp
  generalize w.alloc (.cells #[.int .i64 id] 3) = X at *
  go_wp2
  go_loopw [7, 8, 9] (fun _ _ i wr => ∃ s : Nat, i = .int .i64 s ∧ s ≤ 32 ∧ Hid (∀ r, r < s → ∀ t ∈ slotL A r, t.id ≠ id) ∧ Below X.heap.size X wr) (fun _ _ i _ => 32 - (intOf i).toNat)
  case atStart => exact ⟨0, rfl, by omega, fun r hr => by omega, Below.refl _ _⟩
  case round =>
    obtain ⟨s, rfl, hs, hall, hb⟩ := hrel
    have hbw : Below w.heap.size w wr := below_step hbX hbX.size hb
    by_cases hlt : s < 32
    · have hr := hX.mono hb
      have hcr : wr.cell? ⟨w.heap.size, 0, none⟩ = some (.int .i64 id) := (hb.cell (p := ⟨w.heap.size, 0, none⟩) hzX).trans hcX
      have hrow := (hr.row s hlt).rd
      have cs := hr.cs s hlt
      obtain ⟨As, cc, eV, _, _⟩ := hrow.form
      rw [eV] at cs hrow
      have hzr : w.heap.size < wr.heap.size := Nat.lt_of_lt_of_le hzX hb.size
      clear eV hr
      go_wp2_with fail
      refine (tidx id w.heap.size _ (slotL A s) wr hrow hzr hcr).mono ?_
      rintro e w1 ⟨rfl, hb1⟩
      have hb2 := below_step hb hb.size hb1
      have hbw2 := below_step hbw hbw.size hb1
      clear cs hcr
      rcases idx_spec (fun y => y.id == id) (slotL A s) with ⟨e1, e2⟩ | ⟨k, hk, e1, e2⟩
      · rw [e1]
        have hall' : Hid (∀ r, r < s + 1 → ∀ t ∈ slotL A r, t.id ≠ id) := fun r hr t ht => by
          by_cases hrs : r < s
          · exact hall.out r hrs t ht
          · obtain rfl : r = s := by omega
            simpa using e2 t ht
        clear hall e1 e2
        go_wp2
        go_roundw
        case rel => exact ⟨s + 1, by go_num, by omega, hall', hb2⟩
        case measure => simp [intOf]; omega
      · rw [e1]
        have e3 : (slotL A s)[k].id = id := by simpa using e2
        have HE3 := Lib.hid e3
        clear hall e1 e2 e3
        have hkk : decide (0 ≤ (k : Int)) = true := by simp
        go_wp2
        refine bodyPost_ret (results_tmp3 rfl _ _ _) (by rfl) ?_
        exact ⟨.inl ⟨s, k, hk, hlt, HE3.out, rfl⟩, hbw2⟩
    · obtain rfl : s = 32 := by omega
      go_wp2
      refine bodyPost_ret (results_tmp3 rfl _ _ _) (by rfl) ?_
      refine ⟨.inr ⟨fun t ht => ?_, rfl⟩, hbw⟩
      obtain ⟨r, hr1, hr2⟩ := slot_of t
      exact hall.out r hr1 t (mem_slotL.2 ⟨ht, hr2⟩)
end Go.Proofs.Ytcnfcohfogbfhaa
