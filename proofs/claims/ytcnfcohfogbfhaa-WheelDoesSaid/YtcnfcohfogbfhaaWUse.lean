/- The wheel: New, Len, Now, Due, Cancel. -/
import Derived.Test.YtcnfcohfogbfhaaWDrop
namespace Go.Proofs.Ytcnfcohfogbfhaa
open Go.RowKit Go.Shelf
/-- Which ticks there are. -/
def tickB (n : Int) : Bool := decide (0 ≤ n) && decide (n ≤ 1099511627776)
theorem tnew_no (n : Int) (h : tickB n = false) (w : World) : Calls Try.prog 8 #[.int .i64 n] w fun e w' => e = .returned (.tuple #[.pointer none, .int .i64 1]) ∧ w = w' := by
  by_cases h1 : n < 0
  · have q1 : decide (n < 0) = true := by simpa using h1
    clear h h1
    go_enter Try.func8, Try.ntmps8
    go_wp2
    go_ret2
    exact ⟨rfl, rfl⟩
  · have q1 : decide (n < 0) = false := by simpa using h1
    have q2 : decide (1099511627776 < n) = true := by simp [tickB] at h; simp; omega
    clear h h1
    go_enter Try.func8, Try.ntmps8
    go_wp2
    go_ret2
    exact ⟨rfl, rfl⟩
set_option maxRecDepth 100000 in
theorem tnew (n : Int) (h : tickB n = true) (w : World) (B : Nat) (hB : B ≤ w.heap.size) : Calls Try.prog 8 #[.int .i64 n] w fun e w' =>
    e = .returned (.tuple #[.pointer (some ⟨w.heap.size, 0, none⟩), .int .i64 0]) ∧ WAt w' B w.heap.size (fun _ => noS) n [] 0 ∧ Below w.heap.size w w' := by
  have q1 : decide (n < 0) = false := by simp [tickB] at h; simp; omega
  have q2 : decide (1099511627776 < n) = false := by simp [tickB] at h; simp; omega
  clear h
  go_enter Try.func8, Try.ntmps8
  go_wp2
  go_ret2
  refine ⟨rfl, ⟨Blk.new w 57 (wcells n (fun _ => noS) 0 0) _ rfl, hB, fun s _ => OwE.nil _ _, fun s _ h => (by cases h), fun s r g _ _ h => (by cases h)⟩, below_alloc _ _⟩
theorem tlen {w : World} {B p : Nat} {V : Nat → Value} {now : Int} {A : List Tm} {ord : Int} (h : WAt w B p V now A ord) : Calls Try.prog 12 #[.pointer (some ⟨p, 0, none⟩)] w fun e w' => e = .returned (.int .i64 A.length) ∧ w = w' := by
  have c := h.c33
  go_enter Try.func12, Try.ntmps12
  go_wp2
  go_ret
  exact ⟨rfl, rfl⟩
theorem tnow {w : World} {B p : Nat} {V : Nat → Value} {now : Int} {A : List Tm} {ord : Int} (h : WAt w B p V now A ord) : Calls Try.prog 23 #[.pointer (some ⟨p, 0, none⟩)] w fun e w' => e = .returned (.int .i64 now) ∧ w = w' := by
  have c := h.c0
  go_enter Try.func23, Try.ntmps23
  go_wp2
  go_ret
  exact ⟨rfl, rfl⟩
/-- When one comes. -/
def dueOf (A : List Tm) (id : Int) : Int := ((A.find? fun t => t.id == id).map Tm.due).getD 0
theorem dueOf_none {A : List Tm} {id : Int} (h : ∀ t ∈ A, t.id ≠ id) : dueOf A id = 0 := by
  unfold dueOf
  rw [List.find?_eq_none.2 (fun t ht => by simpa using h t ht)]
  rfl
theorem dueOf_hit {A : List Tm} (hu : Uniq A) {t : Tm} (ht : t ∈ A) : dueOf A t.id = t.due := by
  unfold dueOf
  cases e : A.find? fun u => u.id == t.id with
  | none => exact absurd (List.find?_eq_none.1 e t ht) (by simp)
  | some u =>
    have h1 := List.mem_of_find?_eq_some e
    have h2 : u.id = t.id := by simpa using List.find?_some e
    rw [hu.same h1 ht h2]
    rfl
set_option maxRecDepth 100000 in
set_option maxHeartbeats 4000000 in
theorem tdue {w : World} {B p : Nat} {V : Nat → Value} {now : Int} {A : List Tm} {ord : Int} (h : WAt w B p V now A ord) (hu : Uniq A) (id : Int) :
    Calls Try.prog 13 #[.pointer (some ⟨p, 0, none⟩), .int .i64 id] w fun e w' => e = .returned (.tuple #[.int .i64 (dueOf A id), .bool (has A id)]) ∧ Below w.heap.size w w' := by
  obtain ⟨d, hd⟩ : ∃ d, d = dueOf A id := ⟨_, rfl⟩
  obtain ⟨x, hx⟩ : ∃ x, x = has A id := ⟨_, rfl⟩
  rw [← hd, ← hx]
  have HD := Lib.hid hd
  have HX := Lib.hid hx
  clear hd hx
  go_enter Try.func13, Try.ntmps13
  go_wp2_with fail
  refine (tfind h id).mono ?_
  rintro e w1 ⟨⟨s, k, hk, hs, hid, rfl⟩ | ⟨hno, rfl⟩, hb1⟩
  rotate_left
  · obtain rfl : d = 0 := HD.out.trans (dueOf_none hno)
    obtain rfl : x = false := HX.out.trans (has_false hno)
    go_wp2
    go_ret2
    exact ⟨rfl, hb1⟩
  · have h1 := h.mono hb1
    have hrow := h1.row s hs
    obtain ⟨g, cap, eV, hg1, hg2, hc1, hc2⟩ := owT_form hrow (by omega)
    have cs := h1.cs s hs
    rw [eV] at cs hrow
    obtain ⟨b, o, e1, hlt, hc⟩ := hrow.rd.at_ tm_len (by omega)
    injection e1 with e1
    injection e1 with e1 e2
    subst e1 e2
    have ck := hc k hk 1 (.int .i64 (slotL A s)[k].due) rfl
    have hm := (mem_slotL.1 (List.getElem_mem hk)).1
    have hd := dueOf_hit hu hm
    have hh := (slot_hit hu s k hk).2.2.1
    rw [hid] at hd hh
    obtain rfl : x = true := HX.out.trans hh
    rw [← hd, ← HD.out] at ck
    rw [Nat.zero_add] at ck
    obtain ⟨n, hn⟩ : ∃ n, n = (slotL A s).length := ⟨_, rfl⟩
    rw [← hn] at cs hk hc1
    have hs' : (s : Int) < 32 := by omega
    have hk' : (k : Int) < n := by omega
    clear hc hn hd hh hm hid hrow eV h1 hc1
    go_wp2
    go_ret2
    exact ⟨rfl, hb1⟩
set_option maxHeartbeats 4000000 in
theorem tcancel {w : World} {B p : Nat} {V : Nat → Value} {now : Int} {A : List Tm} {ord : Int} (h : WAt w B p V now A ord) (hu : Uniq A) (h64 : A.length ≤ 64) (id : Int) :
    Calls Try.prog 9 #[.pointer (some ⟨p, 0, none⟩), .int .i64 id] w fun e w' => e = .returned (.int .i64 (if has A id then 0 else 7)) ∧ WEnd w B p V now (rid A id) ord w' := by
  obtain ⟨c, hc⟩ : ∃ c : Int, c = if has A id then 0 else 7 := ⟨_, rfl⟩
  rw [← hc]
  have hdr := tdrop h hu h64 id
  generalize has A id = x at hc hdr
  cases x with
  | true =>
    obtain rfl : c = 0 := hc
    go_enter Try.func9, Try.ntmps9
    go_wp2_with fail
    refine hdr.mono ?_
    rintro e w1 ⟨rfl, he⟩
    go_wp2
    go_ret
    exact ⟨rfl, he⟩
  | false =>
    obtain rfl : c = 7 := hc
    go_enter Try.func9, Try.ntmps9
    go_wp2_with fail
    refine hdr.mono ?_
    rintro e w1 ⟨rfl, he⟩
    go_wp2
    go_ret
    exact ⟨rfl, he⟩
end Go.Proofs.Ytcnfcohfogbfhaa
