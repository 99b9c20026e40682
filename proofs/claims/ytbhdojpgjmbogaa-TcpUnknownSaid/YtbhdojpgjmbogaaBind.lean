/- udp.Bind: a port is taken for somebody. -/
import Derived.Test.YtbhdojpgjmbogaaMap
import Derived.ScopeJumps
import Derived.WalkMore
namespace Go.Proofs.Ytbhdojpgjmbogaa
open Go.RowKit Go.Maps Go.Shelf
/-- The first free port from one on. -/
def search (f : Int → Option Int) : Nat → Int → Option Int
  | 0, _ => none
  | k + 1, n => if (f n).isSome then search f k (behindP n) else some n
/-- What Bind answers, and what is held behind it. -/
def bindR (f : Int → Option Int) (nx who port : Int) : Int × Int × (Int → Option Int) × Int :=
  if port < 0 ∨ 65535 < port ∨ who < 0 then (0, 1, f, nx)
  else if 0 < port then (if (f port).isSome then (0, 130, f, nx) else (port, 0, upd f port who, nx))
  else match search f 16384 nx with
    | none => (0, 130, f, nx)
    | some n => (n, 0, upd f n who, behindP n)
def BEnd (w : World) (p b n : Nat) (r : Int × Int × (Int → Option Int) × Int) (e : Ending) (w' : World) : Prop :=
  e = .returned (.tuple #[.int .i64 r.1, .int .i64 r.2.1]) ∧ PortsAt w' p b n r.2.2.1 r.2.2.2 ∧ Touch (fun k => k = p ∨ k = b) w w'
theorem PortsAt.more {w : World} {p b n : Nat} {f : Int → Option Int} {nx : Int} (h : PortsAt w p b n f nx) : PortsAt w p b (n + 1) f nx := by
  obtain ⟨h1, ⟨D, ⟨es, c, a1, a2, a3, a4⟩, hs⟩, h3⟩ := h
  exact ⟨h1, ⟨D, ⟨es, c, a1, a2, by omega, a4⟩, hs⟩, h3⟩
set_option maxHeartbeats 400000 in
theorem bind_arg (w : World) {p b n : Nat} {f : Int → Option Int} {nx : Int} (h : PortsAt w p b n f nx) (who port : Int) (hb : port < 0 ∨ 65535 < port ∨ who < 0) :
    Calls Try.prog 25 #[.pointer (some ⟨p, 0, none⟩), .int .i64 who, .int .i64 port] w (BEnd w p b (n + 1) (0, 1, f, nx)) := by
  by_cases h1 : port < 0
  · have g1 : decide (port < 0) = true := by simpa using h1
    clear hb
    go_enter Try.func25, Try.ntmps25
    go_wp2
    go_step3
    go_wp2
    (try rw [Exit.noGoto_ret])
    go_ret2
    exact ⟨rfl, h.more, Touch.refl _ _⟩
  have g1 : decide (port < 0) = false := by simpa using h1
  by_cases h2 : 65535 < port
  · have g2 : decide (65535 < port) = true := by simpa using h2
    clear hb
    go_enter Try.func25, Try.ntmps25
    go_wp2
    go_step3
    go_wp2
    (try rw [Exit.noGoto_ret])
    go_ret2
    exact ⟨rfl, h.more, Touch.refl _ _⟩
  have g2 : decide (65535 < port) = false := by simpa using h2
  have g3 : decide (who < 0) = true := by simp; omega
  clear hb
  go_enter Try.func25, Try.ntmps25
  go_wp2
  go_step3
  go_wp2
  (try rw [Exit.noGoto_ret])
  go_ret2
  exact ⟨rfl, h.more, Touch.refl _ _⟩
set_option maxHeartbeats 400000 in
theorem bind_named (w : World) {p b n : Nat} {f : Int → Option Int} {nx : Int} (h : PortsAt w p b n f nx) (hn : n < maxLen) (who port : Int) (h1 : 0 < port) (h2 : port ≤ 65535) (h3 : 0 ≤ who) (h4 : InI who) :
    Calls Try.prog 25 #[.pointer (some ⟨p, 0, none⟩), .int .i64 who, .int .i64 port] w (BEnd w p b (n + 1) (if (f port).isSome then (0, 130, f, nx) else (port, 0, upd f port who, nx))) := by
  have g1 : decide (port < 0) = false := by simp; omega
  have g2 : decide (65535 < port) = false := by simp; omega
  have g3 : decide (who < 0) = false := by simp; omega
  have g4 : decide (0 < port) = true := by simpa using h1
  have hI : InI port := ⟨by omega, by omega⟩
  have c0 := h.1.cell 0
  simp only [List.getElem?_toArray, List.getElem?_cons_zero] at c0
  have hm := h.2.1
  have hne := h.ne
  by_cases ht : (f port).isSome = true
  · rw [if_pos ht]
    have HN := Lib.hid hne
    clear hne
    go_enter Try.func25, Try.ntmps25

    go_wp2
    go_step3
    go_wp2_with (at_lookup; refine wpList_look rfl (.tmp 28) (.tmp 29) rfl hm hI rfl rfl ?_)
    rw [Exit.noGoto_ret]
    go_ret2
    exact ⟨rfl, h.more, Touch.refl _ _⟩
  · rw [if_neg ht]
    have ht' : (f port).isSome = false := by simpa using ht
    have HN := Lib.hid hne
    clear hne ht
    go_enter Try.func25, Try.ntmps25
    go_wp2
    go_step3
    go_wp2_with (first | (at_lookup; refine wpList_look rfl (.tmp 28) (.tmp 29) rfl hm hI rfl rfl ?_) | (at_mapUpdate; refine wpList_put rfl (.tmp 37) (.tmp 38) (.tmp 39) rfl hm hn hI h4 rfl rfl rfl ?_; intro w1 hm1 hg1))
    rw [Exit.noGoto_ret]
    go_ret2
    have hb1 : Blk w1 p 95 #[.map (some b), .int .i64 nx] := (hg1.block p h.1.lt (fun e => HN.out (by injection e))).trans h.1
    exact ⟨rfl, ⟨hb1, hm1, h.2.2⟩, Touch.grown hg1 (fun r e => by injection e with e; exact .inr e.symm)⟩
theorem search_step {f : Int → Option Int} {k : Nat} {n : Int} (h : (f n).isSome = true) : search f (k + 1) n = search f k (behindP n) := by rw [search, if_pos h]
theorem search_hit {f : Int → Option Int} {k : Nat} {n : Int} (h : (f n).isSome = false) : search f (k + 1) n = some n := by rw [search, if_neg (by simp [h])]
set_option maxRecDepth 100000 in
set_option maxHeartbeats 1000000 in
theorem bind_free (w : World) {p b n : Nat} {f : Int → Option Int} {nx : Int} (h : PortsAt w p b n f nx) (hn : n < maxLen) (who : Int) (h3 : 0 ≤ who) (h4 : InI who) (R : Int × Int × (Int → Option Int) × Int)
    (hR : R = match search f 16384 nx with | none => (0, 130, f, nx) | some n => (n, 0, upd f n who, behindP n)) :
    Calls Try.prog 25 #[.pointer (some ⟨p, 0, none⟩), .int .i64 who, .int .i64 0] w (BEnd w p b (n + 1) R) := by
  have g3 : decide (who < 0) = false := by simp; omega
  have c0 := h.1.cell 0
  simp only [List.getElem?_toArray, List.getElem?_cons_zero] at c0
  have c1 := h.1.cell 1
  simp only [List.getElem?_toArray, List.getElem?_cons_succ, List.getElem?_cons_zero] at c1
  have hm := h.2.1
  have HN := Lib.hid h.ne
  have HR := Lib.hid hR
  clear hR
  go_enter Try.func25, Try.ntmps25
  go_wp2
  go_step3
  go_wp2_with (with_reducible apply wp_label)
  go_loop [2, 45] (fun m i => ∃ (k : Nat) (x : Int), k ≤ 16384 ∧ i = .int .i64 k ∧ m = .int .i64 x ∧ 49152 ≤ x ∧ x ≤ 65535 ∧ Hid (search f (16384 - k) x = search f 16384 nx)) (fun _ i => 16384 - (intOf i).toNat)
  case atStart => exact ⟨0, nx, Nat.zero_le _, rfl, rfl, h.2.2.1, h.2.2.2, rfl⟩
  case round =>
    obtain ⟨k, x, hk, rfl, rfl, hx0, hx1, hs⟩ := hrel
    by_cases hlt : k < 16384
    · have hI : InI x := ⟨by omega, by omega⟩
      by_cases ht : (f x).isSome = true
      · go_wp2_with (first | (at_lookup; refine wpList_look rfl (.tmp 51) (.tmp 52) rfl hm hI rfl rfl ?_) | (go_at_call 59; refine (ubehind _ _ hx0 hx1).mono ?_; rintro e w' ⟨rfl, rfl⟩))
        obtain ⟨y0, y1⟩ := behindP_bd hx0 hx1
        go_round
        case rel => exact ⟨k + 1, behindP x, by omega, by go_num, rfl, y0, y1, by unfold Hid; rw [← hs.out, show 16384 - k = (16384 - (k + 1)) + 1 from by omega, search_step ht]⟩
        case measure => simp [intOf]; omega
      · have ht' : (f x).isSome = false := by simpa using ht
        clear ht
        go_wp2_with (first | (at_lookup; refine wpList_look rfl (.tmp 51) (.tmp 52) rfl hm hI rfl rfl ?_))
        obtain ⟨v0, st, W1, he1, hg1, he2⟩ := entry_run (w := w.drew) (hm.same rfl) hn hI
        obtain ⟨W2, hr2, hm2, hg2⟩ := he2 who h4 W1 rfl
        have hB1 : Blk W1 p 95 #[.map (some b), .int .i64 nx] := (hg1.block p h.1.lt (fun e => HN.out (by injection e))).trans h.1
        have hB2 : Blk W2 p 95 #[.map (some b), .int .i64 nx] := (hg2.block p hB1.lt (fun e => HN.out (by injection e))).trans hB1
        have a0 : W1.cell? ⟨p, 0, none⟩ = some (.map (some b)) := hB1.cell 0
        have d1 : W2.cell? ⟨p, 1, none⟩ = some (.int .i64 nx) := hB2.cell 1
        have d2 : W2.frozen? ⟨p, 1, none⟩ = false := hB2.free 1
        have e1 : (Instr.mapEntry 93 (.map (some b)) (.int .i64 x)).run Try.prog w.drew = .ok (.tuple #[v0, .int .i64 (st : Int)]) W1 := he1
        have e2 : (Instr.entryStore 93 (.map (some b)) (.int .i64 (st : Int)) (.int .i64 who)).run Try.prog W1 = .ok () W2 := hr2
        have hlast : search f 16384 nx = some x := by rw [← hs.out, show 16384 - k = (16384 - (k + 1)) + 1 from by omega, search_hit ht']
        have HL := Lib.hid hlast
        have HT := Lib.hid ht'
        clear he1 he2 hr2 hlast ht' hm
        go_region_with (go_at_call 59; refine (ubehind _ _ hx0 hx1).mono ?_; rintro e w' ⟨rfl, rfl⟩)
        all_goals
          clear e1 e2 a0 d1 d2
          go_wp2
          (try rw [Exit.noGoto_ret])
          go_ret2
          have hR' := HR.out
          rw [HL.out] at hR'
          obtain ⟨y0, y1⟩ := behindP_bd hx0 hx1
          rw [hR']
          refine ⟨rfl, ⟨hB2.set 1 _, hm2.same (Below.heap_setCell _ _ _ _ (fun e => HN.out e.symm)), y0, y1⟩, ?_⟩
          have T1 : Touch (fun k => k = p ∨ k = b) w W1 := (Touch.refl _ w).drew.trans (Touch.grown hg1 (fun r e => by injection e with e; exact .inr e.symm))
          exact (T1.trans (Touch.grown hg2 (fun r e => by injection e with e; exact .inr e.symm))).trans (Touch.set W2 (.inl rfl) _)
    · have hk2 : k = 16384 := by omega
      subst hk2
      go_wp2
      (try rw [Exit.noGoto_ret])
      go_ret2
      have hs' := hs.out
      have hR' := HR.out
      rw [← hs'] at hR'
      rw [hR']
      exact ⟨rfl, h.more, Touch.refl _ _⟩
/-- udp.Bind. -/
theorem ubind (w : World) {p b n : Nat} {f : Int → Option Int} {nx : Int} (h : PortsAt w p b n f nx) (hn : n < maxLen) (who port : Int) (h4 : InI who) :
    Calls Try.prog 25 #[.pointer (some ⟨p, 0, none⟩), .int .i64 who, .int .i64 port] w (BEnd w p b (n + 1) (bindR f nx who port)) := by
  unfold bindR
  by_cases h1 : port < 0 ∨ 65535 < port ∨ who < 0
  · rw [if_pos h1]
    exact bind_arg w h who port h1
  · rw [if_neg h1]
    by_cases h2 : 0 < port
    · rw [if_pos h2]
      exact bind_named w h hn who port h2 (by omega) (by omega) h4
    · rw [if_neg h2]
      obtain rfl : port = 0 := by omega
      exact bind_free w h hn who (by omega) h4 _ rfl
end Go.Proofs.Ytbhdojpgjmbogaa
