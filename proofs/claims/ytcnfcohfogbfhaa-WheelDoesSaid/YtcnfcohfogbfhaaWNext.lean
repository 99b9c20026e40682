/- The wheel: when the next timer comes. -/
import Derived.Test.YtcnfcohfogbfhaaWArm
namespace Go.Proofs.Ytcnfcohfogbfhaa
open Go.RowKit Go.Shelf
/-- All slots' rows. -/
def slotsV (V : Nat → Value) : List Value := (List.range 32).map V
theorem WAt.range {w : World} {B p : Nat} {V : Nat → Value} {now : Int} {A : List Tm} {ord : Int} (h : WAt w B p V now A ord) : w.rangeAt p 1 (slotsV V) := by
  intro j v hj
  have hl : j < 32 := by
    have := (List.getElem?_eq_some_iff.1 hj).1
    simpa [slotsV] using this
  have e : V j = v := by simpa [slotsV, hl] using hj
  rw [← e]
  exact h.cs j hl
theorem slots_info : (Try.prog.info? 55).map (·.size) = some 32 := by kernel_rfl
theorem slots_len (V : Nat → Value) : (Try.prog.info? 55).map (·.size) = some (slotsV V).length := by rw [slots_info]; simp [slotsV]
/-- One slot of a whole array. -/
theorem run_slot (V : Nat → Value) (s : Nat) (hs : s < 32) (w : World) : (Instr.index 55 (.agg (slotsV V).toArray) (.int .i64 s)).run Try.prog w = .ok (V s) w := by
  have h2 : (slotsV V)[s]? = some (V s) := by simp [slotsV, hs]
  have h3 : (sizeOf 54).run Try.prog w = .ok 1 w := Try.sizeOf54 w
  simp [Instr.index, run_underlying (Try.underlying55), asIntOf, hs, h3, part, h2]
/-- Of those that were seen the first. -/
def NextP (S : Tm → Prop) (n : Int) (b : Bool) : Prop := (b = false ∧ n = 0 ∧ ∀ t, ¬ S t) ∨ (b = true ∧ (∃ t, S t ∧ t.due = n) ∧ ∀ t, S t → n ≤ t.due)
theorem NextP.congr {S S' : Tm → Prop} {n : Int} {b : Bool} (h : NextP S n b) (e : ∀ t, S t ↔ S' t) : NextP S' n b := by
  have : S = S' := funext fun t => propext (e t)
  rw [← this]
  exact h
/-- One more is seen: it is the first one. -/
theorem NextP.take {S : Tm → Prop} {n : Int} {b : Bool} (h : NextP S n b) (u : Tm) (hu : b = false ∨ u.due < n) : NextP (fun t => S t ∨ t = u) u.due true := by
  refine .inr ⟨rfl, ⟨u, .inr rfl, rfl⟩, ?_⟩
  rintro t (ht | rfl)
  · rcases h with ⟨_, _, h⟩ | ⟨h1, _, h⟩
    · exact absurd ht (h t)
    · rcases hu with hu | hu
      · rw [hu] at h1; cases h1
      · have := h t ht
        omega
  · omega
/-- .. or it isn't. -/
theorem NextP.keep {S : Tm → Prop} {n : Int} (h : NextP S n true) (u : Tm) (hu : n ≤ u.due) : NextP (fun t => S t ∨ t = u) n true := by
  rcases h with ⟨h, _⟩ | ⟨_, ⟨t0, h1, h2⟩, h3⟩
  · cases h
  · refine .inr ⟨rfl, ⟨t0, .inl h1, h2⟩, ?_⟩
    rintro t (ht | rfl)
    · exact h3 t ht
    · exact hu
theorem boxT {w : World} {t : Tm} {motive : World → Prop} (h : ∀ X, Below w.heap.size w X → w.heap.size + 1 = X.heap.size → Blk X w.heap.size 60 #[.int .i64 t.id, .int .i64 t.due, .int .i64 t.ord] → motive X) :
    motive (w.alloc (.cells #[.int .i64 t.id, .int .i64 t.due, .int .i64 t.ord] 60)) :=
  h _ ((Below.refl w.heap.size w).alloc (Nat.le_refl _) _) (by simp) (Blk.new w 60 _ _ rfl)
set_option maxRecDepth 100000 in
set_option maxHeartbeats 8000000 in
theorem tnext {w : World} {B p : Nat} {V : Nat → Value} {now : Int} {A : List Tm} {ord : Int} (h : WAt w B p V now A ord) :
    Calls Try.prog 21 #[.pointer (some ⟨p, 0, none⟩)] w fun e w' => (∃ n b, e = .returned (.tuple #[.int .i64 n, .bool b]) ∧ NextP (fun t => t ∈ A) n b) ∧ Below w.heap.size w w' := by
  have hrg := h.range
  have hln := slots_len V
  have hix := run_slot V
  obtain ⟨vs, hvs⟩ : ∃ vs, vs = slotsV V := ⟨_, rfl⟩
  rw [← hvs] at hrg hln hix
  clear hvs
  go_enter Try.func21, Try.ntmps21
  go_wp2_with ((with_reducible refine at_slot 13 ?_); refine wpList_load_mid rfl 55 (.tmp 12) rfl p 1 rfl _ _ hrg Try.underlying55 rfl hln ?_)
  generalize vs.toArray = arr at *
  clear hrg hln
  go_loopw [4, 5, 7, 9, 14] (fun n b _ _ i wr => ∃ (s : Nat) (nn : Int) (bb : Bool), n = .int .i64 nn ∧ b = .bool bb ∧ i = .int .i64 s ∧ s ≤ 32 ∧ Hid (NextP (fun t => t ∈ A ∧ t.due % 32 < (s : Int)) nn bb) ∧ Below w.heap.size w wr) (fun _ _ _ _ i _ => 32 - (intOf i).toNat)
  case atStart => exact ⟨0, 0, false, rfl, rfl, rfl, by omega, .inl ⟨rfl, rfl, fun t ht => by have := ht.2; omega⟩, Below.refl _ _⟩
  case round =>
    obtain ⟨s, nn, bb, rfl, rfl, rfl, hs, hP, hb⟩ := hrel
    by_cases hlt : s < 32
    · have hr := h.mono hb
      have hrow := (hr.row s hlt).rd
      have hxs := hix s hlt
      obtain ⟨As, cc, eV, hc1, hc2⟩ := hrow.form
      rw [eV] at hxs hrow
      obtain ⟨n, hn⟩ : ∃ n, n = (slotL A s).length := ⟨_, rfl⟩
      rw [← hn] at hxs hrow hc1
      have HN := Lib.hid hn
      have HP := hP
      clear eV hr hn hix
      go_wp2
      go_loopw [4, 5, 9, 19] (fun n1 b1 _ i wi => ∃ (k : Nat) (nk : Int) (bk : Bool), n1 = .int .i64 nk ∧ b1 = .bool bk ∧ i = .int .i64 k ∧ k ≤ n ∧ Hid (NextP (fun t => (t ∈ A ∧ t.due % 32 < (s : Int)) ∨ ∃ j, j < k ∧ (slotL A s)[j]? = some t) nk bk) ∧ Below w.heap.size w wi ∧ Below wr.heap.size wr wi) (fun _ _ _ i _ => n - (intOf i).toNat)
      case atStart => exact ⟨0, nn, bb, rfl, rfl, rfl, Nat.zero_le _, hP.out.congr fun t => ⟨.inl, fun h => h.elim id fun ⟨j, hj, _⟩ => by omega⟩, hb, Below.refl _ _⟩
      case round =>
        obtain ⟨k, nk, bk, rfl, rfl, rfl, hk, hPk, hbi, hbr⟩ := hrel
        obtain ⟨wi, rfl⟩ : ∃ wi, wi = wr := ⟨_, rfl⟩
        by_cases hkl : k < n
        · have hki : k < (slotL A s).length := by rw [← HN.out]; exact hkl
          obtain ⟨b0, o0, rfl, _, hc⟩ := (hrow.mono hbr).at_ tm_len (by omega)
          obtain ⟨t, ht⟩ : ∃ t, t = (slotL A s)[k] := ⟨_, rfl⟩
          have c0 := hc k hki 0 (.int .i64 t.id) (by subst ht; rfl)
          have c1 := hc k hki 1 (.int .i64 t.due) (by subst ht; rfl)
          have c2 := hc k hki 2 (.int .i64 t.ord) (by subst ht; rfl)
          have hnx : ∀ (n2 : Int) (b2 : Bool), NextP (fun u => ((u ∈ A ∧ u.due % 32 < (s : Int)) ∨ ∃ j, j < k ∧ (slotL A s)[j]? = some u) ∨ u = t) n2 b2 → Hid (NextP (fun u => (u ∈ A ∧ u.due % 32 < (s : Int)) ∨ ∃ j, j < k + 1 ∧ (slotL A s)[j]? = some u) n2 b2) := fun n2 b2 h => h.congr fun u => by
            constructor
            · rintro ((h | ⟨j, hj, e⟩) | rfl)
              · exact .inl h
              · exact .inr ⟨j, by omega, e⟩
              · exact .inr ⟨k, by omega, by rw [List.getElem?_eq_getElem hki, ht]⟩
            · rintro (h | ⟨j, hj, e⟩)
              · exact .inl (.inl h)
              · by_cases hjk : j = k
                · subst hjk
                  rw [List.getElem?_eq_getElem hki, ← ht] at e
                  injection e with e
                  exact .inr e.symm
                · exact .inl (.inr ⟨j, by omega, e⟩)
          have HNX := Lib.hid hnx
          have hkl' : (k : Int) < n := by omega
          clear hc ht hnx HP hP hrow
          rw [Nat.add_zero] at c0
          go_upto_region 8 with (fail)
          refine boxT (t := t) (motive := fun X => Code.wp Try.prog _ _ _ X) ?_
          intro X hBX hX hbx
          have hbX := below_step hbi hbi.size hBX
          have hbX2 := below_step hbr hbr.size hBX
          have d1 : X.cell? ⟨wi.heap.size, 1, none⟩ = some (.int .i64 t.due) := hbx.cell 1
          clear c0 c1 c2 hbx hBX hX hbi hbr
          by_cases hb2 : bk = false
          · subst hb2
            have HR := Lib.hid (HNX.out _ _ (hPk.out.take t (.inl rfl)))
            clear hPk HNX
            go_wp2
            go_roundw
            case rel => exact ⟨k + 1, t.due, true, rfl, rfl, by go_num, by omega, HR.out, hbX, hbX2⟩
            case measure => simp [intOf]; omega
          · obtain rfl : bk = true := by simpa using hb2
            by_cases hd : t.due < nk
            · have q1 : decide (t.due < nk) = true := by simpa using hd
              have HR := Lib.hid (HNX.out _ _ (hPk.out.take t (.inr hd)))
              clear hPk HNX hd hb2
              go_wp2
              go_roundw
              case rel => exact ⟨k + 1, t.due, true, rfl, rfl, by go_num, by omega, HR.out, hbX, hbX2⟩
              case measure => simp [intOf]; omega
            · have q1 : decide (t.due < nk) = false := by simpa using hd
              have HR := Lib.hid (HNX.out _ _ (hPk.out.keep t (by omega)))
              clear hPk HNX hd hb2
              go_wp2
              go_roundw
              case rel => exact ⟨k + 1, nk, true, rfl, rfl, by go_num, by omega, HR.out, hbX, hbX2⟩
              case measure => simp [intOf]; omega
        · obtain rfl : k = n := by omega
          have hS : NextP (fun t => t ∈ A ∧ t.due % 32 < ((s + 1 : Nat) : Int)) nk bk := hPk.out.congr fun t => by
            constructor
            · rintro (⟨h1, h2⟩ | ⟨j, _, h2⟩)
              · exact ⟨h1, by omega⟩
              · have := mem_slotL.1 (List.mem_of_getElem? h2)
                exact ⟨this.1, by omega⟩
            · rintro ⟨h1, h2⟩
              by_cases h3 : t.due % 32 < (s : Int)
              · exact .inl ⟨h1, h3⟩
              · right
                obtain ⟨j, hj, e⟩ := List.getElem_of_mem (mem_slotL.2 ⟨h1, show t.due % 32 = (s : Int) by omega⟩)
                exact ⟨j, by rw [HN.out]; exact hj, by rw [List.getElem?_eq_getElem hj, e]⟩
          have HS := Lib.hid hS
          clear hS hPk hP HP
          go_wp2
          go_roundw
          case rel => exact ⟨s + 1, nk, bk, rfl, rfl, by go_num, by omega, HS.out, hbi⟩
          case measure => simp [intOf]; omega
    · obtain rfl : s = 32 := by omega
      have hP' : NextP (fun t => t ∈ A) nn bb := hP.out.congr fun t => ⟨fun h => h.1, fun h => ⟨h, by omega⟩⟩
      have HP' := Lib.hid hP'
      clear hP hP' hix
      go_wp2
      go_ret2
      exact ⟨⟨nn, bb, rfl, HP'.out⟩, hb⟩
end Go.Proofs.Ytcnfcohfogbfhaa
