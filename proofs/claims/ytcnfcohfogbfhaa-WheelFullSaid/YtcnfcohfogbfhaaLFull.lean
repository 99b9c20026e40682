/- WheelFull: the walk: it answers true. -/
import Derived.Test.YtcnfcohfogbfhaaWAwake
import Derived.Test.YtcnfcohfogbfhaaWRowP
namespace Go.Proofs.Ytcnfcohfogbfhaa
open Go.RowKit Go.Shelf
theorem arm_len {now : Int} {A : List Tm} {ord id tk : Int} (ok : WOk now A ord) (h : armE now A id tk = 0) : ((armL now A ord id tk).length : Int) = if has A id then (A.length : Int) else A.length + 1 := by
  unfold armL
  rw [if_pos h, List.length_append]
  by_cases hx : has A id = true
  · have := rid_len_has ok.uniq hx
    rw [if_pos hx]
    simp
    omega
  · have hx' : has A id = false := by simpa using hx
    rw [if_neg hx, rid_none (not_has hx')]
    simp
theorem arm_due {now : Int} {A : List Tm} {ord id tk : Int} (h : ∀ t ∈ A, t.due = tk) : ∀ t ∈ armL now A ord id tk, t.due = tk := by
  unfold armL
  split
  · intro t ht
    rcases List.mem_append.1 ht with ht | ht
    · exact h t (List.mem_filter.1 ht).1
    · simp only [List.mem_cons, List.not_mem_nil, or_false] at ht
      rw [ht]
  · exact h
set_option maxRecDepth 100000 in
set_option maxHeartbeats 8000000 in
theorem law_full (v : Value) (l : List Int) (w : World) (hr : RdN w v l) (hl : l.length ≤ 140737488351232) :
    Calls Try.prog 4 #[v] w fun e w' => e = .returned (.bool true) ∧ Below w.heap.size w w' := by
  obtain ⟨Al, cl, rfl, _, _⟩ := hr.form
  obtain ⟨n, hn⟩ : ∃ n, n = l.length := ⟨_, rfl⟩
  rw [← hn] at hr hl ⊢
  have HN := Lib.hid hn
  clear hn
  go_enter Try.func4, Try.ntmps4
  go_wp2_with fail
  refine (wawake w).mono ?_
  rintro e w1 ⟨rfl, hb1⟩
  go_wp2_with fail
  refine (tnew 0 (by decide) w1 w.heap.size hb1.size).mono ?_
  rintro e w2 ⟨rfl, h2, hb2⟩
  obtain ⟨p, hp⟩ : ∃ p, p = w1.heap.size := ⟨_, rfl⟩
  rw [← hp] at h2 ⊢
  have hB2 := below_step hb1 hb1.size hb2
  have ok2 : WOk 0 [] 0 := .new (by decide)
  clear hb1 hb2 hp
  go_wp2
  go_loopw [6, 7, 8, 9, 10] (fun m i _ _ _ wr => ∃ (k : Nat) (A : List Tm) (ord : Int) (V : Nat → Value), m = .int .i64 A.length ∧ i = .int .i64 k ∧ k ≤ n ∧ WAt wr w.heap.size p V 0 A ord ∧ Hid (WOk 0 A ord ∧ (∀ t ∈ A, t.due = 5) ∧ ord ≤ k) ∧ Below w.heap.size w wr) (fun _ i _ _ _ _ => n - (intOf i).toNat)
  case atStart => exact ⟨0, [], 0, _, rfl, rfl, Nat.zero_le _, h2, ⟨ok2, by simp, by omega⟩, hB2⟩
  case round =>
    obtain ⟨k, A, ord, V, rfl, rfl, hk, h, hok, hB⟩ := hrel
    clear h2 ok2 hB2
    by_cases hkl : k < n
    · have hki : k < l.length := by rw [← HN.out]; exact hkl
      obtain ⟨b0, o0, rfl, hb0, hc⟩ := (hr.mono hB).at_ i_len (by omega)
      obtain ⟨id, hid⟩ : ∃ id, id = l[k] := ⟨_, rfl⟩
      have c0 := hc k hki 0 (.int .i64 id) (by subst hid; rfl)
      rw [Nat.add_zero, Nat.mul_one] at c0
      clear hc hid
      have q0 : decide ((k : Int) < n) = true := by simpa using hkl
      have hn' : n ≤ 9223372036854775807 := by omega
      by_cases hneg : id < 0
      · have q1 : decide (id < 0) = true := by simpa using hneg
        clear hneg
        go_wp2
        go_roundw
        case rel => exact ⟨k + 1, A, ord, V, rfl, by go_num, by omega, h, ⟨hok.out.1, hok.out.2.1, by have := hok.out.2.2; omega⟩, hB⟩
        case measure => simp [intOf]; omega
      · have q1 : decide (id < 0) = false := by simpa using hneg
        have ok := hok.out.1
        have HD := Lib.hid hok.out.2.1
        have HO := Lib.hid hok.out.2.2
        have h64 := ok.len
        obtain ⟨x, hx⟩ : ∃ x, x = has A id := ⟨_, rfl⟩
        go_wp2_with fail
        refine (tdue h ok.uniq id).mono ?_
        rintro e w3 ⟨rfl, hb3⟩
        have h3 := h.mono hb3
        have hB3 := below_step hB hB.size hb3
        have d0 : w3.cell? ⟨b0, o0 + k, none⟩ = some (.int .i64 id) := (hb3.cell (p := ⟨b0, o0 + k, none⟩) hb0).trans c0
        rw [← hx]
        generalize dueOf A id = du
        have HX := Lib.hid hx
        clear h hb3 hB c0 hx hb0
        go_wp2_with fail
        refine (tarm h3 ok.uniq ok.len ok.now0 ok.ord0 (by have := HO.out; omega) id 5).mono ?_
        rintro e w4 ⟨rfl, V4, h4, ht4, hf4⟩
        have hB4 := hB3.trans (h3.keep ht4)
        have hok4 := ok.arm id 5
        have hd4 := arm_due (now := 0) (ord := ord) (id := id) HD.out
        have ho4 := armO_le 0 A ord id 5
        have hlen := arm_len (ord := ord) (id := id) (tk := 5) ok
        clear d0 h3 hB3 ht4 hf4
        by_cases hm : has A id = false ∧ A.length = 64
        · have hE : armE 0 A id 5 = 6 := by unfold armE; rw [if_neg (by omega), if_pos hm]
          have hA : armL 0 A ord id 5 = A := by unfold armL; rw [hE]; rfl
          have hO : armO 0 A ord id 5 = ord := by unfold armO; rw [hE]; rfl
          rw [hA, hO] at h4
          obtain rfl : x = false := HX.out.trans hm.1
          have q2 : decide ((A.length : Int) < 64) = false := by simp; omega
          have q3 : decide (64 < (A.length : Int)) = false := by simp; omega
          rw [hE]
          clear hE hA hO hok4 hd4 ho4 hlen hm hneg h64 ok
          go_wp2_with fail
          refine (tlen h4).mono ?_
          rintro e w5 ⟨rfl, rfl⟩
          go_wp2
          go_roundw
          case rel => exact ⟨k + 1, A, ord, V4, rfl, by go_num, by omega, h4, ⟨hok.out.1, hok.out.2.1, by have := hok.out.2.2; omega⟩, hB4⟩
          case measure => simp [intOf]; omega
        · have hE : armE 0 A id 5 = 0 := by unfold armE; rw [if_neg (by omega), if_neg hm]
          have hl4 := hlen hE
          rw [← HX.out] at hl4
          obtain ⟨A', hA'⟩ : ∃ A', A' = armL 0 A ord id 5 := ⟨_, rfl⟩
          obtain ⟨O', hO'⟩ : ∃ O', O' = armO 0 A ord id 5 := ⟨_, rfl⟩
          rw [← hA', ← hO'] at h4 hok4
          rw [← hA'] at hd4 hl4
          rw [← hO'] at ho4
          have hl64 := hok4.len
          have HK := Lib.hid (And.intro hok4 (And.intro hd4 (show O' ≤ ((k + 1 : Nat) : Int) by have := HO.out; omega)))
          rw [hE]
          clear hE hlen hA' hO' hok4 hd4 ho4 hm hneg ok hok HD HO
          cases x with
          | true =>
            rw [if_pos rfl] at hl4
            have q3 : decide (64 < (A.length : Int)) = false := by simp; omega
            go_wp2_with fail
            refine (tlen h4).mono ?_
            rintro e w5 ⟨rfl, rfl⟩
            rw [hl4]
            clear h64 hl64
            go_wp2
            go_roundw
            case rel => exact ⟨k + 1, A', O', V4, by rw [hl4], by go_num, by omega, h4, HK.out, hB4⟩
            case measure => simp [intOf]; omega
          | false =>
            rw [if_neg (by decide)] at hl4
            have q3 : decide (64 < (A.length : Int) + 1) = false := by simp; omega
            have q4 : (A.length : Int) ≤ 64 := by omega
            go_wp2_with fail
            refine (tlen h4).mono ?_
            rintro e w5 ⟨rfl, rfl⟩
            rw [hl4]
            clear h64 hl64
            go_wp2
            go_roundw
            case rel => exact ⟨k + 1, A', O', V4, by rw [hl4], by go_num, by omega, h4, HK.out, hB4⟩
            case measure => simp [intOf]; omega
    · have q0 : decide ((k : Int) < n) = false := by simp; omega
      have ok := hok.out.1
      have hd := hok.out.2.1
      have ho := hok.out.2.2
      have hall : (A.filter fun t => decide (t.due ≤ 5)) = A := List.filter_eq_self.2 fun t ht => by rw [hd t ht]; decide
      have hnone : stL A 5 = [] := List.filter_eq_nil_iff.2 fun t ht => by rw [hd t ht]; decide
      have ok3 := ok.adv (tk := 5) (by decide)
      have hadv := tadv h ok.len (ok.sm (by omega)) 5 (by decide) (by decide)
      rw [hnone] at ok3
      go_wp2_with fail
      refine hadv.mono ?_
      rintro e w3 ⟨v, F, V3, rfl, hp, hs, ho3, -, h3, ht3, -⟩
      rw [hall] at hp
      rw [hnone] at h3
      have hB3 := hB.trans (h.keep ht3)
      obtain ⟨Av, cv, rfl, _, _⟩ := ho3.form
      have hlen : (F.map ctl).length = A.length := by rw [List.length_map, hp.length_eq]
      rw [hlen]
      clear hadv hall hnone hp hs ho3 ht3 h hB hlen hd
      go_wp2_with fail
      refine (tarm_to h3 ok3 (by omega) 1099511627776 6 0 (ord + 1) [⟨1099511627776, 6, ord + 1⟩] (by decide) rfl rfl).mono ?_
      rintro e w4 ⟨rfl, V4, h4, ht4, -⟩
      have hB4 := hB3.trans (h3.keep ht4)
      clear h3 ht4 hB3 ok3 ok hok ho
      go_wp2_with fail
      refine (tlen h4).mono ?_
      rintro e w5 ⟨rfl, rfl⟩
      rw [show (([(⟨1099511627776, 6, ord + 1⟩ : Tm)] : List Tm).length : Int) = 1 from rfl]
      go_wp2
      go_ret
      exact ⟨rfl, hB4⟩
end Go.Proofs.Ytcnfcohfogbfhaa
