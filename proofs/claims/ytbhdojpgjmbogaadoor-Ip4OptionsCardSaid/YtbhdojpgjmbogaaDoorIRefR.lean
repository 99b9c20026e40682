/- packhorseref09.Right: are options right? -/
import Derived.Test.YtbhdojpgjmbogaaDoorIRight
namespace Go.Proofs.YtbhdojpgjmbogaaDoor
open Go.RowKit Go.Shelf
theorem okO_nil : okO [] = true := by unfold okO; rw [lefts_nil]; rfl
theorem okO_zero {x : UInt8} {t : List UInt8} (h : x.toNat = 0) : okO (x :: t) = allc 0 (x :: t) := by
  unfold okO
  cases ha : allc 0 (x :: t) with
  | true => rw [lefts_end h ha]; rfl
  | false => rw [lefts_end' h ha]; rfl
theorem okO_one {x : UInt8} {t : List UInt8} (h : x.toNat = 1) : okO (x :: t) = okO t := by unfold okO; rw [lefts_one h]; simp [allP]
theorem okO_short {x : UInt8} (h : 2 ≤ x.toNat) : okO [x] = false := by unfold okO; rw [lefts_short h]; rfl
theorem okO_bad {x s : UInt8} {t : List UInt8} (h : 2 ≤ x.toNat) (hs : s.toNat < 2 ∨ t.length + 2 < s.toNat) : okO (x :: s :: t) = false := by unfold okO; rw [lefts_bad h hs]; rfl
theorem okO_more {x s : UInt8} {t : List UInt8} (h : 2 ≤ x.toNat) (h2 : 2 ≤ s.toNat) (h3 : s.toNat ≤ t.length + 2) : okO (x :: s :: t) = okO ((x :: s :: t).drop s.toNat) := by unfold okO; rw [lefts_more h h2 h3]; simp [allP]
theorem allc_take (c : UInt8) (l : List UInt8) (k : Nat) (hk : k < l.length) : allc c (l.take (k + 1)) = (allc c (l.take k) && (l[k] == c)) := by
  rw [List.take_succ_eq_append_getElem hk, allc_snoc]
theorem allc_not (c : UInt8) (l : List UInt8) (k : Nat) (hk : k < l.length) (h : (l[k] == c) = false) : allc c l = false := by
  cases ha : allc c l with
  | false => rfl
  | true =>
    have := (List.all_eq_true.1 ha) l[k] (List.getElem_mem hk)
    rw [h] at this
    cases this
def lenOf (v : Value) : Nat := match v with | .slice _ n _ => n | _ => 0
set_option maxRecDepth 100000 in
set_option maxHeartbeats 8000000 in
theorem rright (v : Value) (b : List UInt8) (w : World) (hr : Rd w v b) :
    Calls Tryd.prog 24 #[v] w fun e w' => e = .returned (.bool (okO b)) ∧ w = w' := by
  go_enter Tryd.func24, Tryd.ntmps24
  go_wp2
  go_loop [0] (fun u => ∃ m, Rd w u m ∧ Hid (okO m = okO b)) (fun u => lenOf u)
  case atStart => exact ⟨b, hr, rfl⟩
  case round =>
    obtain ⟨m, hm, ha⟩ := hrel
    clear hr
    obtain ⟨A, c, rfl, hc1, hc2⟩ := hm.form
    cases m with
    | nil =>
      go_wp2
      go_ret
      exact ⟨ret_bool (a := true) (by rw [← ha.out, okO_nil]), rfl⟩
    | cons x t =>
      obtain ⟨bb, oo, rfl, hbl, hcs⟩ := hm.at_ 0 (by simp)
      have d0 := hcs 0 (by simp)
      simp only [Nat.add_zero, List.getElem_cons_zero] at d0
      have hx := UInt8.toNat_lt x
      obtain ⟨n, hn⟩ : ∃ n, n = (x :: t).length := ⟨_, rfl⟩
      have Hcs := Lib.hid hcs
      clear hcs
      rw [← hn] at hm hc1 ⊢
      have hn1 : 1 ≤ n := by rw [hn]; simp
      have Hn := Lib.hid hn
      clear hn
      by_cases x0 : x.toNat = 0
      · have g0 : ((x.toNat : Int) == 0) = true := by simpa using x0
        rw [okO_zero x0] at ha
        obtain ⟨L, hL⟩ : ∃ L, L = x :: t := ⟨_, rfl⟩
        rw [← hL] at hm ha Hn Hcs
        clear hL
        go_wp2
        clear d0
        go_loop [3] (fun i => ∃ k : Nat, i = .int .i64 k ∧ k ≤ n ∧ Hid (allc 0 (L.take k) = true)) (fun i => n - (intOf i).toNat)
        case atStart => exact ⟨0, rfl, Nat.zero_le _, rfl⟩
        case round =>
          obtain ⟨k, rfl, hk, hz⟩ := hrel
          by_cases hlt : k < n
          · have hkL : k < L.length := by rw [← Hn.out]; exact hlt
            have dk := Hcs.out k hkL
            obtain ⟨y, hy⟩ : ∃ y, y = L[k] := ⟨_, rfl⟩
            rw [← hy] at dk
            have HY := Lib.hid hy
            clear hy
            by_cases y0 : y.toNat = 0
            · have g1 : ((y.toNat : Int) != 0) = false := by simp [y0]
              have hy0 : y = 0 := UInt8.toNat.inj (by simpa using y0)
              have HY0 := Lib.hid hy0
              clear y0 hy0
              go_wp2
              go_round
              case rel => exact ⟨k + 1, by go_num, by omega, by unfold Hid; rw [allc_take 0 L k hkL, hz.out, ← HY.out, HY0.out]; rfl⟩
              case measure => simp [intOf]; omega
            · have g1 : ((y.toNat : Int) != 0) = true := by simp; omega
              have hy0 : (L[k] == 0) = false := by rw [← HY.out]; simp; intro h; exact y0 (by rw [h]; rfl)
              have HF := Lib.hid (allc_not 0 L k hkL hy0)
              clear hy0
              go_wp2
              go_ret
              exact ⟨ret_bool (a := false) (by rw [← ha.out, HF.out]), rfl⟩
          · obtain rfl : k = n := by omega
            go_wp2
            go_ret
            exact ⟨ret_bool (a := true) (by rw [← ha.out, ← hz.out, Hn.out, List.take_length]), rfl⟩
      · have g0 : ((x.toNat : Int) == 0) = false := by simpa using x0
        by_cases x1 : x.toNat = 1
        · have g1 : ((x.toNat : Int) == 1) = true := by simp; omega
          rw [okO_one x1] at ha
          go_wp2_with ((with_reducible refine at_slot 27 ?_); refine wpList_slice rfl (.tmp 26) (some (.const (.int .i64 1))) none rfl _ (x :: t) rfl hm 1 (n : Int) (.yes rfl rfl) (by rw [Hn.out]; exact IsBound.no) (by omega) (by omega) (by rw [Hn.out]; exact Int.le_refl _) ?_; intro m1 A1 c1 hm1 k1 k2 k3 k4 hr1)
          have e : m1 = t := by rw [hm1.out, Hn.out]; simp
          go_round
          case rel => exact ⟨m1, hr1, by unfold Hid; rw [e]; exact ha.out⟩
          case measure => simp [lenOf]; omega
        · have g1 : ((x.toNat : Int) == 1) = false := by simp; omega
          have hx2 : 2 ≤ x.toNat := by omega
          cases t with
          | nil =>
            have hn2 : n = 1 := by rw [Hn.out]; rfl
            subst hn2
            have HF := Lib.hid (okO_short hx2)
            go_wp2
            go_ret
            exact ⟨ret_bool (a := false) (by rw [← ha.out, HF.out]), rfl⟩
          | cons s t =>
            have hst := Hcs.out 1 (by simp)
            simp only [List.getElem_cons_succ, List.getElem_cons_zero] at hst
            have hmt : n = t.length + 2 := by rw [Hn.out]; rfl
            have Hmt := Lib.hid hmt
            have hm2 : (2 : Int) ≤ (n : Int) := by omega
            have i1 : (1 : Int) < (n : Int) := by omega
            have gl : decide ((n : Int) < 2) = false := by simp; omega
            have gl2 : decide (n < 2) = false := by simp; omega
            clear hmt
            have hs := UInt8.toNat_lt s
            by_cases hbad : s.toNat < 2
            · have g2 : decide ((s.toNat : Int) < 2) = true := by simp; omega
              have HF := Lib.hid (okO_bad (t := t) hx2 (.inl hbad))
              go_wp2
              go_ret
              exact ⟨ret_bool (a := false) (by rw [← ha.out, HF.out]), rfl⟩
            · have g2 : decide ((s.toNat : Int) < 2) = false := by simp; omega
              by_cases hbad2 : n < s.toNat
              · have g3 : decide (n < s.toNat) = true := by simpa using hbad2
                have HF := Lib.hid (okO_bad (x := x) (s := s) (t := t) hx2 (.inr (by rw [← Hmt.out]; exact hbad2)))
                clear hbad hbad2
                go_wp2
                go_ret
                exact ⟨ret_bool (a := false) (by rw [← ha.out, HF.out]), rfl⟩
              · have g3 : decide (n < s.toNat) = false := by simpa using hbad2
                have hs2 : (2 : Int) ≤ (s.toNat : Int) := by omega
                have hs3 : (s.toNat : Int) ≤ (n : Int) := by omega
                have HF := Lib.hid (okO_more (x := x) (s := s) (t := t) hx2 (by omega) (by rw [← Hmt.out]; omega))
                clear hbad hbad2
                go_wp2_with ((with_reducible refine at_slot 51 ?_); refine wpList_slice rfl (.tmp 46) (some (.tmp 50)) none rfl _ (x :: s :: t) rfl hm (s.toNat : Int) (n : Int) (.yes rfl rfl) (by rw [Hn.out]; exact IsBound.no) (by omega) (by omega) (by rw [Hn.out]; exact Int.le_refl _) ?_; intro m1 A1 c1 hm1 k1 k2 k3 k4 hr1)
                have e : m1 = (x :: s :: t).drop s.toNat := by rw [hm1.out, Int.toNat_natCast, Int.toNat_natCast, List.take_of_length_le (by rw [← Hn.out]; exact Nat.le_refl _)]
                go_round
                case rel => exact ⟨m1, hr1, by unfold Hid; rw [e, ← HF.out]; exact ha.out⟩
                case measure => simp [lenOf]; omega
end Go.Proofs.YtbhdojpgjmbogaaDoor
