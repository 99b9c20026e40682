/- The reference's numbers as bytes and its checksum (packhorseref01). -/
import Derived.Test.YtbhdojpgjmbogaaDoorWord
namespace Go.Proofs.YtbhdojpgjmbogaaDoor
open Go.RowKit
set_option maxHeartbeats 400000 in
theorem rfold (n : Int) (w : World) (h0 : 0 ≤ n) (h1 : n ≤ 9223372036854775807) :
    Calls Tryd.prog 29 #[.int .i64 n] w fun e w' => e = .returned (.int .i64 (fold n)) ∧ w = w' := by
  go_enter Tryd.func29, Tryd.ntmps29
  go_wp2
  go_loop [0] (fun s => ∃ k : Int, 0 ≤ k ∧ k ≤ 9223372036854775807 ∧ s = .int .i64 k ∧ Hid (fold k = fold n)) (fun s => (intOf s).toNat)
  case atStart => exact ⟨n, h0, h1, rfl, rfl⟩
  case round =>
    obtain ⟨k, hk0, hk1, rfl, hf⟩ := hrel
    by_cases hlt : 65535 < k
    · go_wp2
      go_round
      case rel => exact ⟨fold1 k, by unfold fold1; omega, by unfold fold1; omega, rfl, by unfold Hid; rw [← fold_big hlt]; exact hf.out⟩
      case measure => simp [intOf]; omega
    · go_wp2
      go_ret
      rw [← Hid.out hf, fold_small (by omega)]
      exact ⟨rfl, rfl⟩
theorem fold_le (n : Int) : fold n ≤ 65535 := by
  by_cases h : 65535 < n
  · rw [fold_big h]; exact fold_le (fold1 n)
  · rw [fold_small (by omega)]; omega
termination_by n.toNat
decreasing_by unfold fold1; omega
theorem fold_ge (n : Int) (h0 : 0 ≤ n) : 0 ≤ fold n := by
  by_cases h : 65535 < n
  · rw [fold_big h]; exact fold_ge (fold1 n) (by unfold fold1; omega)
  · rw [fold_small (by omega)]; exact h0
termination_by n.toNat
decreasing_by unfold fold1; omega

theorem ret_int {k : IntKind} {a b : Int} (h : a = b) : Ending.returned (.int k a) = .returned (.int k b) := by rw [h]
/-- The sum of the words of bytes, onto one that is there. -/
def sumw : List UInt8 → Int → Int
  | [], s => s
  | [a], s => fold (s + 256 * a.toNat)
  | a :: b :: t, s => sumw t (fold (s + 256 * a.toNat + b.toNat))
theorem sumw_two (l : List UInt8) (k : Nat) (s : Int) (h : k + 1 < l.length) : sumw (l.drop k) s = sumw (l.drop (k + 2)) (fold (s + 256 * l[k].toNat + l[k + 1].toNat)) := by
  rw [List.drop_eq_getElem_cons (by omega), List.drop_eq_getElem_cons h]
  rfl
theorem sumw_one (l : List UInt8) (k : Nat) (s : Int) (h : k < l.length) (h2 : ¬ k + 1 < l.length) : sumw (l.drop k) s = fold (s + 256 * l[k].toNat) := by
  rw [List.drop_eq_getElem_cons h, List.drop_of_length_le (by omega)]
  rfl
set_option maxHeartbeats 400000 in
theorem rsum (v : Value) (l : List UInt8) (w : World) (hr : Rd w v l) (hl : l.length ≤ 140737488355328) :
    Calls Tryd.prog 15 #[v] w fun e w' => e = .returned (.int .i64 (65535 - sumw l 0)) ∧ w = w' := by
  obtain ⟨A, c, rfl, hc1, hc2⟩ := hr.form
  go_enter Tryd.func15, Tryd.ntmps15
  go_wp2
  go_loop [3, 4] (fun s i => ∃ (k : Nat) (t : Int), k ≤ l.length + 1 ∧ i = .int .i64 k ∧ s = .int .i64 t ∧ 0 ≤ t ∧ t ≤ 65535 ∧ Hid (sumw (l.drop k) t = sumw l 0)) (fun _ i => l.length + 1 - (intOf i).toNat)
  case atStart => exact ⟨0, 0, Nat.zero_le _, rfl, rfl, by omega, by omega, by unfold Hid; rfl⟩
  case round =>
    obtain ⟨k, t, hk, rfl, rfl, ht0, ht1, hs⟩ := hrel
    by_cases hlt : k < l.length
    · obtain ⟨b, o, rfl, _, hcs⟩ := hr.at_ k hlt
      have hc := hcs k hlt
      have e2 := UInt8.toNat_lt l[k]
      by_cases hlt2 : k + 1 < l.length
      · have hc' := hcs (k + 1) hlt2
        have e3 := UInt8.toNat_lt l[k + 1]
        clear hcs
        go_wp2_with (go_at_call 29; refine (rfold _ _ (by omega) (by omega)).mono ?_; rintro e w1 ⟨rfl, rfl⟩)
        go_round
        case rel => exact ⟨k + 2, _, by omega, by go_num, rfl, fold_ge _ (by omega), fold_le _, by unfold Hid; rw [← hs.out, sumw_two l k t hlt2]⟩
        case measure => simp [intOf]; omega
      · clear hcs
        go_wp2_with (go_at_call 29; refine (rfold _ _ (by omega) (by omega)).mono ?_; rintro e w1 ⟨rfl, rfl⟩)
        go_round
        case rel => exact ⟨k + 2, _, by omega, by go_num, rfl, fold_ge _ (by omega), fold_le _, by unfold Hid; rw [← hs.out, sumw_one l k t hlt hlt2, List.drop_of_length_le (by omega)]; rfl⟩
        case measure => simp [intOf]; omega
    · go_wp2
      go_ret
      have h := hs.out
      rw [List.drop_of_length_le (by omega)] at h
      rw [← h]
      exact ⟨rfl, rfl⟩
theorem sumw_bd (l : List UInt8) (s : Int) (h0 : 0 ≤ s) (h1 : s ≤ 65535) : 0 ≤ sumw l s ∧ sumw l s ≤ 65535 := by
  match l with
  | [] => exact ⟨h0, h1⟩
  | [a] => exact ⟨fold_ge _ (by omega), fold_le _⟩
  | a :: b :: t => exact sumw_bd t _ (fold_ge _ (by omega)) (fold_le _)

set_option maxHeartbeats 400000 in
theorem rput2 (v : Value) (l : List UInt8) (n : Int) (w : World) (hr : Rd w v l) (hl : l.length ≤ 140737488355326) (h0 : 0 ≤ n) (h1 : n ≤ 9223372036854775807) :
    Calls Tryd.prog 32 #[v, .int .i64 n, .int .i64 2] w fun e w' => ∃ v', e = .returned v' ∧ Ow w' w.heap.size v' (l ++ p16 n) ∧ Below w.heap.size w w' := by
  go_enter Tryd.func32, Tryd.ntmps32
  go_wp2
  go_loop [7, 8] (fun d i => (d = .int .i64 1 ∧ i = .int .i64 1) ∨ (d = .int .i64 256 ∧ i = .int .i64 2)) (fun _ i => 2 - (intOf i).toNat)
  case atStart => exact .inl ⟨rfl, rfl⟩
  case round =>
    rcases hrel with ⟨rfl, rfl⟩ | ⟨rfl, rfl⟩
    · go_wp2
      go_round
      case rel => exact .inr ⟨rfl, rfl⟩
      case measure => decide
    · go_wp2_with ((with_reducible refine at_slot 18 ?_); refine wpList_app rfl (.const (.slice none 0 0)) (.tmp 17) rfl w.heap.size (Ow.nil _ _) hr rfl rfl (by simp; omega) (by simp) ?_; intro v1 w1 ho1 hb1 hg1; rw [List.nil_append] at ho1; clear hg1)
      clear hr
      go_loopw [7, 9] (fun d x wr => (∃ pre, x = pre ∧ Below w.heap.size w wr ∧ ((d = .int .i64 256 ∧ Ow wr w.heap.size pre l) ∨ (d = .int .i64 1 ∧ Ow wr w.heap.size pre (l ++ [by8 (n / 256)])) ∨ (d = .int .i64 0 ∧ Ow wr w.heap.size pre (l ++ p16 n))))) (fun d _ _ => (intOf d).toNat)
      case atStart => exact ⟨_, rfl, hb1, .inl ⟨rfl, ho1⟩⟩
      case round =>
        obtain ⟨x, rfl, hb, hx⟩ := hrel
        clear ho1 hb1
        rcases hx with ⟨rfl, ho⟩ | ⟨rfl, ho⟩ | ⟨rfl, ho⟩
        · go_wp2_with ((with_reducible refine at_slot 28 ?_); refine wpList_app rfl (.tmp 21) (.tmp 27) rfl w.heap.size (ho.mono (below_alloc wr _)) (rd_new wr _ [by8 (n / 256)] 1 (by simp [bv_by8]) rfl (by omega)) rfl rfl (by simp; omega) (by simp; have := hb.size; omega) ?_; intro v2 w2 ho2 hb2 hg2; clear hg2)
          go_roundw
          case rel => exact ⟨_, rfl, (below_step hb hb.size (below_alloc wr _)).trans hb2, .inr (.inl ⟨rfl, ho2⟩)⟩
          case measure => decide
        · go_wp2_with ((with_reducible refine at_slot 28 ?_); refine wpList_app rfl (.tmp 21) (.tmp 27) rfl w.heap.size (ho.mono (below_alloc wr _)) (rd_new wr _ [by8 n] 1 (by simp [bv_by8]) rfl (by omega)) rfl rfl (by simp; omega) (by simp; have := hb.size; omega) ?_; intro v2 w2 ho2 hb2 hg2; clear hg2)
          go_roundw
          case rel => exact ⟨_, rfl, (below_step hb hb.size (below_alloc wr _)).trans hb2, .inr (.inr ⟨rfl, by rw [List.append_assoc] at ho2; exact ho2⟩)⟩
          case measure => decide
        · go_wp2
          go_ret
          exact ⟨_, rfl, ho, hb⟩
set_option maxHeartbeats 800000 in
theorem rput4 (v : Value) (l : List UInt8) (n : Int) (w : World) (hr : Rd w v l) (hl : l.length ≤ 140737488355324) (h0 : 0 ≤ n) (h1 : n ≤ 9223372036854775807) :
    Calls Tryd.prog 32 #[v, .int .i64 n, .int .i64 4] w fun e w' => ∃ v', e = .returned v' ∧ Ow w' w.heap.size v' (l ++ p32 n) ∧ Below w.heap.size w w' := by
  go_enter Tryd.func32, Tryd.ntmps32
  go_wp2
  go_loop [7, 8] (fun d i => (d = .int .i64 1 ∧ i = .int .i64 1) ∨ (d = .int .i64 256 ∧ i = .int .i64 2) ∨ (d = .int .i64 65536 ∧ i = .int .i64 3) ∨ (d = .int .i64 16777216 ∧ i = .int .i64 4)) (fun _ i => 4 - (intOf i).toNat)
  case atStart => exact .inl ⟨rfl, rfl⟩
  case round =>
    rcases hrel with ⟨rfl, rfl⟩ | ⟨rfl, rfl⟩ | ⟨rfl, rfl⟩ | ⟨rfl, rfl⟩
    · go_wp2
      go_round
      case rel => exact .inr (.inl ⟨rfl, rfl⟩)
      case measure => decide
    · go_wp2
      go_round
      case rel => exact .inr (.inr (.inl ⟨rfl, rfl⟩))
      case measure => decide
    · go_wp2
      go_round
      case rel => exact .inr (.inr (.inr ⟨rfl, rfl⟩))
      case measure => decide
    · go_wp2_with ((with_reducible refine at_slot 18 ?_); refine wpList_app rfl (.const (.slice none 0 0)) (.tmp 17) rfl w.heap.size (Ow.nil _ _) hr rfl rfl (by simp; omega) (by simp) ?_; intro v1 w1 ho1 hb1 hg1; rw [List.nil_append] at ho1; clear hg1)
      clear hr
      go_loopw [7, 9] (fun d x wr => (∃ pre, x = pre ∧ Below w.heap.size w wr ∧ ((d = .int .i64 16777216 ∧ Ow wr w.heap.size pre l) ∨ (d = .int .i64 65536 ∧ Ow wr w.heap.size pre (l ++ [by8 (n / 16777216)])) ∨ (d = .int .i64 256 ∧ Ow wr w.heap.size pre (l ++ [by8 (n / 16777216), by8 (n / 65536)]))
          ∨ (d = .int .i64 1 ∧ Ow wr w.heap.size pre (l ++ [by8 (n / 16777216), by8 (n / 65536), by8 (n / 256)])) ∨ (d = .int .i64 0 ∧ Ow wr w.heap.size pre (l ++ p32 n))))) (fun d _ _ => (intOf d).toNat)
      case atStart => exact ⟨_, rfl, hb1, .inl ⟨rfl, ho1⟩⟩
      case round =>
        obtain ⟨x, rfl, hb, hx⟩ := hrel
        clear ho1 hb1
        rcases hx with ⟨rfl, ho⟩ | ⟨rfl, ho⟩ | ⟨rfl, ho⟩ | ⟨rfl, ho⟩ | ⟨rfl, ho⟩
        · go_wp2_with ((with_reducible refine at_slot 28 ?_); refine wpList_app rfl (.tmp 21) (.tmp 27) rfl w.heap.size (ho.mono (below_alloc wr _)) (rd_new wr _ [by8 (n / 16777216)] 1 (by simp [bv_by8]) rfl (by omega)) rfl rfl (by simp; omega) (by simp; have := hb.size; omega) ?_; intro v2 w2 ho2 hb2 hg2; clear hg2)
          go_roundw
          case rel => exact ⟨_, rfl, (below_step hb hb.size (below_alloc wr _)).trans hb2, .inr (.inl ⟨rfl, ho2⟩)⟩
          case measure => decide
        · go_wp2_with ((with_reducible refine at_slot 28 ?_); refine wpList_app rfl (.tmp 21) (.tmp 27) rfl w.heap.size (ho.mono (below_alloc wr _)) (rd_new wr _ [by8 (n / 65536)] 1 (by simp [bv_by8]) rfl (by omega)) rfl rfl (by simp; omega) (by simp; have := hb.size; omega) ?_; intro v2 w2 ho2 hb2 hg2; clear hg2)
          go_roundw
          case rel => exact ⟨_, rfl, (below_step hb hb.size (below_alloc wr _)).trans hb2, .inr (.inr (.inl ⟨rfl, by rw [List.append_assoc] at ho2; exact ho2⟩))⟩
          case measure => decide
        · go_wp2_with ((with_reducible refine at_slot 28 ?_); refine wpList_app rfl (.tmp 21) (.tmp 27) rfl w.heap.size (ho.mono (below_alloc wr _)) (rd_new wr _ [by8 (n / 256)] 1 (by simp [bv_by8]) rfl (by omega)) rfl rfl (by simp; omega) (by simp; have := hb.size; omega) ?_; intro v2 w2 ho2 hb2 hg2; clear hg2)
          go_roundw
          case rel => exact ⟨_, rfl, (below_step hb hb.size (below_alloc wr _)).trans hb2, .inr (.inr (.inr (.inl ⟨rfl, by rw [List.append_assoc] at ho2; exact ho2⟩)))⟩
          case measure => decide
        · go_wp2_with ((with_reducible refine at_slot 28 ?_); refine wpList_app rfl (.tmp 21) (.tmp 27) rfl w.heap.size (ho.mono (below_alloc wr _)) (rd_new wr _ [by8 n] 1 (by simp [bv_by8]) rfl (by omega)) rfl rfl (by simp; omega) (by simp; have := hb.size; omega) ?_; intro v2 w2 ho2 hb2 hg2; clear hg2)
          go_roundw
          case rel => exact ⟨_, rfl, (below_step hb hb.size (below_alloc wr _)).trans hb2, .inr (.inr (.inr (.inr ⟨rfl, by rw [List.append_assoc] at ho2; exact ho2⟩)))⟩
          case measure => decide
        · go_wp2
          go_ret
          exact ⟨_, rfl, ho, hb⟩
set_option maxHeartbeats 400000 in
theorem rat (v : Value) (l : List UInt8) (f n : Int) (w : World) (hr : Rd w v l) (h0 : 0 ≤ f) (h1 : 0 ≤ n) (h2 : n ≤ 4) (h3 : f + n ≤ l.length) (hl : l.length ≤ 140737488355328) :
    Calls Tryd.prog 28 #[v, .int .i64 f, .int .i64 n] w fun e w' => e = .returned (.int .i64 (be ((l.drop f.toNat).take n.toNat))) ∧ w = w' := by
  obtain ⟨A, c, rfl, hc1, hc2⟩ := hr.form
  obtain ⟨g, rfl⟩ := Int.eq_ofNat_of_zero_le h0
  clear h0
  have g1 : decide ((g : Int) < 0) = false := by simp
  have g2 : decide (l.length < g) = false := by simp; omega
  have g3 : decide ((l.length : Int) - g < n) = false := by simp; omega
  go_enter Tryd.func28, Tryd.ntmps28
  go_wp2
  clear g1 g2 g3
  go_loop [7, 8] (fun s i => ∃ k : Nat, k ≤ n ∧ i = .int .i64 k ∧ s = .int .i64 (be ((l.drop g).take k))) (fun _ i => 4 - (intOf i).toNat)
  case atStart => exact ⟨0, by omega, rfl, rfl⟩
  case round =>
    obtain ⟨k, hk, rfl, rfl⟩ := hrel
    by_cases hlt : k < n
    · have hlt2 : g + k < l.length := by omega
      obtain ⟨b, o, rfl, _, hcs⟩ := hr.at_ (g + k) hlt2
      have hc := hcs (g + k) hlt2
      clear hcs
      have e1 : be ((l.drop g).take k) < 16777216 := be_3 _ (by simp; omega)
      have e0 := be_0 ((l.drop g).take k)
      have e2 := UInt8.toNat_lt l[g + k]
      go_wp2
      go_round
      case rel =>
        refine ⟨k + 1, by omega, by go_num, ?_⟩
        rw [List.take_succ_eq_append_getElem (by simp; omega), be_snoc, List.getElem_drop]
        congr 1
        omega
      case measure => simp [intOf]; omega
    · go_wp2
      go_ret
      have : k = n.toNat := by omega
      subst this
      exact ⟨by simp, rfl⟩
theorem tmod_two (n m : Int) (hm : 0 < m) : n.tmod m = n % m ∨ n.tmod m = n % m - m := by
  rw [Int.tmod_eq_emod]
  split
  · left; omega
  · right; omega
theorem low_eq (n : Int) : (wrap64 (n.tmod 65536 + 65536)).tmod 65536 = n % 65536 := by
  have h := tmod_two n 65536 (by omega)
  have e : wrap64 (n.tmod 65536 + 65536) = n.tmod 65536 + 65536 := by unfold wrap64; omega
  rw [e, Int.tmod_eq_emod_of_nonneg (by omega)]
  omega
set_option maxHeartbeats 400000 in
theorem rlow (n : Int) (w : World) :
    Calls Tryd.prog 31 #[.int .i64 n] w fun e w' => e = .returned (.int .i64 (n % 65536)) ∧ w = w' := by
  go_enter Tryd.func31, Tryd.ntmps31
  go_wp2
  go_ret
  exact ⟨ret_int (low_eq n), rfl⟩
end Go.Proofs.YtbhdojpgjmbogaaDoor
