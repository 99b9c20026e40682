/- bytes.Trim at the cutset "\x00": is anything left? -/
import Derived.Test.YtbhdojpgjmbogaaDoorPse2
import Derived.Test.YtbhdojpgjmbogaaDoorDrawn2
import Derived.Test.YtbhdojpgjmbogaaDoorSeqKit
import Derived.Test.YtbhdojpgjmbogaaDoorCopy
namespace Go.Proofs.YtbhdojpgjmbogaaDoor
open Go.RowKit Go.Shelf
/-- Are all bytes one? -/
def allc (c : UInt8) (l : List UInt8) : Bool := l.all (· == c)
theorem allc_snoc (c : UInt8) (l : List UInt8) (x : UInt8) : allc c (l ++ [x]) = (allc c l && (x == c)) := by simp [allc]
theorem allc_cons (c : UInt8) (l : List UInt8) (x : UInt8) : allc c (x :: l) = ((x == c) && allc c l) := by simp [allc]
/-- What is handed back: a slice that reads as a list of which this is known. -/
def SlEnd (w : World) (Q : List UInt8 → Prop) (e : Ending) (w' : World) : Prop := ∃ v m, e = .returned v ∧ Rd w v m ∧ Q m ∧ w = w'
theorem u8_eq (x c : UInt8) : ((x.toNat : Int) == (c.toNat : Int)) = (x == c) := by
  rw [Bool.eq_iff_iff]
  simp only [beq_iff_eq]
  exact ⟨fun h => UInt8.toNat.inj (by omega), fun h => by rw [h]⟩
set_option maxRecDepth 100000 in
set_option maxHeartbeats 2000000 in
theorem trimR (v : Value) (l : List UInt8) (c : UInt8) (w : World) (hr : Rd w v l) :
    Calls Tryd.prog 44 #[v, .int .u8 (c.toNat : Int)] w (SlEnd w fun m => allc c m = allc c l) := by
  go_enter Tryd.func44, Tryd.ntmps44
  go_wp2
  go_loop [0] (fun u => ∃ m, Rd w u m ∧ Hid (allc c m = allc c l)) (fun u => match u with | .slice _ n _ => n | _ => 0)
  case atStart => exact ⟨l, hr, rfl⟩
  case round =>
    obtain ⟨m, hm, ha⟩ := hrel
    clear hr
    obtain ⟨A, cp, rfl, h1, h2⟩ := hm.form
    rcases List.eq_nil_or_concat m with rfl | ⟨t, x, rfl⟩
    · go_wp2
      go_ret
      exact ⟨_, [], rfl, hm, ha.out, rfl⟩
    · rw [List.concat_eq_append] at *
      obtain ⟨k, hk⟩ : ∃ k, k = t.length := ⟨_, rfl⟩
      have hl : (t ++ [x]).length = k + 1 := by simp [hk]
      obtain ⟨bb, oo, rfl, hbl, hcs⟩ := hm.at_ t.length (by omega)
      have d0 := hcs t.length (by omega)
      have hx0 : (t ++ [x])[t.length]'(by omega) = x := by simp
      rw [hx0, ← hk] at d0
      rw [allc_snoc] at ha
      obtain ⟨L, hL⟩ : ∃ L, L = t ++ [x] := ⟨_, rfl⟩
      rw [← hL] at hm h1 hl ⊢
      rw [hl] at hm h1 ⊢
      have HL := Lib.hid (And.intro hL (And.intro hl hk))
      have hk9 : k < 9223372036854775807 := by omega
      clear hL hl hk hcs hx0
      by_cases hxc : x = c
      · have g0 : ((x.toNat : Int) == (c.toNat : Int)) = true := by simp [hxc]
        have HXC := Lib.hid hxc
        clear hxc
        go_wp2_with ((with_reducible refine at_slot 22 ?_); refine wpList_slice rfl (.tmp 18) none (some (.tmp 21)) rfl _ L rfl hm 0 (k : Int) .no (.yes rfl rfl) (by omega) (by omega) (by rw [HL.out.2.1]; omega) ?_; intro m1 A1 c1 hm1 k1 k2 k3 k4 hr1)
        have e : m1 = t := by rw [hm1.out, HL.out.1, HL.out.2.2]; simp
        go_round
        case rel => exact ⟨m1, hr1, by unfold Hid; rw [e, ← ha.out, HXC.out]; simp⟩
        case measure => simp; omega
      · have g0 : ((x.toNat : Int) == (c.toNat : Int)) = false := by rw [u8_eq]; simpa using hxc
        have HXC := Lib.hid hxc
        clear hxc
        go_wp2
        go_ret
        exact ⟨.slice (some ⟨bb, oo, none⟩) (k + 1) cp, L, by simp, hm, by show allc c L = allc c l; rw [HL.out.1, allc_snoc]; exact ha.out, rfl⟩
set_option maxRecDepth 100000 in
set_option maxHeartbeats 2000000 in
theorem trimL (v : Value) (l : List UInt8) (c : UInt8) (w : World) (hr : Rd w v l) :
    Calls Tryd.prog 43 #[v, .int .u8 (c.toNat : Int)] w (SlEnd w fun m => (m = []) ↔ (allc c l = true)) := by
  go_enter Tryd.func43, Tryd.ntmps43
  go_wp2
  go_loop [0] (fun u => ∃ m, Rd w u m ∧ Hid (allc c m = allc c l)) (fun u => match u with | .slice _ n _ => n | _ => 0)
  case atStart => exact ⟨l, hr, rfl⟩
  case round =>
    obtain ⟨m, hm, ha⟩ := hrel
    clear hr
    obtain ⟨A, cp, rfl, h1, h2⟩ := hm.form
    cases m with
    | nil =>
      go_wp2
      go_ret
      exact ⟨_, [], rfl, Rd.nil _, by rw [← ha.out]; simp [allc], rfl⟩
    | cons x t =>
      obtain ⟨bb, oo, rfl, hbl, hcs⟩ := hm.at_ 0 (by simp)
      have d0 := hcs 0 (by simp)
      simp only [Nat.add_zero, List.getElem_cons_zero] at d0
      rw [allc_cons] at ha
      obtain ⟨k, hk⟩ : ∃ k, k = (x :: t).length := ⟨_, rfl⟩
      obtain ⟨L, hL⟩ : ∃ L, L = x :: t := ⟨_, rfl⟩
      rw [← hk] at hm h1 ⊢
      rw [← hL] at hm
      have hk0 : 1 ≤ k := by rw [hk]; simp
      have HL := Lib.hid (And.intro hL hk)
      clear hL hk hcs
      by_cases hxc : x = c
      · have g0 : ((x.toNat : Int) == (c.toNat : Int)) = true := by simp [hxc]
        have HXC := Lib.hid hxc
        clear hxc
        go_wp2_with ((with_reducible refine at_slot 16 ?_); refine wpList_slice rfl (.tmp 15) (some (.const (.int .i64 1))) none rfl _ L rfl hm 1 (L.length : Int) (.yes rfl rfl) .no (by omega) (by rw [HL.out.1, ← HL.out.2]; omega) (Int.le_refl _) ?_; intro m1 A1 c1 hm1 k1 k2 k3 k4 hr1)
        have e : m1 = t := by rw [hm1.out, HL.out.1]; simp
        go_round
        case rel => exact ⟨m1, hr1, by unfold Hid; rw [e, ← ha.out, HXC.out]; simp⟩
        case measure => rw [HL.out.1, ← HL.out.2] at k1 k2; simp; omega
      · have g0 : ((x.toNat : Int) == (c.toNat : Int)) = false := by rw [u8_eq]; simpa using hxc
        have HXC := Lib.hid hxc
        have gk : ((k : Int) == 0) = false := by simp; omega
        clear hxc
        go_wp2
        go_ret
        refine ⟨.slice (some ⟨bb, oo, none⟩) k cp, L, by simp, hm, ?_, rfl⟩
        show L = [] ↔ _
        rw [HL.out.1, ← ha.out]
        simp [HXC.out]
/-- What Trim leaves. -/
def TrEnd (w : World) (l : List UInt8) (e : Ending) (w' : World) : Prop := ∃ A n c, e = .returned (.slice A n c) ∧ n ≤ 9223372036854775807 ∧ (n = 0 ↔ allc 0 l = true) ∧ w.drew = w'
set_option maxRecDepth 100000 in
set_option maxHeartbeats 2000000 in
theorem trim0 (v : Value) (l : List UInt8) (w : World) (hr : Rd w v l) (hl : l ≠ []) : Calls Tryd.prog 40 #[v, .string ⟨#[0]⟩] w (TrEnd w l) := by
  obtain ⟨A, c, rfl, hc1, hc2⟩ := hr.form
  obtain ⟨n, hn⟩ : ∃ n, n = l.length := ⟨_, rfl⟩
  have hn1 : 1 ≤ n := by rw [hn]; exact List.length_pos_iff.2 hl
  rw [← hn] at hr hc1 ⊢
  have g0 : ((n : Int) == 0) = false := by simp; omega
  clear hn hl
  have g1 : decide (((⟨#[0]⟩ : ByteArray)[0].toNat : Int) < 128) = true := by decide
  go_enter Tryd.func40, Tryd.ntmps40
  go_upto_region 6 with (fail)
  rename_i K6 hK6
  refine wp_region_any (by kernel_rfl) (wpAny_of_G (n := 7) (S := fun _ => True) _ _ _ _ ?_)
  refine G.pure' (i := 0) (v := .slice A n c) rfl (by kernel_rfl) (fun _ _ _ h => h) (.inl ⟨rfl, fun w' _ => ?_⟩) (fun _ => trivial) ?_
  · simp [execOp, Act.eval, go_sem]
  simp only [Act.put, List.getElem_toArray, List.getElem_cons_zero, List.setIfInBounds_toArray, List.set_cons_zero, List.set_cons_succ]
  refine G.pure' (i := 1) (v := .string ⟨#[0]⟩) rfl (by kernel_rfl) (fun _ _ _ h => h) (.inl ⟨rfl, fun w' _ => ?_⟩) (fun _ => trivial) ?_
  · simp [execOp, Act.eval, go_sem]
  simp only [Act.put, List.getElem_toArray, List.getElem_cons_zero, List.getElem_cons_succ, List.setIfInBounds_toArray, List.set_cons_zero, List.set_cons_succ]
  refine G.pure' (i := 2) (v := .int .u8 0) rfl (by kernel_rfl) (fun _ _ _ h => h) (.inl ⟨rfl, fun w' _ => ?_⟩) (fun _ => trivial) ?_
  · (simp [execOp, Act.eval, go_sem]; rfl)
  simp only [Act.put, List.getElem_toArray, List.getElem_cons_zero, List.getElem_cons_succ, List.setIfInBounds_toArray, List.set_cons_zero, List.set_cons_succ]
  refine G.pure' (i := 4) (v := .string ⟨#[0]⟩) rfl (by kernel_rfl) (fun _ _ _ h => h) (.inl ⟨rfl, fun w' _ => ?_⟩) (fun _ => trivial) ?_
  · simp [execOp, Act.eval, go_sem]
  simp only [Act.put, List.getElem_toArray, List.getElem_cons_zero, List.getElem_cons_succ, List.setIfInBounds_toArray, List.set_cons_zero, List.set_cons_succ]
  refine G.pure' (i := 5) (v := .int .u8 0) rfl (by kernel_rfl) (fun _ _ _ h => h) (.inl ⟨rfl, fun w' _ => ?_⟩) (fun _ => trivial) ?_
  · (simp [execOp, Act.eval, go_sem]; rfl)
  simp only [Act.put, List.getElem_toArray, List.getElem_cons_zero, List.getElem_cons_succ, List.setIfInBounds_toArray, List.set_cons_zero, List.set_cons_succ]
  refine G.only' (i := 3) ?r3 rfl ?o3
  case r3 => kernel_rfl
  intro K hK
  refine step_call rfl rfl (enters_of Tryd.func44 (by kernel_rfl) rfl) (trimR _ l 0 _ hr.drew) rfl ?_
  rintro e w1 ⟨v1, m1, rfl, h1, h2, rfl⟩
  refine ⟨_, rfl, hK _ _ (fun _ => trivial) ?_⟩
  clear hK K
  simp only [Act.put, List.getElem_toArray, List.getElem_cons_zero, List.getElem_cons_succ, List.setIfInBounds_toArray, List.set_cons_zero, List.set_cons_succ]
  refine G.only' (i := 6) ?r6 rfl ?o6
  case r6 => kernel_rfl
  intro K hK
  refine step_call rfl rfl (enters_of Tryd.func43 (by kernel_rfl) rfl) (trimL _ m1 0 _ h1) rfl ?_
  rintro e w1 ⟨v2, m2, rfl, h3, h4, rfl⟩
  refine ⟨_, rfl, hK _ _ (fun _ => trivial) ?_⟩
  clear hK K
  simp only [Act.put, List.getElem_toArray, List.getElem_cons_zero, List.getElem_cons_succ, List.setIfInBounds_toArray, List.set_cons_zero, List.set_cons_succ]
  refine G.lastPure (i := 7) (v := v2) (by kernel_rfl) (by kernel_rfl) rfl (.inl ⟨rfl, fun w' _ => ?_⟩) (fun e => Bool.noConfusion (show true = false from e)) ?_
  · simp [execOp, Act.eval, go_sem]
  simp only [Act.put, List.getElem_toArray, List.getElem_cons_zero, List.getElem_cons_succ, List.setIfInBounds_toArray, List.set_cons_zero, List.set_cons_succ]
  obtain ⟨A2, c2, rfl, k1, k2⟩ := h3.form
  have hz : m2.length = 0 ↔ allc 0 l = true := by rw [List.length_eq_zero_iff, h4, h2]
  have HZ := Lib.hid hz
  have kk : m2.length ≤ 9223372036854775807 := by omega
  clear hz h2 h4 h1 h3
  simp only [Exit.then]
  refine hK6 _ _ ?_
  go_wp2
  go_ret
  exact ⟨A2, m2.length, c2, rfl, kk, HZ.out, rfl⟩
end Go.Proofs.YtbhdojpgjmbogaaDoor
