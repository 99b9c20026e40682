/- tcp.Encode, where something is refused. -/
import Derived.Test.YtbhdojpgjmbogaaTcp6
namespace Go.Proofs.Ytbhdojpgjmbogaa
open Go.RowKit Go.Shelf
set_option maxRecDepth 100000 in
set_option maxHeartbeats 8000000 in
theorem tenc_long (s d : IP) (g : SG) (b : List UInt8) (w : World) (hda : Rd w g.da b) (hb : 1024 < b.length) :
    Calls Try.prog 42 #[s.v, d.v, g.v] w (CEnd w [] 2) := by
  obtain ⟨A1, c1, e1, _, hm⟩ := hda.form
  have HD := Lib.hid e1
  clear e1
  have q0 : decide ((1024 : Int) < (b.length : Int)) = true := by simp; omega
  go_enter Try.func42, Try.ntmps42
  go_upto_region 1 with (fail)
  refine box5 (s := s) (d := d) (g := g) (motive := fun X => Code.wp Try.prog _ _ _ X) ?_
  intro X hB hX hbs hbd hs
  obtain ⟨c0, c1', c2, c3, c4, c5, c6, c7, c8, c9⟩ := hs.sg
  rw [HD.out] at c9
  go_wp2
  go_ret2
  exact ⟨_, rfl, Ow.nil _ _, hB⟩
set_option maxRecDepth 100000 in
set_option maxHeartbeats 16000000 in
theorem tenc_arg (s d : IP) (g : SG) (b : List UInt8) (w : World) (A : Option Addr) (k c : Nat) (hgt : g.gt = .slice A k c) (hkm : k ≤ 9223372036854775807) (hda : Rd w g.da b) (hb : b.length ≤ 1024)
    (hno : ¬ ((1 ≤ g.fr ∧ g.fr ≤ 65535) ∧ (1 ≤ g.too ∧ g.too ≤ 65535) ∧ (0 ≤ g.fl ∧ g.fl ≤ 31) ∧ (0 ≤ g.wn ∧ g.wn ≤ 65535) ∧ (0 ≤ g.ms ∧ g.ms ≤ 65535) ∧ k ≤ 3)) :
    Calls Try.prog 42 #[s.v, d.v, g.v] w (CEnd w [] 1) := by
  obtain ⟨A1, c1, e1, _, hm⟩ := hda.form
  have HD := Lib.hid e1
  have HG := Lib.hid hgt
  clear e1 hgt
  have q0 : decide ((1024 : Int) < (b.length : Int)) = false := by simp; omega
  have key : decide (1 ≤ g.fr ∧ g.fr ≤ 65535) = false ∨ (decide (1 ≤ g.fr ∧ g.fr ≤ 65535) = true ∧ decide (1 ≤ g.too ∧ g.too ≤ 65535) = false) ∨
      (decide (1 ≤ g.fr ∧ g.fr ≤ 65535) = true ∧ decide (1 ≤ g.too ∧ g.too ≤ 65535) = true ∧ decide (0 ≤ g.fl ∧ g.fl ≤ 31) = false) ∨
      (decide (1 ≤ g.fr ∧ g.fr ≤ 65535) = true ∧ decide (1 ≤ g.too ∧ g.too ≤ 65535) = true ∧ decide (0 ≤ g.fl ∧ g.fl ≤ 31) = true ∧ decide (0 ≤ g.wn ∧ g.wn ≤ 65535) = false) ∨
      (decide (1 ≤ g.fr ∧ g.fr ≤ 65535) = true ∧ decide (1 ≤ g.too ∧ g.too ≤ 65535) = true ∧ decide (0 ≤ g.fl ∧ g.fl ≤ 31) = true ∧ decide (0 ≤ g.wn ∧ g.wn ≤ 65535) = true ∧ decide (0 ≤ g.ms ∧ g.ms ≤ 65535) = false) ∨
      (decide (1 ≤ g.fr ∧ g.fr ≤ 65535) = true ∧ decide (1 ≤ g.too ∧ g.too ≤ 65535) = true ∧ decide (0 ≤ g.fl ∧ g.fl ≤ 31) = true ∧ decide (0 ≤ g.wn ∧ g.wn ≤ 65535) = true ∧ decide (0 ≤ g.ms ∧ g.ms ≤ 65535) = true ∧ decide ((3 : Int) < (k : Int)) = true) := by
    simp only [decide_eq_true_eq, decide_eq_false_iff_not]
    omega
  clear hno
  go_enter Try.func42, Try.ntmps42
  go_upto_region 1 with (fail)
  refine box5 (s := s) (d := d) (g := g) (motive := fun X => Code.wp Try.prog _ _ _ X) ?_
  intro X hB hX hbs hbd hs
  obtain ⟨c0, c1', c2, c3, c4, c5, c6, c7, c8, c9⟩ := hs.sg
  rw [HG.out] at c8
  rw [HD.out] at c9
  rcases key with k1 | ⟨k1, k2⟩ | ⟨k1, k2, k3⟩ | ⟨k1, k2, k3, k4⟩ | ⟨k1, k2, k3, k4, k5⟩ | ⟨k1, k2, k3, k4, k5, k6⟩
  all_goals
    go_wp2_with (go_at_call 63; refine (ttwithin _ _ _ _).mono ?_; rintro e w' ⟨rfl, rfl⟩)
    go_ret2
    exact ⟨_, rfl, Ow.nil _ _, hB⟩
end Go.Proofs.Ytbhdojpgjmbogaa
