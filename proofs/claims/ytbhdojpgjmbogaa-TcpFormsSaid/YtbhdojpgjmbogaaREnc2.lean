/- packhorseref14.Encode, where something is refused. -/
import Derived.Test.YtbhdojpgjmbogaaREnc
import Derived.Test.YtbhdojpgjmbogaaBind
namespace Go.Proofs.Ytbhdojpgjmbogaa
open Go.RowKit Go.Shelf
set_option maxRecDepth 100000 in
set_option maxHeartbeats 8000000 in
theorem renc14_long (s d : IP) (g : SG) (b : List UInt8) (w : World) (hda : Rd w g.da b) (hb : 1024 < b.length) :
    Calls Try.prog 43 #[s.v, d.v, g.v] w (CEnd w [] 2) := by
  obtain ⟨A1, c1, e1, _, hm⟩ := hda.form
  have HD := Lib.hid e1
  clear e1
  have q0 : decide ((1024 : Int) < (b.length : Int)) = true := by simp; omega
  go_enter Try.func43, Try.ntmps43
  go_upto_region 1 with (fail)
  refine box5 (s := s) (d := d) (g := g) (motive := fun X => Code.wp Try.prog _ _ _ X) ?_
  intro X hB hX hbs hbd hs
  obtain ⟨c0, c1', c2, c3, c4, c5, c6, c7, c8, c9⟩ := hs.sg
  rw [HD.out] at c9
  go_wp2
  go_ret2
  exact ⟨_, rfl, Ow.nil _ _, hB⟩
theorem in_wrap (n : Int) (h : InI n) : decide (0 ≤ wrap64 (n - 1) ∧ wrap64 (n - 1) ≤ 65534) = decide (1 ≤ n ∧ n ≤ 65535) := by
  rw [decide_eq_decide]
  unfold InI at h
  unfold wrap64
  omega
set_option maxRecDepth 100000 in
set_option maxHeartbeats 16000000 in
theorem renc14_arg (s d : IP) (g : SG) (b : List UInt8) (w : World) (A : Option Addr) (k c : Nat) (hgt : g.gt = .slice A k c) (hkm : k ≤ 9223372036854775807) (hda : Rd w g.da b) (hb : b.length ≤ 1024) (hf : InI g.fr) (ht : InI g.too)
    (hno : ¬ ((1 ≤ g.fr ∧ g.fr ≤ 65535) ∧ (1 ≤ g.too ∧ g.too ≤ 65535) ∧ (0 ≤ g.fl ∧ g.fl ≤ 31) ∧ (0 ≤ g.wn ∧ g.wn ≤ 65535) ∧ (0 ≤ g.ms ∧ g.ms ≤ 65535) ∧ k ≤ 3)) :
    Calls Try.prog 43 #[s.v, d.v, g.v] w (CEnd w [] 1) := by
  obtain ⟨A1, c1, e1, _, hm⟩ := hda.form
  have HD := Lib.hid e1
  have HG := Lib.hid hgt
  clear e1 hgt
  have q0 : decide ((1024 : Int) < (b.length : Int)) = false := by simp; omega
  have i1 := fun W => rin (wrap64 (g.fr - 1)) 65534 _ (in_wrap g.fr hf) W
  have i2 := fun W => rin (wrap64 (g.too - 1)) 65534 _ (in_wrap g.too ht) W
  have i3 := fun W => rin g.fl 31 _ rfl W
  have i4 := fun W => rin g.wn 65535 _ rfl W
  have i5 := fun W => rin g.ms 65535 _ rfl W
  obtain ⟨B1, h1⟩ : ∃ B1, B1 = decide (1 ≤ g.fr ∧ g.fr ≤ 65535) := ⟨_, rfl⟩
  obtain ⟨B2, h2⟩ : ∃ B2, B2 = decide (1 ≤ g.too ∧ g.too ≤ 65535) := ⟨_, rfl⟩
  obtain ⟨B3, h3⟩ : ∃ B3, B3 = decide (0 ≤ g.fl ∧ g.fl ≤ 31) := ⟨_, rfl⟩
  obtain ⟨B4, h4⟩ : ∃ B4, B4 = decide (0 ≤ g.wn ∧ g.wn ≤ 65535) := ⟨_, rfl⟩
  obtain ⟨B5, h5⟩ : ∃ B5, B5 = decide (0 ≤ g.ms ∧ g.ms ≤ 65535) := ⟨_, rfl⟩
  rw [← h1] at i1
  rw [← h2] at i2
  rw [← h3] at i3
  rw [← h4] at i4
  rw [← h5] at i5
  have I := Lib.hid (And.intro i1 (And.intro i2 (And.intro i3 (And.intro i4 i5))))
  have key : B1 = false ∨ (B1 = true ∧ B2 = false) ∨ (B1 = true ∧ B2 = true ∧ B3 = false) ∨ (B1 = true ∧ B2 = true ∧ B3 = true ∧ B4 = false) ∨ (B1 = true ∧ B2 = true ∧ B3 = true ∧ B4 = true ∧ B5 = false) ∨ (B1 = true ∧ B2 = true ∧ B3 = true ∧ B4 = true ∧ B5 = true ∧ decide ((3 : Int) < (k : Int)) = true) := by
    rw [h1, h2, h3, h4, h5]
    simp only [decide_eq_true_eq, decide_eq_false_iff_not]
    omega
  clear hno i1 i2 i3 i4 i5 h1 h2 h3 h4 h5
  go_enter Try.func43, Try.ntmps43
  go_upto_region 1 with (fail)
  refine box5 (s := s) (d := d) (g := g) (motive := fun X => Code.wp Try.prog _ _ _ X) ?_
  intro X hB hX hbs hbd hs
  obtain ⟨c0, c1', c2, c3, c4, c5, c6, c7, c8, c9⟩ := hs.sg
  rw [HG.out] at c8
  rw [HD.out] at c9
  rcases key with rfl | ⟨rfl, rfl⟩ | ⟨rfl, rfl, rfl⟩ | ⟨rfl, rfl, rfl, rfl⟩ | ⟨rfl, rfl, rfl, rfl, rfl⟩ | ⟨rfl, rfl, rfl, rfl, rfl, k6⟩
  all_goals (try cases B2)
  all_goals (try cases B3)
  all_goals (try cases B4)
  all_goals (try cases B5)
  all_goals
    go_wp2_with (first | ((with_reducible refine (I.out.1 _).mono ?_); rintro e w' ⟨rfl, rfl⟩) | ((with_reducible refine (I.out.2.1 _).mono ?_); rintro e w' ⟨rfl, rfl⟩) | ((with_reducible refine (I.out.2.2.1 _).mono ?_); rintro e w' ⟨rfl, rfl⟩) | ((with_reducible refine (I.out.2.2.2.1 _).mono ?_); rintro e w' ⟨rfl, rfl⟩) | ((with_reducible refine (I.out.2.2.2.2 _).mono ?_); rintro e w' ⟨rfl, rfl⟩))
    go_ret2
    exact ⟨_, rfl, Ow.nil _ _, hB⟩
end Go.Proofs.Ytbhdojpgjmbogaa
