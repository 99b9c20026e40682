/- The wheel: the chapter's example (packhorselaw05.awake): true in whatever memory. -/
import Derived.Test.YtcnfcohfogbfhaaWOk
namespace Go.Proofs.Ytcnfcohfogbfhaa
open Go.RowKit Go.Shelf
theorem WAt.keep {w w' : World} {B p : Nat} {V : Nat → Value} {now : Int} {A : List Tm} {ord : Int} (h : WAt w B p V now A ord) (ht : Touch (Ft p V) w w') : Below B w w' :=
  ht.below (fun _ hk => (h.lt hk).1) (Nat.le_trans h.base (Nat.le_of_lt h.blk.lt))
/-- Arm, where what it leaves is known. -/
theorem tarm_to {w : World} {B p : Nat} {V : Nat → Value} {now : Int} {A : List Tm} {ord : Int} (h : WAt w B p V now A ord) (ok : WOk now A ord) (ho : ord ≤ 4611686018427387904) (id tk : Int) (E O : Int) (A' : List Tm) (hE : armE now A id tk = E) (hA : armL now A ord id tk = A') (hO : armO now A ord id tk = O) :
    Calls Try.prog 10 #[.pointer (some ⟨p, 0, none⟩), .int .i64 id, .int .i64 tk] w fun e w' => e = .returned (.int .i64 E) ∧ WEnd w B p V now A' O w' := by
  subst hE hA hO
  exact tarm h ok.uniq ok.len ok.now0 ok.ord0 ho id tk
def exF : List Tm := [⟨2, 11, 2⟩, ⟨3, 12, 3⟩, ⟨1, 12, 4⟩]
set_option maxRecDepth 100000 in
set_option maxHeartbeats 8000000 in
theorem wawake (w : World) : Calls Try.prog 7 #[] w fun e w' => e = .returned (.bool true) ∧ Below w.heap.size w w' := by
  go_enter Try.func7, Try.ntmps7
  go_wp2_with fail
  refine (tnew 10 (by decide) w w.heap.size (Nat.le_refl _)).mono ?_
  rintro e w1 ⟨rfl, h1, hb1⟩
  obtain ⟨p, hp⟩ : ∃ p, p = w.heap.size := ⟨_, rfl⟩
  have ok1 : WOk 10 [] 0 := .new (by decide)
  have h1' : WAt w1 w.heap.size p (fun _ => noS) 10 [] 0 := by rw [hp]; exact h1
  rw [← hp]
  clear h1 hp
  go_wp2_with fail
  refine (tarm_to h1' ok1 (by decide) 1 12 0 1 [⟨1, 12, 1⟩] (by decide) rfl rfl).mono ?_
  rintro e w2 ⟨rfl, V2, h2, ht2, -⟩
  have hb2 := hb1.trans (h1'.keep ht2)
  have ok2 : WOk 10 [⟨1, 12, 1⟩] 1 := ok1.arm 1 12
  clear h1' ht2 ok1 hb1
  go_wp2_with fail
  refine (tarm_to h2 ok2 (by decide) 2 11 0 2 [⟨1, 12, 1⟩, ⟨2, 11, 2⟩] (by decide) rfl rfl).mono ?_
  rintro e w3 ⟨rfl, V3, h3, ht3, -⟩
  have hb3 := hb2.trans (h2.keep ht3)
  have ok3 : WOk 10 [⟨1, 12, 1⟩, ⟨2, 11, 2⟩] 2 := ok2.arm 2 11
  clear h2 ht3 ok2 hb2
  go_wp2_with fail
  refine (tarm_to h3 ok3 (by decide) 3 12 0 3 [⟨1, 12, 1⟩, ⟨2, 11, 2⟩, ⟨3, 12, 3⟩] (by decide) rfl rfl).mono ?_
  rintro e w4 ⟨rfl, V4, h4, ht4, -⟩
  have hb4 := hb3.trans (h3.keep ht4)
  have ok4 : WOk 10 [⟨1, 12, 1⟩, ⟨2, 11, 2⟩, ⟨3, 12, 3⟩] 3 := ok3.arm 3 12
  clear h3 ht4 ok3 hb3
  go_wp2_with fail
  refine (tarm_to h4 ok4 (by decide) 1 12 0 4 exF (by decide) rfl rfl).mono ?_
  rintro e w5 ⟨rfl, V5, h5, ht5, -⟩
  have hb5 := hb4.trans (h4.keep ht5)
  have ok5 : WOk 10 exF 4 := ok4.arm 1 12
  clear h4 ht5 ok4 hb4
  go_wp2_with fail
  refine (tadv h5 ok5.len (ok5.sm (by decide)) 12 (by decide) (by decide)).mono ?_
  rintro e w6 ⟨v, F, V6, rfl, hp6, hs6, ho6, -, h6, ht6, -⟩
  have hb6 := hb5.trans (h5.keep ht6)
  have hF : F = exF := come_one ok5 hp6 (G := exF) (List.Perm.refl _) hs6 (by unfold exF ltT; simp)
  subst hF
  have ok6 : WOk 12 (stL exF 12) 4 := ok5.adv (by decide)
  have eA : stL exF 12 = [] := rfl
  rw [eA] at h6 ok6
  obtain ⟨g, cap, rfl, hg1, hg2⟩ := World.ownsRow.form ho6 (by decide)
  obtain ⟨b0, o0, e0, _, hc⟩ := ho6.rd.at_ f_len (by decide)
  injection e0 with e0
  injection e0 with e0 e1
  subst e0 e1
  have c00 := hc 0 (by decide) 0 (.int .i64 2) rfl
  have c01 := hc 0 (by decide) 1 (.int .i64 11) rfl
  have c10 := hc 1 (by decide) 0 (.int .i64 3) rfl
  have c11 := hc 1 (by decide) 1 (.int .i64 12) rfl
  have c20 := hc 2 (by decide) 0 (.int .i64 1) rfl
  have c21 := hc 2 (by decide) 1 (.int .i64 12) rfl
  have hl3 : (exF.map ctl).length = 3 := rfl
  rw [hl3]
  simp only [Nat.zero_add, Nat.add_zero, Nat.one_mul, Nat.zero_mul] at c00 c01 c10 c11 c20 c21
  clear hc ho6 hp6 hs6 h5 ht6 ok5 hb5
  go_wp2_with fail
  refine (tlen h6).mono ?_
  rintro e w7 ⟨rfl, rfl⟩
  rw [show (([] : List Tm).length : Int) = 0 from rfl]
  clear c00 c01 c10 c11 c20 c21
  go_wp2_with fail
  refine (tnow h6).mono ?_
  rintro e w7 ⟨rfl, rfl⟩
  go_wp2_with fail
  refine (tcancel h6 ok6.uniq ok6.len 1).mono ?_
  rintro e w7 ⟨rfl, V7, h7, ht7, -⟩
  have hb7 := hb6.trans (h6.keep ht7)
  rw [show (if has [] 1 = true then (0 : Int) else 7) = 7 from rfl]
  go_wp2
  go_ret
  exact ⟨rfl, hb7⟩
end Go.Proofs.Ytcnfcohfogbfhaa
