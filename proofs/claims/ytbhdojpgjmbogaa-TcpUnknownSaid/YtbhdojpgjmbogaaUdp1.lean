/- udp: the sum over the pseudo head and a datagram; a datagram's bytes: program and reference. -/
import Derived.Test.YtbhdojpgjmbogaaPse2
import Derived.Test.YtbhdojpgjmbogaaWSum
import Derived.Test.YtbhdojpgjmbogaaCopy
namespace Go.Proofs.Ytbhdojpgjmbogaa
open Go.RowKit
/-- The sum over the pseudo head and a datagram. -/
def csum (p : Int) (s d : IP) (l : List UInt8) : Int := 65535 - sumw (psl s d p l.length ++ l) 0
theorem csum_bd (p : Int) (s d : IP) (l : List UInt8) : 0 ≤ csum p s d l ∧ csum p s d l ≤ 65535 := by
  have := sumw_bd (psl s d p l.length ++ l) 0 (by omega) (by omega)
  unfold csum; omega
theorem psl_len (s d : IP) (p n : Int) : (psl s d p n).length = 12 := by simp [psl, IP.l, p16]
set_option maxHeartbeats 400000 in
theorem usum (s d : IP) (v : Value) (l : List UInt8) (w : World) (hr : Rd w v l) (hl : l.length ≤ 140737488355000) :
    Calls Try.prog 53 #[s.v, d.v, v] w fun e w' => e = .returned (.int .i64 (csum 17 s d l)) ∧ Below w.heap.size w w' := by
  obtain ⟨A, c, rfl, hc1, hc2⟩ := hr.form
  go_enter Try.func53, Try.ntmps53
  go_wp2_with fail
  refine (pseudo s d _ _ _).mono ?_
  rintro e w1 ⟨v1, rfl, ho1, hb1⟩
  have hB : Below w.heap.size w ((w.alloc (.cells s.cells 23)).alloc (.cells d.cells 23)) := ((Below.refl w.heap.size w).alloc (Nat.le_refl _) _).alloc (by simp) _
  have hB1 := below_step hB hB.size hb1
  have hr1 := hr.mono hB1
  obtain ⟨A1, c1, rfl, _, _⟩ := ho1.rd.form
  rw [psl_len] at ho1 ⊢
  have hls : RdL (w1.alloc (.cells #[.slice A1 12 c1, .slice A l.length c] 24)) (.slice (some ⟨w1.heap.size, 0, none⟩) 2 2) [psl s d 17 l.length, l] := by
    refine rdL_new _ _ _ _ 2 _ rfl rfl (by omega) rfl ?_
    intro i h h'
    match i, h' with
    | 0, _ => exact ho1.rd
    | 1, _ => exact hr1
  clear hB hr1 ho1 hb1
  go_wp2_with fail
  refine (wsum _ _ (by simp [psl_len]; omega) _ hls).mono ?_
  rintro e w2 ⟨rfl, hb2⟩
  go_wp2
  go_ret
  refine ⟨by simp [csum], below_step (below_step hB1 hB1.size (below_alloc w1 _)) (by simp; have := hB1.size; omega) hb2⟩
set_option maxHeartbeats 400000 in
theorem rusum (s d : IP) (v : Value) (l : List UInt8) (w : World) (hr : Rd w v l) (hl : l.length ≤ 140737488355000) :
    Calls Try.prog 54 #[s.v, d.v, v] w fun e w' => e = .returned (.int .i64 (csum 17 s d l)) ∧ Below w.heap.size w w' := by
  obtain ⟨A, c, rfl, hc1, hc2⟩ := hr.form
  go_enter Try.func54, Try.ntmps54
  go_wp2_with fail
  refine (rpseudo s d _ _ _).mono ?_
  rintro e w1 ⟨v1, rfl, ho1, hb1⟩
  have hB : Below w.heap.size w ((w.alloc (.cells s.cells 23)).alloc (.cells d.cells 23)) := ((Below.refl w.heap.size w).alloc (Nat.le_refl _) _).alloc (by simp) _
  have hB1 := below_step hB hB.size hb1
  have hr1 := hr.mono hB1
  have ho2 := ho1.less hB.size
  clear hB hb1 ho1
  go_wp2_with ((with_reducible refine at_slot 15 ?_); refine wpList_app rfl (.tmp 13) (.tmp 14) rfl w.heap.size ho2 hr1 rfl rfl (by simp [psl_len]; omega) hB1.size ?_; intro v2 w2 ho3 hb2 hg2; clear hg2)
  refine (rsum _ _ _ ho3.rd (by simp [psl_len]; omega)).mono ?_
  rintro e w3 ⟨rfl, rfl⟩
  go_wp2
  go_ret
  exact ⟨rfl, hB1.trans hb2⟩
/-- A datagram with a sum. -/
def laidL (f t : Int) (b : List UInt8) (sum : Int) : List UInt8 := p16 f ++ p16 t ++ p16 (8 + b.length) ++ p16 sum ++ b
theorem p16_len (n : Int) : (p16 n).length = 2 := rfl
theorem laid_len (f t sum : Int) (b : List UInt8) : (laidL f t b sum).length = 8 + b.length := by simp [laidL, p16_len]; omega
set_option maxHeartbeats 800000 in
theorem rlaid (f t sum : Int) (v : Value) (b : List UInt8) (w : World) (hr : Rd w v b) (hl : b.length ≤ 140737488355000) (hf : 0 ≤ f ∧ f ≤ 65535) (ht : 0 ≤ t ∧ t ≤ 65535) (hs : 0 ≤ sum ∧ sum ≤ 65535) :
    Calls Try.prog 55 #[.int .i64 f, .int .i64 t, v, .int .i64 sum] w fun e w' => ∃ v', e = .returned v' ∧ Ow w' w.heap.size v' (laidL f t b sum) ∧ Below w.heap.size w w' := by
  obtain ⟨A, c, rfl, hc1, hc2⟩ := hr.form
  obtain ⟨hf0, hf1⟩ := hf
  obtain ⟨ht0, ht1⟩ := ht
  obtain ⟨hs0, hs1⟩ := hs
  go_enter Try.func55, Try.ntmps55
  go_wp2_with fail
  refine (rput2 _ [] f _ (Rd.nil _) (by simp) hf0 (by omega)).mono ?_
  rintro e w1 ⟨v1, rfl, ho1, hb1⟩
  go_wp2_with fail
  refine (rput2 _ _ t _ ho1.rd (by simp [p16_len]) ht0 (by omega)).mono ?_
  rintro e w2 ⟨v2, rfl, ho2, hb2⟩
  have hB2 := below_step hb1 hb1.size hb2
  go_wp2_with fail
  refine (rput2 _ _ _ _ ho2.rd (by simp [p16_len]) (by omega) (by omega)).mono ?_
  rintro e w3 ⟨v3, rfl, ho3, hb3⟩
  have hB3 := below_step hB2 hB2.size hb3
  go_wp2_with fail
  refine (rput2 _ _ sum _ ho3.rd (by simp [p16_len]) hs0 (by omega)).mono ?_
  rintro e w4 ⟨v4, rfl, ho4, hb4⟩
  have hB4 := below_step hB3 hB3.size hb4
  have hr4 := hr.mono hB4
  have ho5 := ho4.less hB3.size
  clear hb1 hb2 hb3 hb4 hB2 hB3 ho1 ho2 ho3 ho4 hr
  go_wp2_with ((with_reducible refine at_slot 25 ?_); refine wpList_app rfl (.tmp 23) (.tmp 24) rfl w.heap.size ho5 hr4 rfl rfl (by simp [p16_len]; omega) hB4.size ?_; intro v5 w5 ho6 hb5 hg5; clear hg5)
  go_ret
  exact ⟨_, rfl, by simpa [laidL] using ho6, hB4.trans hb5⟩

/-- May a number be a port? -/
def portB (n : Int) : Bool := decide (1 ≤ n ∧ n ≤ 65535)
theorem portB_t {n : Int} (h : portB n = true) : 1 ≤ n ∧ n ≤ 65535 := by simpa [portB] using h
theorem portB_f {n : Int} (h : portB n = false) : n < 1 ∨ 65535 < n := by simp [portB] at h; omega
set_option maxHeartbeats 400000 in
theorem uport (n : Int) (w : World) : Calls Try.prog 51 #[.int .i64 n] w fun e w' => e = .returned (.bool (portB n)) ∧ w = w' := by
  by_cases h1 : 1 ≤ n
  · have g1 : decide (1 ≤ n) = true := by simpa using h1
    go_enter Try.func51, Try.ntmps51
    go_wp2
    go_ret
    refine ⟨?_, rfl⟩
    simp [portB, h1]
  · have g1 : decide (1 ≤ n) = false := by simpa using h1
    go_enter Try.func51, Try.ntmps51
    go_wp2
    go_ret
    refine ⟨?_, rfl⟩
    simp [portB]
    omega
/-- Which error Encode tells. -/
def encE (f t : Int) (b : List UInt8) : Int := if portB f = false ∨ portB t = false then 1 else if 1016 < b.length then 2 else 0
/-- The sum of a datagram as it is laid down. -/
def encS (s d : IP) (f t : Int) (b : List UInt8) : Int := if csum 17 s d (laidL f t b 0) = 0 then 65535 else csum 17 s d (laidL f t b 0)
/-- What Encode makes. -/
def encL (s d : IP) (f t : Int) (b : List UInt8) : List UInt8 := if encE f t b = 0 then laidL f t b (encS s d f t b) else []
/-- The world behind the boxes of two addresses, under a name. -/
theorem box2 {w : World} {s d : IP} {motive : World → Prop}
    (h : ∀ X, Below w.heap.size w X → w.heap.size + 2 ≤ X.heap.size → Blk X w.heap.size 23 s.cells → Blk X (w.heap.size + 1) 23 d.cells → motive X) :
    motive ((w.alloc (.cells s.cells 23)).alloc (.cells d.cells 23)) :=
  h _ (((Below.refl w.heap.size w).alloc (Nat.le_refl _) _).alloc (by simp) _) (by simp) ((Blk.new w 23 s.cells _ rfl).alloc _) (Blk.new _ 23 d.cells _ (by simp))
theorem boxes_below (w : World) (x y : Obj) : Below w.heap.size w ((w.alloc x).alloc y) := ((Below.refl w.heap.size w).alloc (Nat.le_refl _) _).alloc (by simp) _
theorem results_tmp4 {fn : Func} {t u v x : Tmp} (h : fn.results = #[.tmp t, .tmp u, .tmp v, .tmp x]) (tmps : Array Value) (P : Program) (w : World) :
    (results fn tmps).run P w = .ok (.tuple #[tmps.getD t undef, tmps.getD u undef, tmps.getD v undef, tmps.getD x undef]) w := by simp [results, h]
end Go.Proofs.Ytbhdojpgjmbogaa
