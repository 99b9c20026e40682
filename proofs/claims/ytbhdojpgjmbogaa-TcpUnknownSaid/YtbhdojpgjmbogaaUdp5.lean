/- The reference's Decode of a datagram. -/
import Derived.Test.YtbhdojpgjmbogaaUdp4
namespace Go.Proofs.Ytbhdojpgjmbogaa
open Go.RowKit Go.Shelf
/-- How the reference's Decode ends: the data may lie in what was read. -/
def DEndR (w : World) (r : Int × Int × List UInt8 × Int) (e : Ending) (w' : World) : Prop :=
  ∃ v, e = .returned (.tuple #[.int .i64 r.1, .int .i64 r.2.1, v, .int .i64 r.2.2.2]) ∧ Rd w' v r.2.2.1 ∧ Below w.heap.size w w'
theorem quiet_left {P : Program} {f : FuncId} {args : Array Value} {w : World} {n : Nat} {v : Value}
    (h : Calls P f args (w.drewN n) fun e w' => e = .returned v ∧ w.drewN n = w') : Calls P f args (w.drewN n) fun e w'' => e = .returned v ∧ ∃ m, w'' = w.drewN m :=
  h.mono fun _ _ ⟨he, hm⟩ => ⟨he, n, hm.symm⟩
theorem belowN {B : Nat} {a w : World} (h : Below B a w) (n : Nat) : Below B a (w.drewN n) := ⟨h.os, h.tape, h.output, h.size, h.block⟩
theorem rd_cut {w : World} {A : Option Addr} {n c : Nat} {l : List UInt8} (h : Rd w (.slice A n c) l) (lo hi : Nat) (h1 : lo ≤ hi) (h2 : hi ≤ l.length) (h3 : hi ≤ c) :
    Rd w (.slice (if c = lo then A else A.map (·.add lo)) (hi - lo) (c - lo)) ((l.take hi).drop lo) := by
  obtain ⟨A', c', e, e1, e2, e3⟩ := h
  injection e with ea eb ec
  subst ea ec
  have hlen : (((l.take hi).drop lo).map bv).length = hi - lo := by simp; omega
  refine ⟨_, c - lo, by rw [hlen], by rw [hlen]; omega, by omega, ?_⟩
  have := drop_map_add A c lo hi w (l.map bv) e3 (by rw [List.length_map]; exact h2) e1
  simpa [List.map_drop, List.map_take] using this
set_option maxHeartbeats 400000 in
theorem rdec_short (s d : IP) (v : Value) (l : List UInt8) (w : World) (hr : Rd w v l) (h : l.length < 8) :
    Calls Try.prog 20 #[s.v, d.v, v] w (DEndR w (0, 0, [], 3)) := by
  obtain ⟨A, c, rfl, hc1, hc2⟩ := hr.form
  go_enter Try.func20, Try.ntmps20
  go_wp2
  refine bodyPost_ret (results_tmp4 rfl _ _ _) rfl ?_
  exact ⟨_, rfl, Rd.nil _, boxes_below _ _ _⟩
set_option maxHeartbeats 1000000 in
theorem rdec_long (s d : IP) (v : Value) (l : List UInt8) (w : World) (hr : Rd w v l) (hl : l.length ≤ 140737488355000) (h : ¬ l.length < 8) :
    Calls Try.prog 20 #[s.v, d.v, v] w (DEndR w (decR 17 s d l)) := by
  obtain ⟨A, c, rfl, hc1, hc2⟩ := hr.form
  have hR : decR 17 s d l = if b16 l 4 < 8 ∨ (l.length : Int) < b16 l 4 then (0, 0, [], 4)
    else if b16 l 6 ≠ 0 ∧ csum 17 s d (l.take (b16 l 4).toNat) ≠ 0 then (0, 0, [], 5)
    else if b16 l 0 = 0 ∨ b16 l 2 = 0 then (0, 0, [], 1)
    else (b16 l 0, b16 l 2, (l.take (b16 l 4).toNat).drop 8, 0) := by unfold decR; rw [if_neg h]
  obtain ⟨R, hR2⟩ : ∃ R, R = decR 17 s d l := ⟨_, rfl⟩
  rw [← hR2] at hR ⊢
  have HR := Lib.hid hR
  clear hR hR2
  have g1 : decide (l.length < 8) = false := by simpa using h
  go_enter Try.func20, Try.ntmps20
  go_upto_region 3 with (fail)
  refine box2 (motive := fun X => Code.wp Try.prog _ _ _ X) ?_
  intro X hB hX hbs hbd
  have hrX := hr.mono hB
  obtain ⟨f0, f1⟩ := b16_bd l 0
  obtain ⟨t0, t1⟩ := b16_bd l 2
  obtain ⟨s0, s1⟩ := b16_bd l 4
  obtain ⟨k0, k1⟩ := b16_bd l 6
  go_wp2_with fail
  refine (rat' _ l 4 4 rfl _ hrX (by omega) (by omega)).mono ?_
  rintro e w' ⟨rfl, rfl⟩
  have cK : ∀ W : World, Rd W (.slice A l.length c) l → Calls Try.prog 58 #[.slice A l.length c, .int .i64 6, .int .i64 2] W fun e w' => e = .returned (.int .i64 (b16 l 6)) ∧ W = w' := fun W h => rat' _ l 6 6 rfl W h (by omega) (by omega)
  have cF : ∀ W : World, Rd W (.slice A l.length c) l → Calls Try.prog 58 #[.slice A l.length c, .int .i64 0, .int .i64 2] W fun e w' => e = .returned (.int .i64 (b16 l 0)) ∧ W = w' := fun W h => rat' _ l 0 0 rfl W h (by omega) (by omega)
  have cT : ∀ W : World, Rd W (.slice A l.length c) l → Calls Try.prog 58 #[.slice A l.length c, .int .i64 2, .int .i64 2] W fun e w' => e = .returned (.int .i64 (b16 l 2)) ∧ W = w' := fun W h => rat' _ l 2 2 rfl W h (by omega) (by omega)
  generalize b16 l 0 = F at *
  generalize b16 l 2 = T at *
  generalize b16 l 4 = S at *
  generalize b16 l 6 = K at *
  have CK := Lib.hid cK
  have CF := Lib.hid cF
  have CT := Lib.hid cT
  clear cK cF cT
  clear g1 hr h
  have hS0 := HR.out
  by_cases hS8 : S < 8
  · have g2 : decide (S < 8) = true := by simpa using hS8
    rw [if_pos (.inl hS8)] at hS0
    subst hS0
    go_wp2
    refine bodyPost_ret (results_tmp4 rfl _ _ _) rfl ?_
    exact ⟨_, rfl, Rd.nil _, hB⟩
  have g2 : decide (S < 8) = false := by simpa using hS8
  by_cases hSl : (l.length : Int) < S
  · have g3 : decide ((l.length : Int) < S) = true := by simpa using hSl
    rw [if_pos (.inr hSl)] at hS0
    subst hS0
    go_wp2
    refine bodyPost_ret (results_tmp4 rfl _ _ _) rfl ?_
    exact ⟨_, rfl, Rd.nil _, hB⟩
  have g3 : decide ((l.length : Int) < S) = false := by simpa using hSl
  rw [if_neg (by omega)] at hS0
  have HR2 := Lib.hid hS0
  clear hS0 HR
  have hSc : S ≤ (c : Int) := by omega
  go_upto_region 6 with (fail)
  clear g2 g3
  by_cases hK : K = 0
  · subst hK
    rw [if_neg (by simp)] at HR2
    go_quiet ((go_at_call 58; exact quiet_left (CK.out _ hrX)))
    have hrZ : Rd (X.drewN nq) (.slice A l.length c) l := hrX
    have hBZ : Below w.heap.size w (X.drewN nq) := ⟨hB.os, hB.tape, hB.output, hB.size, hB.block⟩
    obtain ⟨Z, hZ⟩ : ∃ Z, Z = X.drewN nq := ⟨_, rfl⟩
    rw [← hZ] at hrZ hBZ ⊢
    clear hZ
    clear hbs hbd hrX hB
    go_wp2_with fail
    refine (CF.out _ hrZ).mono ?_
    rintro e wz ⟨rfl, rfl⟩
    go_wp2_with fail
    refine (CT.out _ hrZ).mono ?_
    rintro e wz ⟨rfl, rfl⟩
    clear CF CT CK
    by_cases hF : F = 0
    · have g5 : (F == 0) = true := by simpa using hF
      rw [if_pos (.inl hF)] at HR2
      go_wp2
      refine bodyPost_ret (results_tmp4 rfl _ _ _) rfl ?_
      rw [HR2.out]
      exact ⟨_, rfl, Rd.nil _, hBZ⟩
    have g5 : (F == 0) = false := by simpa using hF
    by_cases hT : T = 0
    · have g6 : (T == 0) = true := by simpa using hT
      rw [if_pos (.inr hT)] at HR2
      go_wp2
      refine bodyPost_ret (results_tmp4 rfl _ _ _) rfl ?_
      rw [HR2.out]
      exact ⟨_, rfl, Rd.nil _, hBZ⟩
    have g6 : (T == 0) = false := by simpa using hT
    rw [if_neg (by omega)] at HR2
    go_upto_region 12 with (fail)
    by_cases hc8 : c = 8
    · go_region_with fail
      go_wp2
      refine bodyPost_ret (results_tmp4 rfl _ _ _) rfl ?_
      rw [HR2.out]
      have e8 : (l.take S.toNat).drop 8 = [] := List.drop_of_length_le (by simp; omega)
      rw [e8]
      exact ⟨_, rfl, ⟨A, 0, rfl, Nat.le_refl _, Nat.zero_le _, .inl rfl⟩, hBZ.drew⟩
    · have hrc := rd_cut hrZ 8 S.toNat (by omega) (by omega) (by omega)
      rw [if_neg hc8] at hrc
      go_quiet (fail)
      go_wp2
      refine bodyPost_ret (results_tmp4 rfl _ _ _) rfl ?_
      rw [HR2.out]
      exact ⟨_, rfl, hrc, belowN hBZ _⟩
  · have g4 : (K != 0) = true := by simpa using hK
    obtain ⟨hcs0, hcs1, hcs2, hcs3⟩ := hbs.ip4
    obtain ⟨hcd0, hcd1, hcd2, hcd3⟩ := hbd.ip4
    have hrt := rd_take hrX S.toNat (by omega)
    have hB8 : ∀ w1, Below X.drew.heap.size X.drew w1 → w1.cell? ⟨w.heap.size, 0, none⟩ = some (.int .u8 s.a.toNat) ∧ w1.cell? ⟨w.heap.size, 1, none⟩ = some (.int .u8 s.b.toNat) ∧ w1.cell? ⟨w.heap.size, 2, none⟩ = some (.int .u8 s.c.toNat) ∧ w1.cell? ⟨w.heap.size, 3, none⟩ = some (.int .u8 s.d.toNat) ∧ w1.cell? ⟨w.heap.size + 1, 0, none⟩ = some (.int .u8 d.a.toNat) ∧ w1.cell? ⟨w.heap.size + 1, 1, none⟩ = some (.int .u8 d.b.toNat) ∧ w1.cell? ⟨w.heap.size + 1, 2, none⟩ = some (.int .u8 d.c.toNat) ∧ w1.cell? ⟨w.heap.size + 1, 3, none⟩ = some (.int .u8 d.d.toNat) := fun w1 h => by
      obtain ⟨a0, a1, a2, a3⟩ := (hbs.drw.keep h hbs.lt).ip4
      obtain ⟨b0, b1, b2, b3⟩ := (hbd.drw.keep h hbd.lt).ip4
      exact ⟨a0, a1, a2, a3, b0, b1, b2, b3⟩
    have HB8 := Lib.hid hB8
    clear hB8
    go_region_held3 (fun w' => w'.cell? ⟨w.heap.size, 0, none⟩ = some (.int .u8 s.a.toNat) ∧ w'.cell? ⟨w.heap.size, 1, none⟩ = some (.int .u8 s.b.toNat) ∧ w'.cell? ⟨w.heap.size, 2, none⟩ = some (.int .u8 s.c.toNat) ∧ w'.cell? ⟨w.heap.size, 3, none⟩ = some (.int .u8 s.d.toNat) ∧ w'.cell? ⟨w.heap.size + 1, 0, none⟩ = some (.int .u8 d.a.toNat) ∧ w'.cell? ⟨w.heap.size + 1, 1, none⟩ = some (.int .u8 d.b.toNat) ∧ w'.cell? ⟨w.heap.size + 1, 2, none⟩ = some (.int .u8 d.c.toNat) ∧ w'.cell? ⟨w.heap.size + 1, 3, none⟩ = some (.int .u8 d.d.toNat)) (go_keep)
      (first | (go_at_call 58; refine (CK.out _ hrX.drew).mono ?_; rintro e w1 ⟨rfl, rfl⟩) | (go_at_call 54; refine (rusum s d _ _ _ hrt.drew (by simp; omega)).mono ?_; rintro e w1 ⟨rfl, hb1⟩; obtain ⟨a0, a1, a2, a3, b0, b1, b2, b3⟩ := HB8.out w1 hb1))
    have hrZ := hrX.drew.mono hb1
    have hBZ := below_step hB (by omega) (show Below X.heap.size X w1 from (Below.refl X.heap.size X).drew.trans hb1)
    by_cases hC : csum 17 s d (l.take S.toNat) = 0
    · rw [if_neg (by simp [hC])] at HR2
      rw [hC]
      have hC2 := hC
      clear hC hC2
      go_wp2_with fail
      refine (CF.out _ hrZ).mono ?_
      rintro e wz ⟨rfl, rfl⟩
      go_wp2_with fail
      refine (CT.out _ hrZ).mono ?_
      rintro e wz ⟨rfl, rfl⟩
      clear CF CT CK
      by_cases hF : F = 0
      · have g5 : (F == 0) = true := by simpa using hF
        rw [if_pos (.inl hF)] at HR2
        go_wp2
        refine bodyPost_ret (results_tmp4 rfl _ _ _) rfl ?_
        rw [HR2.out]
        exact ⟨_, rfl, Rd.nil _, hBZ⟩
      have g5 : (F == 0) = false := by simpa using hF
      by_cases hT : T = 0
      · have g6 : (T == 0) = true := by simpa using hT
        rw [if_pos (.inr hT)] at HR2
        go_wp2
        refine bodyPost_ret (results_tmp4 rfl _ _ _) rfl ?_
        rw [HR2.out]
        exact ⟨_, rfl, Rd.nil _, hBZ⟩
      have g6 : (T == 0) = false := by simpa using hT
      rw [if_neg (by omega)] at HR2
      go_upto_region 12 with (fail)
      by_cases hc8 : c = 8
      · go_region_with fail
        go_wp2
        refine bodyPost_ret (results_tmp4 rfl _ _ _) rfl ?_
        rw [HR2.out]
        have e8 : (l.take S.toNat).drop 8 = [] := List.drop_of_length_le (by simp; omega)
        rw [e8]
        exact ⟨_, rfl, ⟨A, 0, rfl, Nat.le_refl _, Nat.zero_le _, .inl rfl⟩, hBZ.drew⟩
      · have hrc := rd_cut hrZ 8 S.toNat (by omega) (by omega) (by omega)
        rw [if_neg hc8] at hrc
        go_quiet (fail)
        go_wp2
        refine bodyPost_ret (results_tmp4 rfl _ _ _) rfl ?_
        rw [HR2.out]
        exact ⟨_, rfl, hrc, belowN hBZ _⟩
    · rw [if_pos ⟨hK, hC⟩] at HR2
      have g5 : (csum 17 s d (l.take S.toNat) != 0) = true := by simpa using hC
      go_wp2
      refine bodyPost_ret (results_tmp4 rfl _ _ _) rfl ?_
      rw [HR2.out]
      exact ⟨_, rfl, Rd.nil _, hBZ⟩
/-- The reference's Decode. -/
theorem rdec (s d : IP) (v : Value) (l : List UInt8) (w : World) (hr : Rd w v l) (hl : l.length ≤ 140737488355000) :
    Calls Try.prog 20 #[s.v, d.v, v] w (DEndR w (decR 17 s d l)) := by
  by_cases h : l.length < 8
  · have e : decR 17 s d l = (0, 0, [], 3) := by unfold decR; rw [if_pos h]
    rw [e]
    exact rdec_short s d v l w hr h
  · exact rdec_long s d v l w hr hl h
end Go.Proofs.Ytbhdojpgjmbogaa
