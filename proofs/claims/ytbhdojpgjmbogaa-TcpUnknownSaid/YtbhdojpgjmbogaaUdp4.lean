/- udp.Decode: what reads a datagram's bytes. -/
import Derived.Test.YtbhdojpgjmbogaaUdp1
import Derived.BigQuiet
import Derived.Deep.QuietTactic
import Derived.Deep.RegionHeld3
namespace Go.Proofs.Ytbhdojpgjmbogaa
open Go.RowKit Go.Shelf
/-- The number in two bytes at a place. -/
def b16 (l : List UInt8) (k : Nat) : Int := be ((l.drop k).take 2)
theorem b16_bd (l : List UInt8) (k : Nat) : 0 ≤ b16 l k ∧ b16 l k ≤ 65535 := by
  have h0 := be_0 ((l.drop k).take 2)
  have h1 := be_2 ((l.drop k).take 2) (by simp; omega)
  unfold b16; omega
theorem at16' (v : Value) (l : List UInt8) (f : Int) (k : Nat) (hk : f = k) (w : World) (hr : Rd w v l) (h3 : k + 2 ≤ l.length) :
    Calls Try.prog 56 #[v, .int .i64 f] w fun e w' => e = .returned (.tuple #[.int .i64 (b16 l k), .int .i64 0]) ∧ w = w' := by
  subst hk
  have h := at16 v l k w hr (by omega) (by omega)
  simpa [b16] using h
theorem rat' (v : Value) (l : List UInt8) (f : Int) (k : Nat) (hk : f = k) (w : World) (hr : Rd w v l) (h3 : k + 2 ≤ l.length) (hl : l.length ≤ 140737488355328) :
    Calls Try.prog 58 #[v, .int .i64 f, .int .i64 2] w fun e w' => e = .returned (.int .i64 (b16 l k)) ∧ w = w' := by
  subst hk
  have h := rat v l k 2 w hr (by omega) (by omega) (by omega) (by omega) hl
  simpa [b16] using h
theorem rd_take {w : World} {A : Option Addr} {n c : Nat} {l : List UInt8} (h : Rd w (.slice A n c) l) (k : Nat) (hk : k ≤ l.length) : Rd w (.slice A k c) (l.take k) := by
  obtain ⟨A', c', e, h1, h2, h3⟩ := h
  injection e with e1 e2 e3
  subst e1 e3
  have hlen : ((l.take k).map bv).length = k := by simp; omega
  refine ⟨A, c, by rw [hlen], by rw [hlen]; rw [List.length_map] at h1; omega, h2, ?_⟩
  rcases h3 with h | ⟨b, o, ha, hlt, hc⟩
  · left; simp at h; subst h; simp
  · right
    refine ⟨b, o, ha, hlt, fun j u hu => hc j u ?_⟩
    rw [List.map_take, List.getElem?_take] at hu
    split at hu
    · exact hu
    · cases hu
/-- What Decode tells: from, to, the data, the error. -/
def decR (p : Int) (s d : IP) (l : List UInt8) : Int × Int × List UInt8 × Int :=
  if l.length < 8 then (0, 0, [], 3)
  else if b16 l 4 < 8 ∨ (l.length : Int) < b16 l 4 then (0, 0, [], 4)
  else if b16 l 6 ≠ 0 ∧ csum p s d (l.take (b16 l 4).toNat) ≠ 0 then (0, 0, [], 5)
  else if b16 l 0 = 0 ∨ b16 l 2 = 0 then (0, 0, [], 1)
  else (b16 l 0, b16 l 2, (l.take (b16 l 4).toNat).drop 8, 0)
/-- How it ends: the data are the caller's own. -/
def DEnd (w : World) (r : Int × Int × List UInt8 × Int) (e : Ending) (w' : World) : Prop :=
  ∃ v, e = .returned (.tuple #[.int .i64 r.1, .int .i64 r.2.1, v, .int .i64 r.2.2.2]) ∧ Ow w' w.heap.size v r.2.2.1 ∧ Below w.heap.size w w'
set_option maxHeartbeats 400000 in
theorem udec_short (s d : IP) (v : Value) (l : List UInt8) (w : World) (hr : Rd w v l) (h : l.length < 8) :
    Calls Try.prog 19 #[s.v, d.v, v] w (DEnd w (0, 0, [], 3)) := by
  obtain ⟨A, c, rfl, hc1, hc2⟩ := hr.form
  go_enter Try.func19, Try.ntmps19
  go_wp2
  refine bodyPost_ret (results_tmp4 rfl _ _ _) rfl ?_
  exact ⟨_, rfl, Ow.nil _ _, boxes_below _ _ _⟩
set_option maxHeartbeats 1000000 in
theorem udec_long (s d : IP) (v : Value) (l : List UInt8) (w : World) (hr : Rd w v l) (hl : l.length ≤ 140737488355000) (h : ¬ l.length < 8) :
    Calls Try.prog 19 #[s.v, d.v, v] w (DEnd w (decR 17 s d l)) := by
  obtain ⟨A, c, rfl, hc1, hc2⟩ := hr.form
  have hR : decR 17 s d l = if b16 l 4 < 8 ∨ (l.length : Int) < b16 l 4 then (0, 0, [], 4)
    else if b16 l 6 ≠ 0 ∧ csum 17 s d (l.take (b16 l 4).toNat) ≠ 0 then (0, 0, [], 5)
    else if b16 l 0 = 0 ∨ b16 l 2 = 0 then (0, 0, [], 1)
    else (b16 l 0, b16 l 2, (l.take (b16 l 4).toNat).drop 8, 0) := by unfold decR; rw [if_neg h]
  obtain ⟨R, hR2⟩ : ∃ R, R = decR 17 s d l := ⟨_, rfl⟩
  rw [← hR2] at hR ⊢
  have HR := Lib.hid hR
  clear hR hR2
  have g1 : decide (l.length < 8) = false := by simpa using h
  go_enter Try.func19, Try.ntmps19
  go_upto_region 3 with (fail)
  refine box2 (motive := fun X => Code.wp Try.prog _ _ _ X) ?_
  intro X hB hX hbs hbd
  have hrX := hr.mono hB
  obtain ⟨f0, f1⟩ := b16_bd l 0
  obtain ⟨t0, t1⟩ := b16_bd l 2
  obtain ⟨s0, s1⟩ := b16_bd l 4
  obtain ⟨k0, k1⟩ := b16_bd l 6
  go_wp2_with fail
  refine (at16' _ l 0 0 rfl _ hrX (by omega)).mono ?_
  rintro e w' ⟨rfl, rfl⟩
  go_wp2_with fail
  refine (at16' _ l 2 2 rfl _ hrX (by omega)).mono ?_
  rintro e w' ⟨rfl, rfl⟩
  go_wp2_with fail
  refine (at16' _ l 4 4 rfl _ hrX (by omega)).mono ?_
  rintro e w' ⟨rfl, rfl⟩
  go_wp2_with fail
  refine (at16' _ l 6 6 rfl _ hrX (by omega)).mono ?_
  rintro e w' ⟨rfl, rfl⟩
  generalize b16 l 0 = F at *
  generalize b16 l 2 = T at *
  generalize b16 l 4 = S at *
  generalize b16 l 6 = K at *
  clear g1 hr h
  have hS0 := HR.out
  by_cases hS8 : S < 8
  · have g2 : decide (S < 8) = true := by simpa using hS8
    rw [if_pos (.inl hS8)] at hS0
    subst hS0
    go_wp2
    refine bodyPost_ret (results_tmp4 rfl _ _ _) rfl ?_
    exact ⟨_, rfl, Ow.nil _ _, hB⟩
  have g2 : decide (S < 8) = false := by simpa using hS8
  by_cases hSl : (l.length : Int) < S
  · have g3 : decide ((l.length : Int) < S) = true := by simpa using hSl
    rw [if_pos (.inr hSl)] at hS0
    subst hS0
    go_wp2
    refine bodyPost_ret (results_tmp4 rfl _ _ _) rfl ?_
    exact ⟨_, rfl, Ow.nil _ _, hB⟩
  have g3 : decide ((l.length : Int) < S) = false := by simpa using hSl
  rw [if_neg (by omega)] at hS0
  have HR2 := Lib.hid hS0
  clear hS0 HR
  have hSc : S ≤ (c : Int) := by omega
  go_upto_region 9 with (fail)
  clear g2 g3
  by_cases hK : K = 0
  · subst hK
    rw [if_neg (by simp)] at HR2
    go_quiet (fail)
    have hrZ : Rd (X.drewN nq) (.slice A l.length c) l := hrX
    have hBZ : Below w.heap.size w (X.drewN nq) := ⟨hB.os, hB.tape, hB.output, hB.size, hB.block⟩
    clear hbs hbd hrX hB
    by_cases hF : F = 0
    · have g5 : (F == 0) = true := by simpa using hF
      rw [if_pos (.inl hF)] at HR2
      go_wp2
      refine bodyPost_ret (results_tmp4 rfl _ _ _) rfl ?_
      rw [HR2.out]
      exact ⟨_, rfl, Ow.nil _ _, hBZ⟩
    have g5 : (F == 0) = false := by simpa using hF
    by_cases hT : T = 0
    · have g6 : (T == 0) = true := by simpa using hT
      rw [if_pos (.inr hT)] at HR2
      go_wp2
      refine bodyPost_ret (results_tmp4 rfl _ _ _) rfl ?_
      rw [HR2.out]
      exact ⟨_, rfl, Ow.nil _ _, hBZ⟩
    have g6 : (T == 0) = false := by simpa using hT
    rw [if_neg (by omega)] at HR2
    go_wp2_with ((with_reducible refine at_slot 73 ?_); refine wpList_slice rfl (.tmp 71) (some (.const (.int .i64 8))) (some (.tmp 72)) rfl _ l rfl hrZ 8 S (.yes rfl rfl) (.yes rfl rfl) (by omega) (by omega) (by omega) ?_; intro m A' c' hm hm1 hm2 hc3 hc4 hrm)
    refine (clone_b _ m _ hrm (by omega)).mono ?_
    rintro e w3 ⟨v3, rfl, ho3, hb3⟩
    go_wp2
    refine bodyPost_ret (results_tmp4 rfl _ _ _) rfl ?_
    rw [HR2.out]
    refine ⟨_, rfl, ?_, below_step hBZ hBZ.size hb3⟩
    have e8 : (8 : Int).toNat = 8 := rfl
    rw [hm.out, e8] at ho3
    exact ho3.less hBZ.size
  · have g4 : (K != 0) = true := by simpa using hK
    obtain ⟨hcs0, hcs1, hcs2, hcs3⟩ := hbs.ip4
    obtain ⟨hcd0, hcd1, hcd2, hcd3⟩ := hbd.ip4
    have hrt := rd_take hrX S.toNat (by omega)
    have hB8 : ∀ w1, Below X.drew.heap.size X.drew w1 → w1.cell? ⟨w.heap.size, 0, none⟩ = some (.int .u8 s.a.toNat) ∧ w1.cell? ⟨w.heap.size, 1, none⟩ = some (.int .u8 s.b.toNat) ∧ w1.cell? ⟨w.heap.size, 2, none⟩ = some (.int .u8 s.c.toNat) ∧ w1.cell? ⟨w.heap.size, 3, none⟩ = some (.int .u8 s.d.toNat) ∧ w1.cell? ⟨w.heap.size + 1, 0, none⟩ = some (.int .u8 d.a.toNat) ∧ w1.cell? ⟨w.heap.size + 1, 1, none⟩ = some (.int .u8 d.b.toNat) ∧ w1.cell? ⟨w.heap.size + 1, 2, none⟩ = some (.int .u8 d.c.toNat) ∧ w1.cell? ⟨w.heap.size + 1, 3, none⟩ = some (.int .u8 d.d.toNat) := fun w1 h => by
      obtain ⟨a0, a1, a2, a3⟩ := (hbs.drw.keep h hbs.lt).ip4
      obtain ⟨b0, b1, b2, b3⟩ := (hbd.drw.keep h hbd.lt).ip4
      exact ⟨a0, a1, a2, a3, b0, b1, b2, b3⟩
    have HB8 := Lib.hid hB8
    clear hB8
    go_region_held3 (fun w' => w'.cell? ⟨w.heap.size, 0, none⟩ = some (.int .u8 s.a.toNat) ∧ w'.cell? ⟨w.heap.size, 1, none⟩ = some (.int .u8 s.b.toNat) ∧ w'.cell? ⟨w.heap.size, 2, none⟩ = some (.int .u8 s.c.toNat) ∧ w'.cell? ⟨w.heap.size, 3, none⟩ = some (.int .u8 s.d.toNat) ∧ w'.cell? ⟨w.heap.size + 1, 0, none⟩ = some (.int .u8 d.a.toNat) ∧ w'.cell? ⟨w.heap.size + 1, 1, none⟩ = some (.int .u8 d.b.toNat) ∧ w'.cell? ⟨w.heap.size + 1, 2, none⟩ = some (.int .u8 d.c.toNat) ∧ w'.cell? ⟨w.heap.size + 1, 3, none⟩ = some (.int .u8 d.d.toNat)) (go_keep)
      (first | (go_at_call 53; refine (usum s d _ _ _ hrt.drew (by simp; omega)).mono ?_; rintro e w1 ⟨rfl, hb1⟩; obtain ⟨a0, a1, a2, a3, b0, b1, b2, b3⟩ := HB8.out w1 hb1))
    have hrZ := hrX.drew.mono hb1
    have hBZ := below_step hB (by omega) (show Below X.heap.size X w1 from (Below.refl X.heap.size X).drew.trans hb1)
    clear hcs0 hcs1 hcs2 hcs3 hcd0 hcd1 hcd2 hcd3 hrt HB8 hb1 a0 a1 a2 a3 b0 b1 b2 b3 hbs hbd hrX hB
    rename_i hHeld
    clear hHeld
    by_cases hC : csum 17 s d (l.take S.toNat) = 0
    · rw [if_neg (by simp [hC])] at HR2
      rw [hC]
      have hC2 := hC
      clear hC hC2
      by_cases hF : F = 0
      · have g5 : (F == 0) = true := by simpa using hF
        rw [if_pos (.inl hF)] at HR2
        go_wp2
        refine bodyPost_ret (results_tmp4 rfl _ _ _) rfl ?_
        rw [HR2.out]
        exact ⟨_, rfl, Ow.nil _ _, hBZ⟩
      have g5 : (F == 0) = false := by simpa using hF
      by_cases hT : T = 0
      · have g6 : (T == 0) = true := by simpa using hT
        rw [if_pos (.inr hT)] at HR2
        go_wp2
        refine bodyPost_ret (results_tmp4 rfl _ _ _) rfl ?_
        rw [HR2.out]
        exact ⟨_, rfl, Ow.nil _ _, hBZ⟩
      have g6 : (T == 0) = false := by simpa using hT
      rw [if_neg (by omega)] at HR2
      go_wp2_with ((with_reducible refine at_slot 73 ?_); refine wpList_slice rfl (.tmp 71) (some (.const (.int .i64 8))) (some (.tmp 72)) rfl _ l rfl hrZ 8 S (.yes rfl rfl) (.yes rfl rfl) (by omega) (by omega) (by omega) ?_; intro m A' c' hm hm1 hm2 hc3 hc4 hrm)
      refine (clone_b _ m _ hrm (by omega)).mono ?_
      rintro e w3 ⟨v3, rfl, ho3, hb3⟩
      go_wp2
      refine bodyPost_ret (results_tmp4 rfl _ _ _) rfl ?_
      rw [HR2.out]
      refine ⟨_, rfl, ?_, below_step hBZ hBZ.size hb3⟩
      have e8 : (8 : Int).toNat = 8 := rfl
      rw [hm.out, e8] at ho3
      exact ho3.less hBZ.size
    · rw [if_pos ⟨hK, hC⟩] at HR2
      have g5 : (csum 17 s d (l.take S.toNat) != 0) = true := by simpa using hC
      go_wp2
      refine bodyPost_ret (results_tmp4 rfl _ _ _) rfl ?_
      rw [HR2.out]
      exact ⟨_, rfl, Ow.nil _ _, hBZ⟩
/-- udp.Decode. -/
theorem udec (s d : IP) (v : Value) (l : List UInt8) (w : World) (hr : Rd w v l) (hl : l.length ≤ 140737488355000) :
    Calls Try.prog 19 #[s.v, d.v, v] w (DEnd w (decR 17 s d l)) := by
  by_cases h : l.length < 8
  · have e : decR 17 s d l = (0, 0, [], 3) := by unfold decR; rw [if_pos h]
    rw [e]
    exact udec_short s d v l w hr h
  · exact udec_long s d v l w hr hl h
end Go.Proofs.Ytbhdojpgjmbogaa
