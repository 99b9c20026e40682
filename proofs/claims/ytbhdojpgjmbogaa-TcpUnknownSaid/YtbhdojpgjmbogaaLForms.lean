/- UdpForms: the walk over the law: it answers true. -/
import Derived.Test.YtbhdojpgjmbogaaAwake
import Derived.Test.YtbhdojpgjmbogaaUdp3
import Derived.Test.YtbhdojpgjmbogaaUdp5
namespace Go.Proofs.Ytbhdojpgjmbogaa
open Go.RowKit Go.Maps Go.Shelf
theorem Touch.mono {S S' : Nat → Prop} {w w' : World} (h : Touch S w w') (hs : ∀ k, S k → S' k) : Touch S' w w' := ⟨h.os, h.tape, h.output, h.size, fun k hk hn => h.block k hk fun e => hn (hs k e)⟩
/-- What reads below B reads on where only blocks from B on have turned. -/
theorem Rd.far {w w0 w' : World} {v : Value} {l : List UInt8} (h : Rd w v l) (h0 : Below w.heap.size w w0) {S : Nat → Prop} (ht : Touch S w0 w') (hS : ∀ k, S k → w.heap.size ≤ k) : Rd w' v l :=
  h.mono (h0.trans (ht.below hS h0.size))
theorem Ow.touch {w w' : World} {base : Nat} {v : Value} {l : List UInt8} (h : Ow w base v l) {S : Nat → Prop} (ht : Touch S w w') (hS : ∀ k, S k → k < base) : Ow w' base v l :=
  owns_same h fun g hg => ht.block g (owns_block_lt h hg).2 fun hs => by have := hS g hs; have := (owns_block_lt h hg).1; omega
theorem ow_set {w : World} {base g n cap k : Nat} {l : List UInt8} (h : Ow w base (.slice (some ⟨g, 0, none⟩) n cap) l) (x : UInt8) :
    Ow (w.setCell ⟨g, k, none⟩ (.int .u8 x.toNat)) base (.slice (some ⟨g, 0, none⟩) n cap) (l.set k x) := by
  obtain ⟨cur, h1, h2, h3, h4, h5, h6, h7⟩ := ow_cur h
  unfold Ow
  rw [List.length_set]
  have e : (w.setCell ⟨g, k, none⟩ (.int .u8 x.toNat)).heap[g]? = some (.cells (cur.set k (bv x)).toArray 5 (0, 0)) := by
    simp [World.setCell, Array.getElem?_modify, h1, bv]
  refine ⟨by simp, .inr ⟨g, cap, _, by rw [h7], h6, e, h4, h5, by simp [h2], ?_⟩⟩
  rw [Nat.mul_one, List.toList_toArray, List.take_set, h3, List.map_set]
theorem ow_inc {w : World} {base g n cap k : Nat} {l : List UInt8} (h : Ow w base (.slice (some ⟨g, 0, none⟩) n cap) l) (x : UInt8) :
    Ow (w.setCell ⟨g, k, none⟩ (.int .u8 (((x.toNat : Int) + 1) % 256))) base (.slice (some ⟨g, 0, none⟩) n cap) (l.set k (x + 1)) := by
  have e : ((x.toNat : Int) + 1) % 256 = (((x + 1).toNat : Nat) : Int) := by
    rw [UInt8.toNat_add]
    simp
  rw [e]
  exact ow_set h (x + 1)
theorem ow_cells {w : World} {base g n cap : Nat} {l : List UInt8} (h : Ow w base (.slice (some ⟨g, 0, none⟩) n cap) l) (k : Nat) (hk : k < l.length) :
    w.cell? ⟨g, k, none⟩ = some (.int .u8 (l[k].toNat : Int)) ∧ w.frozen? ⟨g, k, none⟩ = false := by
  obtain ⟨cur, h1, h2, h3, h4, h5, h6, h7⟩ := ow_cur h
  obtain ⟨b, o, e, _, hc⟩ := h.rd.at_ k hk
  injection e with e
  injection e with e1 e2
  subst e1 e2
  have := hc k hk
  rw [Nat.zero_add] at this
  exact ⟨this, by simp [World.frozen?, h1]⟩
set_option maxRecDepth 100000 in
set_option maxHeartbeats 2000000 in
theorem law_forms (s d : IP) (f t : Int) (vb vr : Value) (b raw : List UInt8) (w : World) (hb : Rd w vb b) (hr : Rd w vr raw) (hbl : b.length ≤ 140737488351232) (hrl : raw.length ≤ 140737488351232) :
    Calls Try.prog 3 #[s.v, d.v, .int .i64 f, .int .i64 t, vb, vr] w fun e w' => e = .returned (.bool true) ∧ Below w.heap.size w w' := by
  go_enter Try.func3, Try.ntmps3
  go_upto_region 1 with (fail)
  refine box2 (motive := fun X => Code.wp Try.prog _ _ _ X) ?_
  intro X hBX _ hbs hbd
  go_wp2_with fail
  refine (awake _).mono ?_
  rintro e w1 ⟨rfl, hb1⟩
  have hbs1 := hbs.mono hb1
  have hbd1 := hbd.mono hb1
  have hB1 := below_step hBX hBX.size hb1
  have hbb1 := hb.mono hB1
  clear hbs hbd hBX hb1
  go_upto_region 3 with ((with_reducible refine at_slot 33 ?_); refine wpList_app rfl (.const (.slice none 0 0)) (.tmp 32) rfl w1.heap.size (Ow.nil _ _) hbb1 rfl rfl (by simp; omega) (Nat.le_refl _) ?_; intro v2 w2 ho2 hb2 hg2; rw [List.nil_append] at ho2; clear hg2)
  have hbs2 := hbs1.mono hb2
  have hbd2 := hbd1.mono hb2
  have hB2 := below_step hB1 hB1.size hb2
  clear hbs1 hbd1 hbb1 hb2 hB1
  go_wp2_with (first | ((with_reducible refine at_slot 35 ?_); refine wpList_loadB rfl 23 (.tmp 6) rfl hbs2 rfl Try.underlying23 rfl IP.info ?_) | ((with_reducible refine at_slot 36 ?_); refine wpList_loadB rfl 23 (.tmp 7) rfl hbd2 rfl Try.underlying23 rfl IP.info ?_))
  refine (uenc s d f t _ b _ ho2.rd).mono ?_
  rintro e w3 ⟨v3, rfl, ho3, hb3⟩
  have hbs3 := hbs2.mono hb3
  have hbd3 := hbd2.mono hb3
  have hB3 := below_step hB2 hB2.size hb3
  have hbb3 := hb.mono hB3
  clear hbs2 hbd2
  go_wp2_with (first | ((with_reducible refine at_slot 44 ?_); refine wpList_loadB rfl 23 (.tmp 6) rfl hbs3 rfl Try.underlying23 rfl IP.info ?_) | ((with_reducible refine at_slot 45 ?_); refine wpList_loadB rfl 23 (.tmp 7) rfl hbd3 rfl Try.underlying23 rfl IP.info ?_))
  refine (renc s d f t _ b _ hbb3).mono ?_
  rintro e w4 ⟨v4, rfl, ho4, hb4⟩
  have hbs4 := hbs3.mono hb4
  have hbd4 := hbd3.mono hb4
  have hB4 := below_step hB3 hB3.size hb4
  have hrr4 := hr.mono hB4
  clear hbs3 hbd3 hbb3 hB3
  go_upto_region 6 with ((with_reducible refine at_slot 53 ?_); refine wpList_app rfl (.const (.slice none 0 0)) (.tmp 52) rfl w4.heap.size (Ow.nil _ _) hrr4 rfl rfl (by simp; omega) (Nat.le_refl _) ?_; intro v5 w5 ho5 hb5 hg5; rw [List.nil_append] at ho5; clear hg5)
  have hbs5 := hbs4.mono hb5
  have hbd5 := hbd4.mono hb5
  have hB5 := below_step hB4 hB4.size hb5
  clear hbs4 hbd4 hrr4 hB4
  go_wp2_with (first | ((with_reducible refine at_slot 55 ?_); refine wpList_loadB rfl 23 (.tmp 6) rfl hbs5 rfl Try.underlying23 rfl IP.info ?_) | ((with_reducible refine at_slot 56 ?_); refine wpList_loadB rfl 23 (.tmp 7) rfl hbd5 rfl Try.underlying23 rfl IP.info ?_))
  refine (udec s d _ raw _ ho5.rd (by omega)).mono ?_
  rintro e w6 ⟨v6, rfl, ho6, hb6⟩
  have hbs6 := hbs5.mono hb6
  have hbd6 := hbd5.mono hb6
  have hB6 := below_step hB5 hB5.size hb6
  have hrr6 := hr.mono hB6
  clear hbs5 hbd5 hB5
  go_wp2_with (first | ((with_reducible refine at_slot 64 ?_); refine wpList_loadB rfl 23 (.tmp 6) rfl hbs6 rfl Try.underlying23 rfl IP.info ?_) | ((with_reducible refine at_slot 65 ?_); refine wpList_loadB rfl 23 (.tmp 7) rfl hbd6 rfl Try.underlying23 rfl IP.info ?_))
  refine (rdec s d _ raw _ hrr6 (by omega)).mono ?_
  rintro e w7 ⟨v7, rfl, hr7, hb7⟩
  have hB7 := below_step hB6 hB6.size hb7
  have b67 := hb7
  have b57 := below_step hb6 hb6.size b67
  have b47 := below_step hb5 hb5.size b57
  have b37 := below_step hb4 hb4.size b47
  have b27 := below_step hb3 hb3.size b37
  have z23 := hb3.size
  have z34 := hb4.size
  have z45 := hb5.size
  have z56 := hb6.size
  have z02 := hB2.size
  clear hbs6 hbd6 hB6 hrr6 hb3 hb4 hb5 hb6 hb7 hB2
  generalize encL s d f t b = L at *
  generalize encE f t b = E at *
  generalize decR 17 s d raw = R at *
  obtain ⟨R1, R2, R3, R4⟩ := R
  dsimp only at hr7 ho6 ⊢
  have ho37 := ho3.mono b37
  have ho47 := ho4.mono b47
  have ho67 := ho6.mono b67
  obtain ⟨A3, c3, rfl, _, hc3⟩ := ho37.rd.form
  obtain ⟨A4, c4, rfl, _, _⟩ := ho47.rd.form
  obtain ⟨A6, c6, rfl, _, hc6⟩ := ho67.rd.form
  obtain ⟨A7, c7, rfl, _, _⟩ := hr7.form
  have k3 := run_str ho37.rd
  have k4 := run_str ho47.rd
  have k6 := run_str ho67.rd
  have k7 := run_str hr7
  go_upto_region 9 with (fail)
  clear k3 k4 k6 k7 hr7 ho47 ho37 ho4 ho6 b67 b47
  have hlen3 : L.length ≤ 9223372036854775807 := by omega
  have hlen6 : R3.length ≤ 9223372036854775807 := by omega
  go_wp2
  go_loopw [29] (fun i wr => ∃ (k : Nat) (l' : List UInt8), i = .int .i64 k ∧ k ≤ R3.length ∧ Hid (l'.length = R3.length) ∧ Ow wr w5.heap.size (.slice A6 R3.length c6) l' ∧ Touch (fun g => w5.heap.size ≤ g) w7 wr) (fun i _ => R3.length - (intOf i).toNat)
  case atStart => exact ⟨0, R3, rfl, Nat.zero_le _, rfl, ho67, Touch.refl _ _⟩
  case round =>
    obtain ⟨k, l', rfl, hk, hl', ho, hT⟩ := hrel
    clear ho67
    by_cases hlt : k < R3.length
    · have hlt' : k < l'.length := by rw [hl'.out]; exact hlt
      obtain ⟨g, cap, e, hg1, hg2, _, _⟩ := ow_form ho (by omega)
      injection e with e1 e2 e3
      subst e1 e3
      obtain ⟨x0, x1⟩ := ow_cells ho k hlt'
      obtain ⟨y, hy⟩ : ∃ y, y = l'[k] := ⟨_, rfl⟩
      rw [← hy] at x0
      have hy2 := UInt8.toNat_lt y
      clear hy e2
      go_wp2
      go_roundw
      case rel => exact ⟨k + 1, l'.set k (y + 1), by go_num, by omega, by unfold Hid; rw [List.length_set]; exact hl'.out, ow_inc ho y, hT.trans (Touch.set _ hg1 _)⟩
      case measure => simp [intOf]; omega
    · have hz7 : w7.heap.size ≤ wr.heap.size := hT.size
      have b3r : Below w3.heap.size w3 wr := b37.trans (hT.below (fun g hg => by have : w5.heap.size ≤ g := hg; omega) b37.size)
      have ho3r := ho3.mono b3r
      have b5r : Below w5.heap.size w5 wr := b57.trans (hT.below (fun g hg => hg) b57.size)
      have ho5r := ho5.mono b5r
      have hBr : Below w.heap.size w wr := hB7.trans (hT.below (fun g hg => by have : w5.heap.size ≤ g := hg; omega) hB7.size)
      have b2r : Below w2.heap.size w2 wr := b27.trans (hT.below (fun g hg => by have : w5.heap.size ≤ g := hg; omega) b27.size)
      have hz3 : ∀ g, (Value.slice A3 L.length c3).ownBlock = some g → w2.heap.size ≤ g ∧ g < w3.heap.size := fun g hg => owns_block_lt ho3 hg
      have hb2r := b2r.size
      have hBz := hBr.size
      clear b37 b57 b27 hT ho5 ho b3r b5r hB7
      go_wp2
      go_loopw [30] (fun i wz => ∃ (k : Nat) (l' : List UInt8), i = .int .i64 k ∧ k ≤ L.length ∧ Hid (l'.length = L.length) ∧ Ow wz w2.heap.size (.slice A3 L.length c3) l' ∧ Touch (fun g => w2.heap.size ≤ g ∧ g < w3.heap.size) wr wz) (fun i _ => L.length - (intOf i).toNat)
      case atStart => exact ⟨0, L, rfl, Nat.zero_le _, rfl, ho3r, Touch.refl _ _⟩
      case round =>
        obtain ⟨k, l', rfl, hk, hl', ho, hT⟩ := hrel
        clear ho3r
        by_cases hlt : k < L.length
        · have hlt' : k < l'.length := by rw [hl'.out]; exact hlt
          obtain ⟨g, cap, e, hg1, hg2, _, _⟩ := ow_form ho (by omega)
          injection e with e1 e2 e3
          subst e1 e3
          have hgz := hz3 g rfl
          obtain ⟨x0, x1⟩ := ow_cells ho k hlt'
          obtain ⟨y, hy⟩ : ∃ y, y = l'[k] := ⟨_, rfl⟩
          rw [← hy] at x0
          have hy2 := UInt8.toNat_lt y
          clear hy e2
          go_wp2
          go_roundw
          case rel => exact ⟨k + 1, l'.set k (y + 1), by go_num, by omega, by unfold Hid; rw [List.length_set]; exact hl'.out, ow_inc ho y, hT.trans (Touch.set _ hgz _)⟩
          case measure => simp [intOf]; omega
        · have hv2 := ho2.rd.far b2r hT (fun g hg => hg.1)
          have hv5 := ho5r.touch hT (fun g hg => by omega)
          have hvb := hb.far hBr hT (fun g hg => by omega)
          have hvr := hr.far hBr hT (fun g hg => by omega)
          have hBw := hBr.trans (hT.below (fun g hg => by omega) hBr.size)
          obtain ⟨A2, c2, rfl, _, _⟩ := hv2.form
          obtain ⟨A5, c5, rfl, _, _⟩ := hv5.rd.form
          obtain ⟨Ab, cb, rfl, _, _⟩ := hvb.form
          obtain ⟨Ar, cr, rfl, _, _⟩ := hvr.form
          have k2 := run_str hv2
          have k5 := run_str hv5.rd
          have kb := run_str hvb
          have kr := run_str hvr
          clear hT ho3 ho5r ho2 hz3
          go_wp2
          go_ret
          exact ⟨rfl, hBw⟩
end Go.Proofs.Ytbhdojpgjmbogaa
