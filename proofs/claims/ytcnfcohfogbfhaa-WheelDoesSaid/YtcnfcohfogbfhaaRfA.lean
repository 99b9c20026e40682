/- The reference's wheel: Arm, Cancel, Advance; are two lists the same? -/
import Derived.Test.YtcnfcohfogbfhaaRfW
namespace Go.Proofs.Ytcnfcohfogbfhaa
open Go.RowKit Go.Shelf
set_option maxRecDepth 100000 in
set_option maxHeartbeats 4000000 in
theorem rfcancel {w : World} {B q : Nat} {rv : Value} {now : Int} {A : List Tm} (h : RfAt w B q rv now (A.map ctl)) (h64 : A.length ≤ 64) (id : Int) :
    Calls Try.prog 17 #[.pointer (some ⟨q, 0, none⟩), .int .i64 id] w fun e w' => e = .returned (.int .i64 (if has A id then 0 else 7)) ∧ RfEnd w B q rv now ((rid A id).map ctl) w' := by
  have hwi := rfwithout h h64 id
  cases hx : has A id with
  | false =>
    rw [hx] at hwi
    have hA : rid A id = A := rid_none (not_has hx)
    rw [hA] at hwi ⊢
    have hs : (if false = true then (0 : Int) else 7) = 7 := rfl
    rw [hs]
    clear hx hs
    go_enter Try.func17, Try.ntmps17
    go_wp2_with fail
    refine hwi.mono ?_
    rintro e w1 ⟨⟨v, rfl, ho⟩, hb⟩
    obtain ⟨Al, cl, rfl, _, _⟩ := ho.form
    have he := RfEnd.below h hb
    clear ho hb hwi
    generalize (A.map ctl).length = m4 at *
    go_wp2
    go_ret
    exact ⟨rfl, he⟩
  | true =>
    rw [hx] at hwi
    have hs : (if true = true then (0 : Int) else 7) = 0 := rfl
    rw [hs]
    clear hx hs
    go_enter Try.func17, Try.ntmps17
    go_wp2_with fail
    refine hwi.mono ?_
    rintro e w1 ⟨⟨v, rfl, ho⟩, hb⟩
    obtain ⟨Al, cl, rfl, _, _⟩ := ho.form
    have h1 := h.mono hb
    have c1 := h1.c1
    have f1 := h1.blk.free 1
    have he := h.put hb ho
    clear ho hb hwi h1
    generalize ((rid A id).map ctl).length = m4 at *
    go_wp2
    go_ret
    exact ⟨rfl, he⟩
set_option maxRecDepth 100000 in
set_option maxHeartbeats 4000000 in
theorem rfarm_arg {w : World} {B q : Nat} {rv : Value} {now : Int} {A : List Tm} (h : RfAt w B q rv now (A.map ctl)) (id tk : Int) (hno : id < 0 ∨ tk ≤ now ∨ 1099511627776 < tk) :
    Calls Try.prog 16 #[.pointer (some ⟨q, 0, none⟩), .int .i64 id, .int .i64 tk] w fun e w' => e = .returned (.int .i64 1) ∧ w = w' := by
  have c0 := h.c0
  by_cases h1 : id < 0
  · have q1 : decide (id < 0) = true := by simpa using h1
    clear hno h1
    go_enter Try.func16, Try.ntmps16
    go_wp2
    go_ret
    exact ⟨rfl, rfl⟩
  have q1 : decide (id < 0) = false := by simpa using h1
  by_cases h2 : tk ≤ now
  · have q2 : decide (tk ≤ now) = true := by simpa using h2
    clear hno h1 h2
    go_enter Try.func16, Try.ntmps16
    go_wp2
    go_ret
    exact ⟨rfl, rfl⟩
  have q2 : decide (tk ≤ now) = false := by simpa using h2
  have q3 : decide (1099511627776 < tk) = true := by simp; omega
  clear hno h1 h2
  go_enter Try.func16, Try.ntmps16
  go_wp2
  go_ret
  exact ⟨rfl, rfl⟩
set_option maxRecDepth 100000 in
set_option maxHeartbeats 4000000 in
theorem rfarm_many {w : World} {B q : Nat} {rv : Value} {now : Int} {A : List Tm} (h : RfAt w B q rv now (A.map ctl)) (id tk : Int) (k1 : 0 ≤ id) (k2 : now < tk) (k3 : tk ≤ 1099511627776) (hx : has A id = false) (h64 : A.length = 64) :
    Calls Try.prog 16 #[.pointer (some ⟨q, 0, none⟩), .int .i64 id, .int .i64 tk] w fun e w' => e = .returned (.int .i64 6) ∧ RfEnd w B q rv now (A.map ctl) w' := by
  have hwi := rfwithout h (by omega) id
  rw [hx] at hwi
  obtain ⟨Ar, cr, rfl, _, _⟩ := h.own.form
  have hml : (A.map ctl).length = 64 := by rw [List.length_map, h64]
  rw [hml] at h ⊢
  have c0 := h.c0
  have q1 : decide (id < 0) = false := by simpa using k1
  have q2 : decide (tk ≤ now) = false := by simpa using k2
  have q3 : decide (1099511627776 < tk) = false := by simpa using k3
  clear k1 k2 k3 hx h64 hml
  go_enter Try.func16, Try.ntmps16
  go_wp2_with fail
  refine hwi.mono ?_
  rintro e w1 ⟨⟨v, rfl, ho⟩, hb⟩
  obtain ⟨Al, cl, rfl, _, _⟩ := ho.form
  have he := RfEnd.below h hb
  have h1 := h.mono hb
  have c1 := h1.c1
  clear ho hb hwi h1 c0
  generalize ((rid A id).map ctl).length = m4 at *
  go_wp2
  go_ret
  exact ⟨rfl, he⟩
set_option maxRecDepth 100000 in
set_option maxHeartbeats 4000000 in
theorem rfarm_ok {w : World} {B q : Nat} {rv : Value} {now : Int} {A : List Tm} (h : RfAt w B q rv now (A.map ctl)) (h64 : A.length ≤ 64) (id tk : Int) (k1 : 0 ≤ id) (k2 : now < tk) (k3 : tk ≤ 1099511627776) (hok : has A id = true ∨ A.length < 64) :
    Calls Try.prog 16 #[.pointer (some ⟨q, 0, none⟩), .int .i64 id, .int .i64 tk] w fun e w' => e = .returned (.int .i64 0) ∧ RfEnd w B q rv now ((rid A id).map ctl ++ [(id, tk)]) w' := by
  have hwi := rfwithout h h64 id
  have hlen : ((rid A id).map ctl).length ≤ 64 := by
    have h1 : (rid A id).length ≤ A.length := List.length_filter_le _ _
    rw [List.length_map]
    omega
  obtain ⟨Ar, cr, rfl, _, _⟩ := h.own.form
  obtain ⟨n, hn⟩ : ∃ n, n = A.length := ⟨_, rfl⟩
  have hml : (A.map ctl).length = n := by rw [List.length_map, hn]
  rw [hml] at h ⊢
  rw [← hn] at hok h64
  obtain ⟨x, hx⟩ : ∃ x, x = has A id := ⟨_, rfl⟩
  rw [← hx] at hwi hok
  have c0 := h.c0
  have q1 : decide (id < 0) = false := by simpa using k1
  have q2 : decide (tk ≤ now) = false := by simpa using k2
  have q3 : decide (1099511627776 < tk) = false := by simpa using k3
  clear k1 k2 k3 hx hn hml
  go_enter Try.func16, Try.ntmps16
  go_wp2_with fail
  refine hwi.mono ?_
  rintro e w1 ⟨⟨v, rfl, ho⟩, hb⟩
  have h1 := h.mono hb
  have c1 := h1.c1
  have hoX := ho.mono (below_alloc w1 (.cells #[.int .i64 id, .int .i64 tk] 37))
  have hbY := below_step hb hb.size (below_alloc w1 (.cells #[.int .i64 id, .int .i64 tk] 37))
  have hrd : RdF (w1.alloc (.cells #[.int .i64 id, .int .i64 tk] 37)) (.slice (some ⟨w1.heap.size, 0, none⟩) 1 1) [(id, tk)] := rdF_one (Blk.new w1 37 _ _ rfl)
  have hl1 : (((rid A id).map ctl).length + 1) * 16 ≤ 140737488355328 := by omega
  obtain ⟨Al, cl, rfl, _, _⟩ := ho.form
  obtain ⟨LL, hLL⟩ : ∃ LL, LL = (rid A id).map ctl := ⟨_, rfl⟩
  rw [← hLL] at ho hoX hl1 hlen ⊢
  have HLL := Lib.hid hLL
  clear hLL hwi ho hb h1 c0
  have key : x = true ∨ (x = false ∧ ((n : Int) == 64) = false) := by
    rcases hok with hok | hok
    · exact .inl hok
    · cases x
      · exact .inr ⟨rfl, by simp; omega⟩
      · exact .inl rfl
  obtain ⟨m4, hm4⟩ : ∃ m4, m4 = LL.length := ⟨_, rfl⟩
  rw [← hm4] at hoX ⊢
  have HM4 := Lib.hid hm4
  clear hok hm4
  rcases key with rfl | ⟨rfl, q4⟩
  all_goals
    go_wp2_with ((with_reducible refine at_slot 45 ?_); refine wpList_appF rfl (.tmp 40) (.tmp 44) rfl w.heap.size hoX hrd rfl rfl hl1 hbY.size ?_; intro v5 w5 ho5 hb5 hg5
                 have hbZ := hbY.trans hb5
                 have h5 := h.mono hbZ
                 have c5 := h5.c1
                 have f5 := h5.blk.free 1
                 have he := h.put hbZ ho5
                 obtain ⟨A5, cc5, rfl, _, _⟩ := ho5.form
                 clear h5 ho5 hb5 hg5 hbZ hoX hrd hbY c1
                 generalize (LL ++ [(id, tk)]).length = m5 at *)
    go_ret
    exact ⟨rfl, by rw [← HLL.out]; exact he⟩
theorem rfarm {w : World} {B q : Nat} {rv : Value} {now : Int} {A : List Tm} (h : RfAt w B q rv now (A.map ctl)) (h64 : A.length ≤ 64) (ord id tk : Int) :
    Calls Try.prog 16 #[.pointer (some ⟨q, 0, none⟩), .int .i64 id, .int .i64 tk] w fun e w' => e = .returned (.int .i64 (armE now A id tk)) ∧ RfEnd w B q rv now ((armL now A ord id tk).map ctl) w' := by
  by_cases hno : id < 0 ∨ tk ≤ now ∨ 1099511627776 < tk
  · have e : armE now A id tk = 1 := by unfold armE; rw [if_pos hno]
    rw [show armL now A ord id tk = A by unfold armL; rw [e]; rfl, e]
    exact (rfarm_arg h id tk hno).mono fun e w' ⟨h1, h2⟩ => ⟨h1, by rw [← h2]; exact .below h (Below.refl _ _)⟩
  · by_cases hm : has A id = false ∧ A.length = 64
    · have e : armE now A id tk = 6 := by unfold armE; rw [if_neg hno, if_pos hm]
      rw [show armL now A ord id tk = A by unfold armL; rw [e]; rfl, e]
      exact rfarm_many h id tk (by omega) (by omega) (by omega) hm.1 hm.2
    · have e : armE now A id tk = 0 := by unfold armE; rw [if_neg hno, if_neg hm]
      rw [show armL now A ord id tk = rid A id ++ [⟨id, tk, ord + 1⟩] by unfold armL; rw [e]; rfl, e, List.map_append]
      refine rfarm_ok h h64 id tk (by omega) (by omega) (by omega) ?_
      by_cases hx : has A id = false
      · exact .inr (by have : ¬ A.length = 64 := fun h => hm ⟨hx, h⟩; omega)
      · exact .inl (by simpa using hx)
/-- Are two lists the same? The first one is written full. -/
theorem OwE.cellsF {w : World} {base : Nat} {v : Value} {l : List (Int × Int)} (h : OwF w base v l) (h0 : 0 < l.length) : ∃ g c, v = .slice (some ⟨g, 0, none⟩) l.length c ∧ g < w.heap.size ∧ (∀ i, w.frozen? ⟨g, i, none⟩ = false) ∧ ∀ (j : Nat) (hj : j < l.length), w.cell? ⟨g, j * 2, none⟩ = some (.int .i64 l[j].1) ∧ w.cell? ⟨g, j * 2 + 1, none⟩ = some (.int .i64 l[j].2) := by
  have hh := h
  rcases h.2 with ⟨rfl, h1⟩ | ⟨g, cap, cur, rfl, hb, hg, hn, hcap, hs, ht⟩
  · omega
  · refine ⟨g, cap, rfl, (owns_block_lt hh rfl).2, fun i => by simp [World.frozen?, hg], fun j hj => ?_⟩
    obtain ⟨b, o, e, _, hc⟩ := hh.rd.at_ f_len h0
    injection e with e
    injection e with e1 e2
    subst e1 e2
    have a1 := hc j hj 0 _ rfl
    have a2 := hc j hj 1 _ rfl
    rw [Nat.zero_add] at a1 a2
    exact ⟨a1, a2⟩
set_option maxRecDepth 100000 in
set_option maxHeartbeats 4000000 in
theorem rfsame {w : World} {B : Nat} {va vb : Value} {l : List (Int × Int)} (ha : OwF w B va l) (hb : RdF w vb l) (hne : ∀ g, va.ownBlock = some g → vb.ownBlock ≠ some g) (h64 : l.length ≤ 64) :
    Calls Try.prog 20 #[va, vb] w fun e w' => e = .returned (.bool true) ∧ Touch (fun k => va.ownBlock = some k) w w' := by
  by_cases h0 : l.length = 0
  · obtain ⟨Aa, ca, rfl, _, _⟩ := ha.form
    obtain ⟨Ab, cb, rfl, _, _⟩ := hb.form
    rw [h0]
    clear ha hb hne
    go_enter Try.func20, Try.ntmps20
    go_wp2
    go_loopw [5, 6] (fun ok i wr => ok = .bool true ∧ i = .int .i64 0 ∧ wr = w) (fun _ _ _ => 0)
    case atStart => exact ⟨rfl, rfl, rfl⟩
    case round =>
      obtain ⟨rfl, rfl, rfl⟩ := hrel
      go_wp2
      go_ret
      exact ⟨rfl, Touch.refl _ _⟩
  · obtain ⟨ga, ca, rfl, hga, hfz, hca⟩ := ha.cellsF (by omega)
    obtain ⟨Ab, cb, rfl, _, _⟩ := hb.form
    obtain ⟨gb, ob, rfl, hgb, hcb⟩ := hb.at_ f_len (by omega)
    have hab : gb ≠ ga := fun e => hne ga rfl (by rw [← e]; rfl)
    obtain ⟨n, hn⟩ : ∃ n, n = l.length := ⟨_, rfl⟩
    rw [← hn] at h64 ⊢
    have HN := Lib.hid hn
    have HCA := Lib.hid hca
    have HCB := Lib.hid hcb
    clear ha hb hne h0 hn hca hcb
    go_enter Try.func20, Try.ntmps20
    go_wp2
    go_loopw [5, 6] (fun ok i wr => ∃ k : Nat, ok = .bool true ∧ i = .int .i64 k ∧ k ≤ n ∧ Touch (fun x => (Value.slice (some ⟨ga, 0, none⟩) n ca).ownBlock = some x) w wr ∧ (∀ i, wr.frozen? ⟨ga, i, none⟩ = false) ∧ Hid (∀ j, k ≤ j → j < n → wr.cell? ⟨ga, j * 2, none⟩ = w.cell? ⟨ga, j * 2, none⟩ ∧ wr.cell? ⟨ga, j * 2 + 1, none⟩ = w.cell? ⟨ga, j * 2 + 1, none⟩)) (fun _ i _ => n - (intOf i).toNat)
    case atStart => exact ⟨0, rfl, rfl, Nat.zero_le _, Touch.refl _ _, hfz, fun _ _ _ => ⟨rfl, rfl⟩⟩
    case round =>
      obtain ⟨k, rfl, rfl, hk, ht, hfr, hsm⟩ := hrel
      obtain ⟨wi, rfl⟩ : ∃ wi, wi = wr := ⟨_, rfl⟩
      clear hfz
      by_cases hkl : k < n
      · have hkA : k < l.length := by rw [← HN.out]; exact hkl
        have hkl' : (k : Int) < n := by omega
        have q3 : decide ((k : Int) < n) = true := by simpa using hkl'
        obtain ⟨x, hx⟩ : ∃ x, x = l[k].1 := ⟨_, rfl⟩
        obtain ⟨y, hy⟩ : ∃ y, y = l[k].2 := ⟨_, rfl⟩
        obtain ⟨a1, a2⟩ := hsm.out k (Nat.le_refl _) hkl
        rw [(HCA.out k hkA).1, ← hx] at a1
        rw [(HCA.out k hkA).2, ← hy] at a2
        have hkeep : ∀ i, wi.cell? ⟨gb, i, none⟩ = w.cell? ⟨gb, i, none⟩ := fun i => World.cell?_of_block (w := w) (a := ⟨gb, i, none⟩) (ht.block gb hgb (fun e => by injection e with e; exact hab e.symm))
        have b1 := HCB.out k hkA 0 _ rfl
        have b2 := HCB.out k hkA 1 _ rfl
        rw [← hkeep, ← hx, Nat.add_zero] at b1
        rw [← hkeep, ← hy] at b2
        have f1 := hfr (k * 2)
        have f2 := hfr (k * 2 + 1)
        have HFR := Lib.hid hfr
        clear hx hy hkeep hfr
        go_upto_region 7 with (fail)
        go_quiet (fail)
        have hdr : Touch (fun x => x = ga) wi (wi.drewN nq) := ⟨rfl, rfl, rfl, Nat.le_refl _, fun _ _ _ => rfl⟩
        have htY := hdr.trans ((Touch.set (S := fun x => x = ga) (wi.drewN nq) (p := ⟨ga, k * 2, none⟩) rfl (.int .i64 (-5))).trans (Touch.set (S := fun x => x = ga) _ (p := ⟨ga, k * 2 + 1, none⟩) rfl (.int .i64 0)))
        have hfY : ∀ i, (((wi.drewN nq).setCell ⟨ga, k * 2, none⟩ (.int .i64 (-5))).setCell ⟨ga, k * 2 + 1, none⟩ (.int .i64 0)).frozen? ⟨ga, i, none⟩ = false := fun i => by
          rw [World.frozen?_setCell, World.frozen?_setCell]
          exact HFR.out i
        have hcY : ∀ i, (i < k * 2 ∨ k * 2 + 2 ≤ i) → (((wi.drewN nq).setCell ⟨ga, k * 2, none⟩ (.int .i64 (-5))).setCell ⟨ga, k * 2 + 1, none⟩ (.int .i64 0)).cell? ⟨ga, i, none⟩ = wi.cell? ⟨ga, i, none⟩ := fun i hi => World.cell?_setCells_out ga [.int .i64 (-5), .int .i64 0] (k * 2) (wi.drewN nq) ⟨ga, i, none⟩ (fun _ _ => hi)
        have HTY := Lib.hid htY
        have HFY := Lib.hid hfY
        have HCY := Lib.hid hcY
        clear hdr htY hfY hcY
        go_wp2
        go_roundw
        case rel =>
          refine ⟨k + 1, rfl, by go_num, by omega, ht.trans (HTY.out.mono fun x hx => by rw [hx]; rfl), HFY.out, fun j h1 h2 => ?_⟩
          rw [HCY.out _ (by omega), HCY.out _ (by omega)]
          exact hsm.out j (by omega) h2
        case measure => simp [intOf]; omega
      · obtain rfl : k = n := by omega
        clear hsm hfr
        go_wp2
        go_ret
        exact ⟨rfl, ht⟩
end Go.Proofs.Ytcnfcohfogbfhaa
