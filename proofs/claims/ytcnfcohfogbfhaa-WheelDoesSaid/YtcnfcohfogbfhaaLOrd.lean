/- WheelOrder: the walk: it answers true. -/
import Derived.Test.YtcnfcohfogbfhaaWOps
import Derived.Test.YtcnfcohfogbfhaaWNext
import Derived.BigQuiet
namespace Go.Proofs.Ytcnfcohfogbfhaa
open Go.RowKit Go.Shelf
/-- What the law keeps: the timers are of so many ids. -/
def Ids (N : Nat) (A : List Tm) : Prop := ∀ t ∈ A, 0 ≤ t.id ∧ t.id < (N : Int)
theorem Ids.rid {N : Nat} {A : List Tm} (h : Ids N A) (id : Int) : Ids N (rid A id) := fun t ht => h t (List.mem_filter.1 ht).1
theorem Ids.arm {N : Nat} {A : List Tm} (h : Ids N A) {now ord id tk : Int} (h0 : 0 ≤ id) (h1 : id < (N : Int)) : Ids N (armL now A ord id tk) := by
  unfold armL
  split
  · intro t ht
    rcases List.mem_append.1 ht with ht | ht
    · exact h t (List.mem_filter.1 ht).1
    · simp only [List.mem_cons, List.not_mem_nil, or_false] at ht
      subst ht
      exact ⟨h0, h1⟩
  · exact h
theorem has_dec {now : Int} {A : List Tm} {ord : Int} (ok : WOk now A ord) (i : Int) : decide (0 < dueOf A i) = has A i := by
  obtain ⟨h1, h2⟩ := dueOf_pos ok i
  cases e : has A i with
  | true => simpa using h1 e
  | false => rw [h2 e]; rfl
theorem tmod_pos (a : Int) (b : Nat) (hb : 0 < b) : ∃ r : Nat, r < b ∧ (a.tmod b + b).tmod b = r ∧ -(b : Int) < a.tmod b ∧ a.tmod b < b := by
  have h1 := Int.tmod_lt_of_pos (-a) (b := (b : Int)) (by omega)
  rw [Int.neg_tmod] at h1
  have h2 := Int.tmod_lt_of_pos a (b := (b : Int)) (by omega)
  refine ⟨((a.tmod b + b) % b).toNat, ?_, ?_, by omega, h2⟩
  · have := Int.emod_lt_of_pos (a.tmod b + b) (b := (b : Int)) (by omega)
    have := Int.emod_nonneg (a.tmod b + b) (b := (b : Int)) (by omega)
    omega
  · rw [Int.tmod_eq_emod_of_nonneg (by omega)]
    have := Int.emod_nonneg (a.tmod b + b) (b := (b : Int)) (by omega)
    omega
/-- What is left of the array when the first ones of those that came are struck. -/
def struck (A F : List Tm) (k : Nat) (i : Nat) : Int := if ((F.take k).any fun t => t.id == (i : Int)) then 0 else dueOf A i
theorem struck_zero (A F : List Tm) (i : Nat) : struck A F 0 i = dueOf A i := by simp [struck]
theorem struck_succ (A F : List Tm) (k : Nat) (hk : k < F.length) (r : Nat) (hr : F[k].id = (r : Int)) (j : Nat) : struck A F (k + 1) j = if j = r then 0 else struck A F k j := by
  unfold struck
  rw [take_one F k hk, List.any_append]
  by_cases e : j = r
  · subst e
    simp [hr]
  · have h1 : (F[k].id == (j : Int)) = false := by rw [hr]; simp; omega
    simp [h1, e]
theorem come_mem {A F : List Tm} {tk : Int} (hp : F.Perm (A.filter fun t => decide (t.due ≤ tk))) {t : Tm} (ht : t ∈ F) : t ∈ A ∧ t.due ≤ tk := by
  have := List.mem_filter.1 (hp.mem_iff.1 ht)
  exact ⟨this.1, by simpa using this.2⟩
theorem struck_at {now ord : Int} {A F : List Tm} {tk : Int} (ok : WOk now A ord) (hp : F.Perm (A.filter fun t => decide (t.due ≤ tk))) (k : Nat) (hk : k < F.length) (r : Nat) (hr : F[k].id = (r : Int)) : struck A F k r = F[k].due := by
  have hm := (come_mem hp (List.getElem_mem hk)).1
  have hu : Uniq F := by
    unfold Uniq
    exact (hp.map Tm.id).nodup_iff.2 (ok.uniq.sub List.filter_sublist)
  unfold struck
  rw [if_neg, ← hr, dueOf_hit ok.uniq hm]
  intro h
  obtain ⟨t, ht, e⟩ := List.any_eq_true.1 h
  obtain ⟨j, hj, rfl⟩ := List.getElem_of_mem ht
  have hj1 : j < k := by rw [List.length_take] at hj; omega
  rw [List.getElem_take] at e
  have e2 : F[j] = F[k] := hu.same (List.getElem_mem _) (List.getElem_mem _) (by rw [hr]; simpa using e)
  have hn := (List.pairwise_map.1 hu)
  have := List.pairwise_iff_getElem.1 hn j k (by omega) hk hj1
  exact this (by rw [e2])
theorem struck_all {now ord : Int} {A F : List Tm} {tk : Int} (ok : WOk now A ord) (hp : F.Perm (A.filter fun t => decide (t.due ≤ tk))) (i : Nat) : struck A F F.length i = dueOf (stL A tk) i := by
  unfold struck
  rw [List.take_length]
  have oks : Uniq (stL A tk) := ok.uniq.sub List.filter_sublist
  by_cases h : (F.any fun t => t.id == (i : Int)) = true
  · rw [if_pos h]
    obtain ⟨t, ht, e⟩ := List.any_eq_true.1 h
    have e' : t.id = (i : Int) := by simpa using e
    obtain ⟨h1, h2⟩ := come_mem hp ht
    rw [dueOf_none]
    intro u hu eu
    have hu' := List.mem_filter.1 hu
    have : u = t := ok.uniq.same hu'.1 h1 (by rw [eu, e'])
    have h3 := hu'.2
    simp at h3
    rw [this] at h3
    omega
  · rw [if_neg h]
    by_cases hx : has A i = true
    · simp only [has, List.any_eq_true, beq_iff_eq] at hx
      obtain ⟨t, ht, e⟩ := hx
      rw [← e, dueOf_hit ok.uniq ht]
      have hst : t ∈ stL A tk := by
        refine List.mem_filter.2 ⟨ht, ?_⟩
        rcases (by omega : tk < t.due ∨ t.due ≤ tk) with hd | hd
        · simpa using hd
        · exfalso
          apply h
          exact List.any_eq_true.2 ⟨t, hp.mem_iff.2 (List.mem_filter.2 ⟨ht, by simpa using hd⟩), by simpa using e⟩
      rw [dueOf_hit oks hst]
    · have hx' : has A i = false := by simpa using hx
      rw [dueOf_none (not_has hx'), dueOf_none (A := stL A tk) (fun u hu => not_has hx' u (List.mem_filter.1 hu).1)]
theorem sorted_due {F : List Tm} (hs : F.Pairwise fun x y => ¬ ltT y x) (i j : Nat) (hij : i < j) (hj : j < F.length) : F[i].due ≤ F[j].due := by
  have := List.pairwise_iff_getElem.1 hs i j (by omega) hj hij
  unfold ltT at this
  omega
theorem first_due {A F : List Tm} {tk n : Int} {b : Bool} (hp : F.Perm (A.filter fun t => decide (t.due ≤ tk))) (hs : F.Pairwise fun x y => ¬ ltT y x) (hN : NextP (fun t => t ∈ A) n b) (h0 : 0 < F.length) : b = true ∧ F[0].due = n := by
  have hm := come_mem hp (List.getElem_mem h0)
  rcases hN with ⟨_, _, h⟩ | ⟨h1, ⟨t, ht, e⟩, h3⟩
  · exact absurd hm.1 (h _)
  · refine ⟨h1, ?_⟩
    have h4 := h3 _ hm.1
    rcases (by omega : tk < t.due ∨ t.due ≤ tk) with hd | hd
    · have := hm.2; omega
    · obtain ⟨j, hj, rfl⟩ := List.getElem_of_mem (hp.mem_iff.2 (List.mem_filter.2 ⟨ht, by simpa using hd⟩))
      rcases Nat.eq_zero_or_pos j with rfl | hj0
      · exact e
      · have := sorted_due hs 0 j hj0 hj
        omega
/-- An array of ints is laid. -/
theorem boxD {w : World} {N : Nat} {f : Nat → Int} {t : TypeId} {motive : World → Prop} (h : ∀ X, Below w.heap.size w X → w.heap.size + 1 = X.heap.size → Blk X w.heap.size t (dcells N f) → motive X) : motive (w.alloc (.cells (dcells N f) t)) :=
  h _ ((Below.refl w.heap.size w).alloc (Nat.le_refl _) _) (by simp) (Blk.new w t _ _ rfl)
/-- What the law keeps between rounds. -/
structure OrdAt (w wr : World) (p d : Nat) (N : Nat) (t : TypeId) (V : Nat → Value) (now : Int) (A : List Tm) (ord : Int) : Prop where
  at_ : WAt wr w.heap.size p V now A ord
  due : Blk wr d t (dcells N fun i => dueOf A i)
  off : ¬ Ft p V d
  base : w.heap.size ≤ d
  ok : WOk now A ord
  ids : Ids N A
  below : Below w.heap.size w wr
theorem OrdAt.mono {w wr w2 : World} {p d N : Nat} {t : TypeId} {V : Nat → Value} {now : Int} {A : List Tm} {ord : Int} (h : OrdAt w wr p d N t V now A ord) (hb : Below wr.heap.size wr w2) : OrdAt w w2 p d N t V now A ord :=
  ⟨h.at_.mono hb, h.due.mono hb, h.off, h.base, h.ok, h.ids, below_step h.below h.below.size hb⟩
/-- Behind a call that changes the timers, and a store that tells it. -/
theorem OrdAt.step {w wr w2 : World} {p d N : Nat} {t : TypeId} {V : Nat → Value} {now : Int} {A A' : List Tm} {ord ord' : Int} (h : OrdAt w wr p d N t V now A ord) (he : WEnd wr w.heap.size p V now A' ord' w2) (ok' : WOk now A' ord') (ids' : Ids N A') (i : Nat) (x : Int)
    (hf : ∀ j, j < N → dueOf A' j = if j = i then x else dueOf A j) : Blk w2 d t (dcells N fun i => dueOf A i) ∧ ∃ V', OrdAt w (w2.setCell ⟨d, i, none⟩ (.int .i64 x)) p d N t V' now A' ord' := by
  obtain ⟨V', h2, ht, hft⟩ := he
  have hd := h.due.touch ht h.off
  have hoff : ¬ Ft p V' d := fun hk => by
    rcases hft d hk with hk | hk
    · exact h.off hk
    · have := h.due.lt; omega
  refine ⟨hd, V', h2.touch (Touch.set (S := fun k => k = d) w2 (p := ⟨d, i, none⟩) rfl _) (fun k hk e => hoff (e ▸ hk)), ?_, hoff, h.base, ok', ids', (h.below.trans (h.at_.keep ht)).setCell (p := ⟨d, i, none⟩) h.base _⟩
  have e : (dcells N fun j => dueOf A' j) = (dcells N fun i => dueOf A i).setIfInBounds i (.int .i64 x) := by
    rw [dcells_set]
    exact dcells_congr N hf
  show Blk _ d t (dcells N fun i => dueOf A' i)
  rw [e]
  exact hd.set i _
theorem OrdAt.same {w wr w2 : World} {p d N : Nat} {t : TypeId} {V : Nat → Value} {now : Int} {A : List Tm} {ord : Int} (h : OrdAt w wr p d N t V now A ord) (he : WEnd wr w.heap.size p V now A ord w2) : ∃ V', OrdAt w w2 p d N t V' now A ord := by
  obtain ⟨V', h2, ht, hft⟩ := he
  refine ⟨V', h2, h.due.touch ht h.off, fun hk => ?_, h.base, h.ok, h.ids, h.below.trans (h.at_.keep ht)⟩
  rcases hft d hk with hk | hk
  · exact h.off hk
  · have := h.due.lt; omega
set_option maxRecDepth 100000 in
set_option maxHeartbeats 20000000 in
theorem law_ord (now far : Int) (v : Value) (l : List Ocl) (w : World) (hr : RdC w v l) (hl : l.length ≤ 140737488351232) :
    Calls Try.prog 6 #[.int .i64 now, v, .int .i64 far] w fun e w' => e = .returned (.bool true) ∧ Below w.heap.size w w' := by
  obtain ⟨Al, cl, rfl, _, _⟩ := hr.form
  obtain ⟨n, hn⟩ : ∃ n, n = l.length := ⟨_, rfl⟩
  rw [← hn] at hr hl ⊢
  have HN := Lib.hid hn
  clear hn
  by_cases hg : now < 0 ∨ 549755813888 < now ∨ far < 0 ∨ 500 < far
  · have hend : ∀ w1, Below w.heap.size w w1 → Below w.heap.size w w1 := fun _ h => h
    by_cases g1 : now < 0
    · have q1 : decide (now < 0) = true := by simpa using g1
      clear hg g1
      go_enter Try.func6, Try.ntmps6
      go_wp2_with fail
      refine (wawake w).mono ?_
      rintro e w1 ⟨rfl, hb1⟩
      go_wp2
      go_ret
      exact ⟨rfl, hb1⟩
    have q1 : decide (now < 0) = false := by simpa using g1
    by_cases g2 : 549755813888 < now
    · have q2 : decide (549755813888 < now) = true := by simpa using g2
      clear hg g1 g2
      go_enter Try.func6, Try.ntmps6
      go_wp2_with fail
      refine (wawake w).mono ?_
      rintro e w1 ⟨rfl, hb1⟩
      go_wp2
      go_ret
      exact ⟨rfl, hb1⟩
    have q2 : decide (549755813888 < now) = false := by simpa using g2
    by_cases g3 : far < 0
    · have q3 : decide (far < 0) = true := by simpa using g3
      clear hg g1 g2 g3
      go_enter Try.func6, Try.ntmps6
      go_wp2_with fail
      refine (wawake w).mono ?_
      rintro e w1 ⟨rfl, hb1⟩
      go_wp2
      go_ret
      exact ⟨rfl, hb1⟩
    have q3 : decide (far < 0) = false := by simpa using g3
    have q4 : decide (500 < far) = true := by simp; omega
    clear hg g1 g2 g3
    go_enter Try.func6, Try.ntmps6
    go_wp2_with fail
    refine (wawake w).mono ?_
    rintro e w1 ⟨rfl, hb1⟩
    go_wp2
    go_ret
    exact ⟨rfl, hb1⟩
  have g1 : 0 ≤ now := by omega
  have g2 : now ≤ 549755813888 := by omega
  have g3 : 0 ≤ far := by omega
  have g4 : far ≤ 500 := by omega
  have q1 : decide (now < 0) = false := by simpa using g1
  have q2 : decide (549755813888 < now) = false := by simpa using g2
  have q3 : decide (far < 0) = false := by simpa using g3
  have q4 : decide (500 < far) = false := by simpa using g4
  clear hg
  go_enter Try.func6, Try.ntmps6
  go_wp2_with fail
  refine (wawake w).mono ?_
  rintro e w1 ⟨rfl, hb1⟩
  go_wp2_with fail
  refine (tnew now (by unfold tickB; simp; omega) w1 w.heap.size hb1.size).mono ?_
  rintro e w2 ⟨rfl, h2, hb2⟩
  obtain ⟨p, hp⟩ : ∃ p, p = w1.heap.size := ⟨_, rfl⟩
  rw [← hp] at h2 ⊢
  have hB2 := below_step hb1 hb1.size hb2
  have ok2 : WOk now [] 0 := .new g1
  clear hb1 hb2 hp
  go_upto_region 8 with (fail)
  show Code.wp _ _ _ _ (w2.alloc (.cells (dcells 64 fun _ => 0) 53))
  refine boxD (motive := fun X => Code.wp Try.prog _ _ _ X) ?_
  intro X hBX hX hbx
  obtain ⟨d, hd⟩ : ∃ d, d = w2.heap.size := ⟨_, rfl⟩
  rw [← hd] at hbx ⊢
  have hO : OrdAt w X p d 64 53 (fun _ => noS) now [] 0 :=
    ⟨h2.mono hBX, hbx, (fun hk => by have := (h2.lt hk).2; omega), by have := hB2.size; omega, ok2, fun t ht => by simp at ht, below_step hB2 hB2.size hBX⟩
  clear h2 hBX hX hbx hd ok2 hB2
  go_wp2
  go_loopw [11, 12, 13, 14, 15, 16] (fun i _ _ _ _ _ wr => ∃ (k : Nat) (A : List Tm) (ord : Int) (V : Nat → Value), i = .int .i64 k ∧ k ≤ n ∧ OrdAt w wr p d 64 53 V now A ord ∧ ord ≤ k) (fun i _ _ _ _ _ _ => n - (intOf i).toNat)
  case atStart => exact ⟨0, [], 0, _, rfl, Nat.zero_le _, hO, by omega⟩
  case round =>
    obtain ⟨k, A, ord, V, rfl, hk, h, hord⟩ := hrel
    clear hO
    by_cases hkl : k < n
    · have hki : k < l.length := by rw [← HN.out]; exact hkl
      obtain ⟨b0, o0, rfl, hb0, hc⟩ := (hr.mono h.below).at_ o_len (by omega)
      obtain ⟨o, ho⟩ : ∃ o, o = l[k] := ⟨_, rfl⟩
      have c0 := hc k hki 0 (.int .i64 o.kind) (by subst ho; rfl)
      have c1 := hc k hki 1 (.int .i64 o.id) (by subst ho; rfl)
      have c2 := hc k hki 2 (.int .i64 o.tk) (by subst ho; rfl)
      rw [Nat.add_zero] at c0
      obtain ⟨r, hr64, er, er1, er2⟩ := tmod_pos o.id 64 (by decide)
      obtain ⟨s, hs400, es, es1, es2⟩ := tmod_pos o.tk 400 (by decide)
      obtain ⟨m1, hm1⟩ : ∃ m1, o.id.tmod 64 = m1 := ⟨_, rfl⟩
      obtain ⟨m2, hm2⟩ : ∃ m2, o.tk.tmod 400 = m2 := ⟨_, rfl⟩
      obtain ⟨m3, hm3⟩ : ∃ m3, o.kind.tmod 3 = m3 := ⟨_, rfl⟩
      have er' : (m1 + 64).tmod 64 = (r : Int) := by rw [← hm1]; exact er
      have es' : (m2 + 400).tmod 400 = (s : Int) := by rw [← hm2]; exact es
      have b1 : -64 < m1 ∧ m1 < 64 := by rw [← hm1]; exact ⟨er1, er2⟩
      have b2 : -400 < m2 ∧ m2 < 400 := by rw [← hm2]; exact ⟨es1, es2⟩
      obtain ⟨b11, b12⟩ := b1
      obtain ⟨b21, b22⟩ := b2
      have q0 : decide ((k : Int) < n) = true := by simpa using hkl
      have hr' : (r : Int) < 64 := by omega
      have hs' : (s : Int) < 400 := by omega
      have hok := h.ok
      clear hc ho er es er1 er2 es1 es2
      by_cases hz : m3 = 1
      · subst hz
        go_wp2_with fail
        refine (tcancel h.at_ hok.uniq hok.len r).mono ?_
        rintro e w3 ⟨rfl, he⟩
        obtain ⟨hd3, V3, h3⟩ := h.step he (hok.rid r) (h.ids.rid r) r 0 (fun j _ => by
          rw [dueOf_rid]
          by_cases e : j = r
          · rw [if_pos e, if_pos (by omega)]
          · rw [if_neg e, if_neg (by omega)])
        have cd : w3.cell? ⟨d, r, none⟩ = some (.int .i64 (dueOf A r)) := by rw [hd3.cell, dcells_at _ _ _ hr64]
        have fd := hd3.free r
        clear h he c0 c1 c2 hd3
        generalize (if has A ↑r = true then (0 : Int) else 7) = cz
        go_wp2
        go_roundw
        case rel => exact ⟨k + 1, rid A r, ord, V3, by go_num, by omega, h3, by omega⟩
        case measure => simp [intOf]; omega
      · have q5 : (m3 == 1) = false := by simpa using hz
        have hkp := h
        go_wp2_with fail
        refine (tarm h.at_ hok.uniq hok.len hok.now0 hok.ord0 (by omega) r (now + s)).mono ?_
        rintro e w3 ⟨rfl, he⟩
        clear c0 c1 c2
        by_cases hs0 : s = 0
        · subst hs0
          have hE : armE now A r (now + (0 : Nat)) = 1 := by unfold armE; rw [if_pos (by omega)]
          have hA : armL now A ord r (now + (0 : Nat)) = A := by unfold armL; rw [hE]; rfl
          have hOO : armO now A ord r (now + (0 : Nat)) = ord := by unfold armO; rw [hE]; rfl
          rw [hA, hOO] at he
          obtain ⟨V3, h3⟩ := h.same he
          rw [hE]
          clear hE hA hOO he hkp h
          go_wp2_with fail
          refine (tdue h3.at_ hok.uniq r).mono ?_
          rintro e w4 ⟨rfl, hb4⟩
          have h4 := h3.mono hb4
          have cd : w4.cell? ⟨d, r, none⟩ = some (.int .i64 (dueOf A r)) := by rw [h4.due.cell, dcells_at _ _ _ hr64]
          have hx := has_dec hok r
          have HO := Lib.hid hord
          clear h3 hb4 hord
          generalize dueOf A r = du at cd hx ⊢
          generalize has A r = x at hx ⊢
          go_wp2
          go_roundw
          case rel => exact ⟨k + 1, A, ord, V3, by go_num, by omega, h4, by have := HO.out; omega⟩
          case measure => simp [intOf]; omega
        · have hE : armE now A r (now + (s : Int)) = 0 := by
            unfold armE
            rw [if_neg (by omega), if_neg]
            rintro ⟨hx, h64⟩
            have := room_of hok.uniq (N := 64) (id := r) (by omega) hr' h.ids hx
            omega
          have hqa : decide (now < now + (s : Int)) = true := by simp; omega
          obtain ⟨A', hA'⟩ : ∃ A', A' = armL now A ord r (now + (s : Int)) := ⟨_, rfl⟩
          obtain ⟨O', hO'⟩ : ∃ O', O' = armO now A ord r (now + (s : Int)) := ⟨_, rfl⟩
          have hdu := fun i => dueOf_arm (ord := ord) hE i
          have hok' := hok.arm r (now + (s : Int))
          have hids' : Ids 64 A' := by rw [hA']; exact h.ids.arm (by omega) hr'
          have hOle : O' ≤ ((k + 1 : Nat) : Int) := by have := armO_le now A ord r (now + (s : Int)); omega
          rw [← hA', ← hO'] at he hok'
          rw [← hA'] at hdu
          obtain ⟨hd3, V3, h3⟩ := h.step he hok' hids' r (now + (s : Int)) (fun j _ => by
            rw [hdu]
            by_cases e : j = r
            · rw [if_pos e, if_pos (by omega)]
            · rw [if_neg e, if_neg (by omega)])
          have cd : w3.cell? ⟨d, r, none⟩ = some (.int .i64 (dueOf A r)) := by rw [hd3.cell, dcells_at _ _ _ hr64]
          have fd := hd3.free r
          rw [hE]
          clear hE hA' hO' hdu he hkp h hd3
          go_wp2_with fail
          generalize w3.setCell ⟨d, r, none⟩ (.int .i64 (now + (s : Int))) = w5 at *
          refine (tdue h3.at_ hok'.uniq r).mono ?_
          rintro e w4 ⟨rfl, hb4⟩
          have h4 := h3.mono hb4
          clear cd fd
          have cd : w4.cell? ⟨d, r, none⟩ = some (.int .i64 (dueOf A' r)) := by rw [h4.due.cell, dcells_at _ _ _ hr64]
          have hx := has_dec hok' r
          have HO := Lib.hid hOle
          clear h3 hb4 hord hOle
          generalize dueOf A' r = du at cd hx ⊢
          generalize has A' r = x at hx ⊢
          go_wp2
          go_roundw
          case rel => exact ⟨k + 1, A', O', V3, by go_num, by omega, h4, HO.out⟩
          case measure => simp [intOf]; omega
    · have q0 : decide ((k : Int) < n) = false := by simp; omega
      have hok := h.ok
      have ho62 : ord ≤ 4611686018427387904 := by omega
      have hft : InI (now + far) := by unfold InI; omega
      go_wp2_with fail
      refine (tnext h.at_).mono ?_
      rintro e w3 ⟨⟨nn, bb, rfl, hN⟩, hb3⟩
      have h3 := h.mono hb3
      clear h hb3 hr
      go_wp2_with fail
      refine (tadv h3.at_ hok.len (hok.sm ho62) (now + far) (by omega) (by omega)).mono ?_
      rintro e w4 ⟨v, F, V4, rfl, hp, hs, ho4, hoff4, h4, ht4, hft4⟩
      have hd4 := h3.due.touch ht4 h3.off
      have hB4 := h3.below.trans (h3.at_.keep ht4)
      have hdlt := h3.due.lt
      have hdoff : ¬ Ft p V4 d := fun hk => by
        rcases hft4 d hk with hk | hk
        · exact h3.off hk
        · omega
      have hvd : ∀ g, v.ownBlock = some g → g ≠ d := fun g hg e => by have := (ho4.lt hg).1; omega
      have hbase := h3.base
      have hids := h3.ids
      have ok4 := hok.adv (tk := now + far) (by omega)
      have hrd := ho4.rd
      obtain ⟨Av, cv, rfl, _, _⟩ := ho4.form
      have hml : (F.map ctl).length = F.length := List.length_map _
      have hF64 : F.length ≤ 64 := by
        have h1 := hok.len
        have h2 : (A.filter fun t => decide (t.due ≤ now + far)).length ≤ A.length := List.length_filter_le _ _
        rw [hp.length_eq]
        omega
      rw [hml] at hrd hvd hoff4 ⊢
      obtain ⟨m, hm⟩ : ∃ m, m = F.length := ⟨_, rfl⟩
      rw [← hm] at hrd hvd hoff4 hF64 ⊢
      have HM := Lib.hid hm
      clear hm
      have HP := Lib.hid hp
      have HS := Lib.hid hs
      have HK := Lib.hid hN
      clear ht4 hft4 h3 ho4 hml hp hs hN ho62 hord
      go_upto_region 26 with (fail)
      go_cut [156] from 138 to 156 (fun c wx => c = .bool false ∧ wx = w4)
      case first =>
        by_cases h0 : m = 0
        · have q6 : decide ((0 : Int) < m) = false := by simp; omega
          go_wp2
          go_meet
          exact ⟨rfl, rfl⟩
        · obtain ⟨hb1, hf1⟩ := first_due HP.out HS.out HK.out (by rw [← HM.out]; omega)
          subst hb1
          have q6 : decide ((0 : Int) < m) = true := by simp; omega
          obtain ⟨b1, o1, rfl, _, hc⟩ := hrd.at_ f_len (by rw [List.length_map, ← HM.out]; omega)
          have c0 := hc 0 (by rw [List.length_map, ← HM.out]; omega) 1 (.int .i64 nn) (by rw [← hf1]; simp [ctl])
          rw [Nat.zero_mul, Nat.add_zero] at c0
          have q7 : (0 : Nat) < m := by omega
          clear hc hf1
          go_wp2
          go_meet
          exact ⟨rfl, rfl⟩
      case rest =>
        obtain ⟨rfl, rfl⟩ := hcut
        obtain ⟨w5, rfl⟩ : ∃ x, x = wc := ⟨_, rfl⟩
        have hst : Blk w5 d 53 (dcells 64 (struck A F 0)) := by
          rw [dcells_congr 64 (fun i _ => struck_zero A F i)]
          exact hd4
        clear hd4 HK
        go_wp2
        go_loopw [21] (fun i wr => ∃ k : Nat, i = .int .i64 k ∧ k ≤ m ∧ Blk wr d 53 (dcells 64 (struck A F k)) ∧ Touch (fun x => x = d) w5 wr) (fun i _ => m - (intOf i).toNat)
        case atStart => exact ⟨0, rfl, Nat.zero_le _, hst, Touch.refl _ _⟩
        case round =>
          obtain ⟨k2, rfl, hk2, hdu, hT⟩ := hrel
          clear hst
          by_cases hk2m : k2 < m
          · have hki2 : k2 < F.length := by rw [← HM.out]; exact hk2m
            have hmem := come_mem HP.out (List.getElem_mem hki2)
            obtain ⟨hi0, hi1⟩ := hids _ hmem.1
            obtain ⟨r, hr⟩ := Int.eq_ofNat_of_zero_le hi0
            have hr64 : r < 64 := by omega
            have hsk := struck_at hok HP.out k2 hki2 r hr
            have hsu := fun j => struck_succ A F k2 hki2 r hr j
            obtain ⟨b1, o1, rfl, _, hc⟩ := (hrd.touch hT (fun g hg e => hvd g hg e)).at_ f_len (by rw [List.length_map, ← HM.out]; omega)
            obtain ⟨td, htd⟩ : ∃ td, td = F[k2].due := ⟨_, rfl⟩
            have c0 := hc k2 (by rw [List.length_map]; exact hki2) 0 (.int .i64 r) (by simp [ctl, hr])
            have c1 := hc k2 (by rw [List.length_map]; exact hki2) 1 (.int .i64 td) (by simp [ctl, htd])
            rw [Nat.add_zero] at c0
            have cd : wr.cell? ⟨d, r, none⟩ = some (.int .i64 td) := by rw [hdu.cell, dcells_at _ _ _ hr64, hsk, htd]
            have fd := hdu.free r
            have p1 : decide ((r : Int) < 0) = false := by simp
            have p2 : decide (63 < (r : Int)) = false := by simp; omega
            have p3 : decide (now + far < td) = false := by rw [htd]; simp; exact hmem.2
            have p4 : decide ((k2 : Int) < m) = true := by simpa using hk2m
            have p5 : (r : Int) < 64 := by omega
            have hdu2 : ∀ q, Blk ((wr.drewN q).setCell ⟨d, r, none⟩ (.int .i64 0)) d 53 (dcells 64 (struck A F (k2 + 1))) := fun q => by
              rw [dcells_congr 64 (fun j _ => hsu j), ← dcells_set]
              exact (show Blk (wr.drewN q) d 53 (dcells 64 (struck A F k2)) from hdu).set r _
            have hT2 : ∀ q, Touch (fun x => x = d) w5 ((wr.drewN q).setCell ⟨d, r, none⟩ (.int .i64 0)) := fun q =>
              (show Touch (fun x => x = d) w5 (wr.drewN q) from ⟨hT.os, hT.tape, hT.output, hT.size, hT.block⟩).trans (Touch.set (S := fun x => x = d) (wr.drewN q) (p := ⟨d, r, none⟩) rfl _)
            by_cases hz : k2 = 0
            · subst hz
              simp only [Nat.zero_mul, Nat.add_zero, Int.cast_ofNat_Int] at c0 c1 p4
              clear hc hmem hi0 hi1 hr hsk hsu htd hdu hT hok ok4 hids
              go_upto_region 31 with (fail)
              go_quiet (fail)
              go_wp2
              go_roundw
              case rel => exact ⟨0 + 1, by go_num, by omega, hdu2 _, hT2 _⟩
              case measure => simp [intOf]; omega
            · obtain ⟨k3, rfl⟩ : ∃ k3, k2 = k3 + 1 := ⟨k2 - 1, by omega⟩
              have hlt3 : k3 < F.length := by omega
              obtain ⟨pd, hpd⟩ : ∃ pd, pd = F[k3].due := ⟨_, rfl⟩
              have c3 := hc k3 (by rw [List.length_map]; exact hlt3) 1 (.int .i64 pd) (by simp [ctl, hpd])
              have p6 : decide (td < pd) = false := by
                have := sorted_due HS.out k3 (k3 + 1) (by omega) hki2
                rw [htd, hpd]
                simp
                omega
              clear hc hmem hi0 hi1 hr hsk hsu htd hpd hdu hT hok ok4 hids
              go_upto_region 31 with (fail)
              go_quiet (fail)
              go_wp2
              go_roundw
              case rel => exact ⟨k3 + 1 + 1, by go_num, by omega, hdu2 _, hT2 _⟩
              case measure => simp [intOf]; omega
          · have q9 : decide ((k2 : Int) < m) = false := by simp; omega
            have hkm : k2 = F.length := by have := HM.out; omega
            rw [hkm, dcells_congr 64 (fun i _ => struck_all hok HP.out i)] at hdu
            have h4r := h4.touch hT (fun x hx e => hdoff (e ▸ hx))
            have hBr : Below w.heap.size w wr := hB4.trans (hT.below (fun x hx => by rw [hx]; exact hbase) hB4.size)
            have idsC : Ids 64 (stL A (now + far)) := fun t ht => hids t (List.mem_filter.1 ht).1
            have hgt : ∀ t ∈ stL A (now + far), now + far < t.due := fun t ht => by simpa using (List.mem_filter.1 ht).2
            obtain ⟨C, hC⟩ : ∃ C, C = stL A (now + far) := ⟨_, rfl⟩
            rw [← hC] at hdu h4r ok4 idsC hgt
            clear hkm hC hT h4 hB4 hok hids hrd
            go_wp2
            go_loopw [22, 23] (fun c i wx => ∃ j : Nat, c = .int .i64 ((C.filter fun t => decide (t.id < (j : Int))).length) ∧ i = .int .i64 j ∧ j ≤ 64 ∧ wx = wr) (fun _ i _ => 64 - (intOf i).toNat)
            case atStart => exact ⟨0, by rw [List.filter_eq_nil_iff.2 (fun t ht => by have := (idsC t ht).1; simp; omega)]; rfl, rfl, by omega, rfl⟩
            case round =>
              obtain ⟨j, rfl, rfl, hj, rfl⟩ := hrel
              by_cases hj64 : j < 64
              · have cd : wr.cell? ⟨d, j, none⟩ = some (.int .i64 (dueOf C j)) := by rw [hdu.cell, dcells_at _ _ _ hj64]
                have hx := has_dec ok4 j
                have hcnt := count_succ ok4.uniq j
                have hj64' : (j : Int) < 64 := by omega
                obtain ⟨c1, hc1⟩ : ∃ c1 : Nat, c1 = (C.filter fun t => decide (t.id < (j : Int))).length := ⟨_, rfl⟩
                have hc64 : c1 ≤ 64 := by rw [hc1]; exact Nat.le_trans (List.length_filter_le _ _) ok4.len
                rw [← hc1] at hcnt ⊢
                have hcast : ((C.filter fun t => decide (t.id < ((j + 1 : Nat) : Int))).length : Int) = (C.filter fun t => decide (t.id < (j : Int) + 1)).length := by simp
                rw [← hcast] at hcnt
                have HCN := Lib.hid hcnt
                obtain ⟨du, hdu2⟩ : ∃ du, du = dueOf C j := ⟨_, rfl⟩
                cases hh : has C j with
                | true =>
                  rw [hh] at hx
                  have hle : decide (dueOf C j ≤ now + far) = false := by
                    simp only [has, List.any_eq_true, beq_iff_eq] at hh
                    obtain ⟨t, ht, e⟩ := hh
                    rw [← e, dueOf_hit ok4.uniq ht]
                    have := hgt t ht
                    simp
                    omega
                  rw [← hdu2] at cd hx hle
                  have e1 : ((C.filter fun t => decide (t.id < ((j + 1 : Nat) : Int))).length : Int) = (c1 : Int) + 1 := by rw [HCN.out, hh]; rfl
                  have HE := Lib.hid e1
                  clear hcnt hcast hh hdu2 e1 hc1
                  go_wp2
                  go_roundw
                  case rel => exact ⟨j + 1, by rw [HE.out], by go_num, by omega, trivial⟩
                  case measure => simp [intOf]; omega
                | false =>
                  rw [hh] at hx
                  rw [← hdu2] at cd hx
                  have e1 : ((C.filter fun t => decide (t.id < ((j + 1 : Nat) : Int))).length : Int) = (c1 : Int) := by rw [HCN.out, hh]; simp
                  have HE := Lib.hid e1
                  clear hcnt hcast hh hdu2 e1 hc1
                  go_wp2
                  go_roundw
                  case rel => exact ⟨j + 1, by rw [HE.out], by go_num, by omega, trivial⟩
                  case measure => simp [intOf]; omega
              · obtain rfl : j = 64 := by omega
                have hall : (C.filter fun t => decide (t.id < ((64 : Nat) : Int))) = C := List.filter_eq_self.2 fun t ht => by have := (idsC t ht).2; simpa using this
                rw [hall]
                go_wp2_with fail
                refine (tlen h4r).mono ?_
                rintro e w9 ⟨rfl, rfl⟩
                go_wp2
                go_ret
                exact ⟨rfl, hBr⟩
end Go.Proofs.Ytcnfcohfogbfhaa
