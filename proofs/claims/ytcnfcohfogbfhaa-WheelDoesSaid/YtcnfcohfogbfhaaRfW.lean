/- The reference's wheel: where it lies; New, Due, Next, without; when a call is. -/
import Derived.Test.YtcnfcohfogbfhaaWAwake
import Derived.Test.YtcnfcohfogbfhaaWOps
import Derived.BigQuiet
namespace Go.Proofs.Ytcnfcohfogbfhaa
open Go.RowKit Go.Shelf
/-- Where it lies: its block; its row, in a block of its own. -/
structure RfAt (w : World) (B q : Nat) (rv : Value) (now : Int) (L : List (Int × Int)) : Prop where
  blk : Blk w q 49 #[.int .i64 now, rv]
  base : B ≤ q
  own : OwF w B rv L
  off : rv.ownBlock ≠ some q
/-- What is its. -/
def Rf (q : Nat) (rv : Value) (k : Nat) : Prop := k = q ∨ rv.ownBlock = some k
section
variable {w w' : World} {B q : Nat} {rv : Value} {now : Int} {L : List (Int × Int)}
theorem RfAt.lt (h : RfAt w B q rv now L) {k : Nat} (hk : Rf q rv k) : B ≤ k ∧ k < w.heap.size := by
  rcases hk with rfl | hg
  · exact ⟨h.base, h.blk.lt⟩
  · exact h.own.lt hg
theorem RfAt.touch (h : RfAt w B q rv now L) {S : Nat → Prop} (ht : Touch S w w') (hS : ∀ k, Rf q rv k → ¬ S k) : RfAt w' B q rv now L :=
  ⟨h.blk.touch ht (hS q (.inl rfl)), h.base, h.own.touch ht (fun g hg => hS g (.inr hg)), h.off⟩
theorem RfAt.mono (h : RfAt w B q rv now L) (hb : Below w.heap.size w w') : RfAt w' B q rv now L := h.touch (Touch.of_below (S := fun _ => False) hb) fun _ _ => id
theorem RfAt.c0 (h : RfAt w B q rv now L) : w.cell? ⟨q, 0, none⟩ = some (.int .i64 now) := by rw [h.blk.cell]; rfl
theorem RfAt.c1 (h : RfAt w B q rv now L) : w.cell? ⟨q, 1, none⟩ = some rv := by rw [h.blk.cell]; rfl
theorem RfAt.keep (h : RfAt w B q rv now L) (ht : Touch (Rf q rv) w w') : Below B w w' :=
  ht.below (fun _ hk => (h.lt hk).1) (Nat.le_trans h.base (Nat.le_of_lt h.blk.lt))
end
/-- How a call leaves it. -/
def RfEnd (w : World) (B q : Nat) (rv : Value) (now : Int) (L : List (Int × Int)) (w' : World) : Prop :=
  ∃ rv', RfAt w' B q rv' now L ∧ Touch (Rf q rv) w w' ∧ ∀ k, Rf q rv' k → Rf q rv k ∨ w.heap.size ≤ k
theorem RfEnd.below {w w' : World} {B q : Nat} {rv : Value} {now : Int} {L : List (Int × Int)} (h : RfAt w B q rv now L) (hb : Below w.heap.size w w') : RfEnd w B q rv now L w' := ⟨rv, h.mono hb, Touch.of_below hb, fun _ hk => .inl hk⟩
/-- A row that was made just now is put there. -/
theorem RfAt.put {w w1 : World} {B q : Nat} {rv : Value} {now : Int} {L L' : List (Int × Int)} {v : Value} (h : RfAt w B q rv now L) (hb : Below w.heap.size w w1) (ho : OwF w1 w.heap.size v L') : RfEnd w B q rv now L' (w1.setCell ⟨q, 1, none⟩ v) := by
  have hq := h.blk.lt
  have ht : Touch (fun k => k = q) w1 (w1.setCell ⟨q, 1, none⟩ v) := Touch.set (S := fun k => k = q) w1 (p := ⟨q, 1, none⟩) rfl _
  refine ⟨v, ⟨?_, h.base, ?_, fun hg => ?_⟩, (Touch.of_below hb).trans (ht.mono fun k hk => .inl hk), fun k hk => ?_⟩
  · exact (h.blk.mono hb).set 1 v
  · exact (ho.touch ht (fun g hg e => by have := (ho.lt hg).1; omega)).less (Nat.le_trans h.base (Nat.le_of_lt hq))
  · have := (ho.lt hg).1; omega
  · rcases hk with rfl | hk
    · exact .inl (.inl rfl)
    · exact .inr (ho.lt hk).1
theorem rfnew_no (n : Int) (h : tickB n = false) (w : World) : Calls Try.prog 14 #[.int .i64 n] w fun e w' => e = .returned (.tuple #[.pointer none, .int .i64 1]) ∧ w = w' := by
  by_cases h1 : n < 0
  · have q1 : decide (n < 0) = true := by simpa using h1
    clear h h1
    go_enter Try.func14, Try.ntmps14
    go_wp2
    go_ret2
    exact ⟨rfl, rfl⟩
  · have q1 : decide (n < 0) = false := by simpa using h1
    have q2 : decide (1099511627776 < n) = true := by simp [tickB] at h; simp; omega
    clear h h1
    go_enter Try.func14, Try.ntmps14
    go_wp2
    go_ret2
    exact ⟨rfl, rfl⟩
theorem rfnew (n : Int) (h : tickB n = true) (w : World) (B : Nat) (hB : B ≤ w.heap.size) : Calls Try.prog 14 #[.int .i64 n] w fun e w' =>
    e = .returned (.tuple #[.pointer (some ⟨w.heap.size, 0, none⟩), .int .i64 0]) ∧ RfAt w' B w.heap.size noS n [] ∧ Below w.heap.size w w' := by
  have q1 : decide (n < 0) = false := by simp [tickB] at h; simp; omega
  have q2 : decide (1099511627776 < n) = false := by simp [tickB] at h; simp; omega
  clear h
  go_enter Try.func14, Try.ntmps14
  go_wp2
  go_ret2
  exact ⟨rfl, ⟨Blk.new w 49 #[.int .i64 n, noS] _ rfl, hB, OwE.nil _ _, fun h => by cases h⟩, below_alloc _ _⟩
/-- The tick of a call. -/
def whenI (now : Int) (o : Ocl) : Int := if o.near then now + o.tk.tmod 100 else o.tk
theorem kwhen (now : Int) (o : Ocl) (h0 : 0 ≤ now) (h1 : now ≤ 1099511627776) (w : World) : Calls Try.prog 15 #[.int .i64 now, .agg #[.int .i64 o.kind, .int .i64 o.id, .int .i64 o.tk, .bool o.near]] w fun e w' =>
    e = .returned (.int .i64 (whenI now o)) ∧ Below w.heap.size w w' := by
  obtain ⟨kd, id, tk, nr⟩ := o
  have hb := below_alloc w (.cells #[.int .i64 kd, .int .i64 id, .int .i64 tk, .bool nr] 30)
  cases nr with
  | false =>
    go_enter Try.func15, Try.ntmps15
    go_wp2
    go_ret
    exact ⟨rfl, hb⟩
  | true =>
    have e1 : tk.tmod 100 < 100 := Int.tmod_lt_of_pos tk (by omega)
    have e2 := Int.tmod_lt_of_pos (-tk) (b := 100) (by omega)
    rw [Int.neg_tmod] at e2
    have hw : whenI now ⟨kd, id, tk, true⟩ = now + tk.tmod 100 := rfl
    rw [hw]
    obtain ⟨m, hm⟩ : ∃ m, tk.tmod 100 = m := ⟨_, rfl⟩
    rw [hm] at e1 e2 ⊢
    clear hw
    go_enter Try.func15, Try.ntmps15
    go_wp2
    go_ret
    exact ⟨rfl, hb⟩
/-- The timers but one. -/
theorem has_take {A : List Tm} (k : Nat) (hk : k < A.length) (id : Int) : has (A.take (k + 1)) id = (has (A.take k) id || A[k].id == id) := by
  unfold has
  rw [take_one A k hk, List.any_append]
  simp
theorem rid_take {A : List Tm} (k : Nat) (hk : k < A.length) (id : Int) : rid (A.take (k + 1)) id = rid (A.take k) id ++ if A[k].id = id then [] else [A[k]] := by
  unfold rid
  rw [take_one A k hk, List.filter_append]
  congr 1
  by_cases h : A[k].id = id
  · rw [if_pos h]; simp [h]
  · rw [if_neg h]; simp [h]
set_option maxRecDepth 100000 in
set_option maxHeartbeats 4000000 in
theorem rfwithout {w : World} {B q : Nat} {rv : Value} {now : Int} {A : List Tm} (h : RfAt w B q rv now (A.map ctl)) (h64 : A.length ≤ 64) (id : Int) :
    Calls Try.prog 28 #[.pointer (some ⟨q, 0, none⟩), .int .i64 id] w fun e w' => (∃ v, e = .returned (.tuple #[v, .bool (has A id)]) ∧ OwF w' w.heap.size v ((rid A id).map ctl)) ∧ Below w.heap.size w w' := by
  obtain ⟨Ar, cr, rfl, _, _⟩ := h.own.form
  obtain ⟨n, hn⟩ : ∃ n, n = A.length := ⟨_, rfl⟩
  have hml : (A.map ctl).length = n := by rw [List.length_map, hn]
  rw [hml] at h
  rw [← hn] at h64
  have HN := Lib.hid hn
  have HM := Lib.hid hml
  clear hn hml
  go_enter Try.func28, Try.ntmps28
  go_wp2
  go_loopw [6, 7, 8] (fun l is i wr => ∃ k : Nat, i = .int .i64 k ∧ k ≤ n ∧ OwF wr w.heap.size l ((rid (A.take k) id).map ctl) ∧ is = .bool (has (A.take k) id) ∧ Below w.heap.size w wr) (fun _ _ i _ => n - (intOf i).toNat)
  case atStart => exact ⟨0, rfl, Nat.zero_le _, OwE.nil _ _, rfl, Below.refl _ _⟩
  case round =>
    obtain ⟨k, rfl, hk, ho, rfl, hb⟩ := hrel
    obtain ⟨wi, rfl⟩ : ∃ wi, wi = wr := ⟨_, rfl⟩
    have hi := h.mono hb
    have c1 := hi.c1
    by_cases hkl : k < n
    · have hkA : k < A.length := by rw [← HN.out]; exact hkl
      obtain ⟨b0, o0, rfl, _, hc⟩ := hi.own.rd.at_ f_len (by rw [HM.out]; omega)
      obtain ⟨t, ht⟩ : ∃ t, t = A[k] := ⟨_, rfl⟩
      have c2 := hc k (by rw [HM.out]; exact hkl) 0 (.int .i64 t.id) (by subst ht; simp [ctl])
      have c3 := hc k (by rw [HM.out]; exact hkl) 1 (.int .i64 t.due) (by subst ht; simp [ctl])
      rw [Nat.add_zero] at c2
      have eh := has_take k hkA id
      have er := rid_take k hkA id
      rw [← ht] at eh er
      have hkl' : (k : Int) < n := by omega
      have q3 : decide ((k : Int) < n) = true := by simpa using hkl'
      have EH := Lib.hid eh
      have ER := Lib.hid er
      clear hc ht eh er
      by_cases e : t.id = id
      · have q1 : (t.id == id) = true := by simpa using e
        have HE := Lib.hid e
        clear e
        go_wp2
        go_roundw
        case rel => exact ⟨k + 1, by go_num, by omega, by rw [ER.out, if_pos HE.out, List.append_nil]; exact ho, by rw [EH.out, q1, Bool.or_true], hb⟩
        case measure => simp [intOf]; omega
      · have q1 : (t.id == id) = false := by simpa using e
        have HE := Lib.hid e
        clear e
        obtain ⟨hx, hhx⟩ : ∃ hx, hx = has (A.take k) id := ⟨_, rfl⟩
        rw [← hhx]
        have HHX := Lib.hid hhx
        have hoX := ho.mono (below_alloc wi (.cells #[.int .i64 t.id, .int .i64 t.due] 37))
        have hbY := below_step hb hb.size (below_alloc wi (.cells #[.int .i64 t.id, .int .i64 t.due] 37))
        have hrd : RdF (wi.alloc (.cells #[.int .i64 t.id, .int .i64 t.due] 37)) (.slice (some ⟨wi.heap.size, 0, none⟩) 1 1) [(t.id, t.due)] := rdF_one (Blk.new wi 37 _ _ rfl)
        have hl1 : (((rid (A.take k) id).map ctl).length + 1) * 16 ≤ 140737488355328 := by
          have h1 : (rid (A.take k) id).length ≤ (A.take k).length := List.length_filter_le _ _
          rw [List.length_take] at h1
          rw [List.length_map]
          omega
        clear ho hhx
        go_wp2_with ((with_reducible refine at_slot 37 ?_); refine wpList_appF rfl (.tmp 28) (.tmp 36) rfl w.heap.size hoX hrd rfl rfl hl1 hbY.size ?_; intro v5 w5 ho5 hb5 hg5)
        have e5 : (rid (A.take k) id).map ctl ++ [(t.id, t.due)] = (rid (A.take (k + 1)) id).map ctl := by
          rw [ER.out, if_neg HE.out, List.map_append]
          rfl
        rw [e5] at ho5
        have hbZ := hbY.trans hb5
        clear hoX hrd hl1 hb5 hg5 hbY e5
        go_wp2
        go_roundw
        case rel => exact ⟨k + 1, by go_num, by omega, ho5, by rw [EH.out, q1, Bool.or_false, HHX.out], hbZ⟩
        case measure => simp [intOf]; omega
    · obtain rfl : k = n := by omega
      rw [HN.out, List.take_length] at ho ⊢
      obtain ⟨Al, cl, rfl, _, _⟩ := ho.form
      have hfin : (∃ v, Ending.returned (.tuple #[.slice Al ((rid A id).map ctl).length cl, .bool (has A id)]) = .returned (.tuple #[v, .bool (has A id)]) ∧ OwF wi w.heap.size v ((rid A id).map ctl)) ∧ Below w.heap.size w wi := ⟨⟨_, rfl, ho⟩, hb⟩
      clear ho hb
      generalize ((rid A id).map ctl).length = m4 at *
      rw [← HN.out]
      go_wp2
      go_ret2
      exact hfin
set_option maxRecDepth 100000 in
set_option maxHeartbeats 4000000 in
theorem rfdue {w : World} {B q : Nat} {rv : Value} {now : Int} {A : List Tm} (h : RfAt w B q rv now (A.map ctl)) (hu : Uniq A) (h64 : A.length ≤ 64) (id : Int) :
    Calls Try.prog 18 #[.pointer (some ⟨q, 0, none⟩), .int .i64 id] w fun e w' => e = .returned (.tuple #[.int .i64 (dueOf A id), .bool (has A id)]) ∧ w = w' := by
  obtain ⟨Ar, cr, rfl, _, _⟩ := h.own.form
  obtain ⟨n, hn⟩ : ∃ n, n = A.length := ⟨_, rfl⟩
  have hml : (A.map ctl).length = n := by rw [List.length_map, hn]
  rw [hml] at h
  rw [← hn] at h64
  obtain ⟨d, hd⟩ : ∃ d, d = dueOf A id := ⟨_, rfl⟩
  obtain ⟨x, hx⟩ : ∃ x, x = has A id := ⟨_, rfl⟩
  rw [← hd, ← hx]
  have HD := Lib.hid hd
  have HX := Lib.hid hx
  have HN := Lib.hid hn
  have HM := Lib.hid hml
  have c1 := h.c1
  clear hn hml hd hx
  go_enter Try.func18, Try.ntmps18
  go_wp2
  go_loopw [6] (fun i wr => ∃ k : Nat, i = .int .i64 k ∧ k ≤ n ∧ Hid (∀ j (hj : j < A.length), j < k → A[j].id ≠ id) ∧ wr = w) (fun i _ => n - (intOf i).toNat)
  case atStart => exact ⟨0, rfl, Nat.zero_le _, fun j _ hj => by omega, rfl⟩
  case round =>
    obtain ⟨k, rfl, hk, hno, rfl⟩ := hrel
    by_cases hkl : k < n
    · have hkA : k < A.length := by rw [← HN.out]; exact hkl
      obtain ⟨b0, o0, rfl, _, hc⟩ := h.own.rd.at_ f_len (by rw [HM.out]; omega)
      obtain ⟨t, ht⟩ : ∃ t, t = A[k] := ⟨_, rfl⟩
      have c2 := hc k (by rw [HM.out]; exact hkl) 0 (.int .i64 t.id) (by subst ht; simp [ctl])
      have c3 := hc k (by rw [HM.out]; exact hkl) 1 (.int .i64 t.due) (by subst ht; simp [ctl])
      rw [Nat.add_zero] at c2
      have hkl' : (k : Int) < n := by omega
      have q3 : decide ((k : Int) < n) = true := by simpa using hkl'
      have HT := Lib.hid ht
      clear hc ht
      by_cases e : t.id = id
      · have q1 : (t.id == id) = true := by simpa using e
        have hm : t ∈ A := by rw [HT.out]; exact List.getElem_mem hkA
        have ed := dueOf_hit hu hm
        rw [e, ← HD.out] at ed
        have ex : x = true := by
          rw [HX.out]
          simp only [has, List.any_eq_true, beq_iff_eq]
          exact ⟨t, hm, e⟩
        subst ex
        rw [← ed] at c3
        clear ed hm e hno
        go_wp2
        go_ret2
        exact ⟨rfl, rfl⟩
      · have q1 : (t.id == id) = false := by simpa using e
        have HE := Lib.hid e
        have hno' : Hid (∀ j (hj : j < A.length), j < k + 1 → A[j].id ≠ id) := fun j hj hjk => by
          by_cases hjk2 : j < k
          · exact hno.out j hj hjk2
          · obtain rfl : j = k := by omega
            rw [← HT.out]
            exact HE.out
        clear e hno
        go_wp2
        go_roundw
        case rel => exact ⟨k + 1, by go_num, by omega, hno', trivial⟩
        case measure => simp [intOf]; omega
    · obtain rfl : k = n := by omega
      have hall : ∀ t ∈ A, t.id ≠ id := fun t ht => by
        obtain ⟨j, hj, rfl⟩ := List.getElem_of_mem ht
        exact hno.out j hj (by rw [HN.out]; exact hj)
      obtain rfl : d = 0 := HD.out.trans (dueOf_none hall)
      obtain rfl : x = false := HX.out.trans (has_false hall)
      clear hall hno
      go_wp2
      go_ret2
      exact ⟨rfl, rfl⟩
set_option maxRecDepth 100000 in
set_option maxHeartbeats 4000000 in
theorem rfnext {w : World} {B q : Nat} {rv : Value} {now : Int} {A : List Tm} (h : RfAt w B q rv now (A.map ctl)) (h64 : A.length ≤ 64) :
    Calls Try.prog 22 #[.pointer (some ⟨q, 0, none⟩)] w fun e w' => (∃ n b, e = .returned (.tuple #[.int .i64 n, .bool b]) ∧ NextP (fun t => t ∈ A) n b) ∧ w = w' := by
  obtain ⟨Ar, cr, rfl, _, _⟩ := h.own.form
  obtain ⟨n, hn⟩ : ∃ n, n = A.length := ⟨_, rfl⟩
  have hml : (A.map ctl).length = n := by rw [List.length_map, hn]
  rw [hml] at h
  rw [← hn] at h64
  have HN := Lib.hid hn
  have HM := Lib.hid hml
  have c1 := h.c1
  clear hn hml
  by_cases h0 : n = 0
  · subst h0
    have hA : A = [] := List.eq_nil_of_length_eq_zero HN.out.symm
    have hfin : ∃ n b, Ending.returned (.tuple #[.int .i64 0, .bool false]) = .returned (.tuple #[.int .i64 n, .bool b]) ∧ NextP (fun t => t ∈ A) n b := ⟨0, false, rfl, .inl ⟨rfl, rfl, fun t ht => by rw [hA] at ht; simp at ht⟩⟩
    clear hA h
    go_enter Try.func22, Try.ntmps22
    go_wp2
    go_ret2
    exact ⟨hfin, rfl⟩
  have h0A : 0 < A.length := by rw [← HN.out]; omega
  obtain ⟨b0, o0, rfl, _, hc⟩ := h.own.rd.at_ f_len (by rw [HM.out]; omega)
  obtain ⟨t0, ht0⟩ : ∃ t, t = A[0] := ⟨_, rfl⟩
  have c3 := hc 0 (by rw [HM.out]; omega) 1 (.int .i64 t0.due) (by subst ht0; simp [ctl])
  rw [Nat.zero_mul, Nat.add_zero] at c3
  have hn0 : (0 : Int) < n := by omega
  have q0 : ((n : Int) == 0) = false := by simp; omega
  have HT0 := Lib.hid ht0
  have HC := Lib.hid hc
  clear ht0 hc h0
  go_enter Try.func22, Try.ntmps22
  go_wp2
  go_loopw [4, 5] (fun m i wr => ∃ (k : Nat) (mm : Int), m = .int .i64 mm ∧ i = .int .i64 k ∧ k ≤ n ∧ Hid (NextP (fun t => t = t0 ∨ ∃ j, j < k ∧ A[j]? = some t) mm true) ∧ wr = w) (fun _ i _ => n - (intOf i).toNat)
  case atStart => exact ⟨0, t0.due, rfl, rfl, Nat.zero_le _, .inr ⟨rfl, ⟨t0, .inl rfl, rfl⟩, by rintro t (rfl | ⟨j, hj, _⟩) <;> omega⟩, rfl⟩
  case round =>
    obtain ⟨k, mm, rfl, rfl, hk, hP, rfl⟩ := hrel
    clear c3
    by_cases hkl : k < n
    · have hkA : k < A.length := by rw [← HN.out]; exact hkl
      obtain ⟨t, ht⟩ : ∃ t, t = A[k] := ⟨_, rfl⟩
      have c3 := HC.out k (by rw [HM.out]; exact hkl) 1 (.int .i64 t.due) (by subst ht; simp [ctl])
      have hkl' : (k : Int) < n := by omega
      have q3 : decide ((k : Int) < n) = true := by simpa using hkl'
      have hnx : ∀ (n2 : Int), NextP (fun u => (u = t0 ∨ ∃ j, j < k ∧ A[j]? = some u) ∨ u = t) n2 true → Hid (NextP (fun u => u = t0 ∨ ∃ j, j < k + 1 ∧ A[j]? = some u) n2 true) := fun n2 h => h.congr fun u => by
        constructor
        · rintro ((h | ⟨j, hj, e⟩) | rfl)
          · exact .inl h
          · exact .inr ⟨j, by omega, e⟩
          · exact .inr ⟨k, by omega, by rw [List.getElem?_eq_getElem hkA, ht]⟩
        · rintro (h | ⟨j, hj, e⟩)
          · exact .inl (.inl h)
          · by_cases hjk : j = k
            · subst hjk
              rw [List.getElem?_eq_getElem hkA, ← ht] at e
              injection e with e
              exact .inr e.symm
            · exact .inl (.inr ⟨j, by omega, e⟩)
      have HNX := Lib.hid hnx
      clear ht hnx
      by_cases hd : t.due < mm
      · have q1 : decide (t.due < mm) = true := by simpa using hd
        have HR := Lib.hid (HNX.out _ (hP.out.take t (.inr hd)))
        clear hP HNX hd
        go_wp2
        go_roundw
        case rel => exact ⟨k + 1, t.due, rfl, by go_num, by omega, HR.out, trivial⟩
        case measure => simp [intOf]; omega
      · have q1 : decide (t.due < mm) = false := by simpa using hd
        have HR := Lib.hid (HNX.out _ (hP.out.keep t (by omega)))
        clear hP HNX hd
        go_wp2
        go_roundw
        case rel => exact ⟨k + 1, mm, rfl, by go_num, by omega, HR.out, trivial⟩
        case measure => simp [intOf]; omega
    · obtain rfl : k = n := by omega
      have hP' : NextP (fun t => t ∈ A) mm true := hP.out.congr fun t => by
        constructor
        · rintro (rfl | ⟨j, _, h2⟩)
          · rw [HT0.out]; exact List.getElem_mem h0A
          · exact List.mem_of_getElem? h2
        · intro h1
          obtain ⟨j, hj, e⟩ := List.getElem_of_mem h1
          exact .inr ⟨j, by rw [HN.out]; exact hj, by rw [List.getElem?_eq_getElem hj, e]⟩
      have HP' := Lib.hid hP'
      clear hP hP'
      go_wp2
      go_ret2
      exact ⟨⟨mm, true, rfl, HP'.out⟩, rfl⟩
end Go.Proofs.Ytcnfcohfogbfhaa
