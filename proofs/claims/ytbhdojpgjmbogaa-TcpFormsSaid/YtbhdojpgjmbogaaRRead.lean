/- The reference's read: the options of a segment, one by one. -/
import Derived.Test.YtbhdojpgjmbogaaTRead
import Derived.Test.YtbhdojpgjmbogaaTDec
import Derived.Test.YtbhdojpgjmbogaaROpt
namespace Go.Proofs.Ytbhdojpgjmbogaa
open Go.RowKit Go.Shelf
/-- What holds between two options. -/
def RRel (w Wd : World) (sp : Nat) (s : SG) (syn : Bool) (b : List UInt8) (v : Value) (wx : World) : Prop :=
  ∃ l st g, Rd Wd v l ∧ l.length ≤ b.length ∧ rdAll syn ⟨s.ms, s.sk, []⟩ (optsOf b) = rdAll syn st (optsOf l) ∧ Blk wx sp 67 (s.opt st g).cells ∧ OwS wx w.heap.size g st.got ∧ Touch (fun k => k = sp) w wx
theorem take_drop_take (l : List UInt8) (n i j : Nat) (h : i + j ≤ n) : ((l.take n).drop i).take j = (l.drop i).take j := by
  rw [List.drop_take, List.take_take, Nat.min_eq_left (by omega)]
set_option maxRecDepth 100000 in
set_option maxHeartbeats 20000000 in
theorem rread (sp : Nat) (s : SG) (v : Value) (b : List UInt8) (syn : Bool) (hf0 : 0 ≤ s.fl) (hf1 : s.fl ≤ 31) (hsyn : s.fl / 2 % 2 = if syn then 1 else 0) (Wd w : World) (hsp : Wd.heap.size ≤ sp) (hs : Blk w sp 67 s.cells) (hv : Rd Wd v b)
    (hWd : Wd.heap.size ≤ w.heap.size) (hold : ∀ k, k < Wd.heap.size → w.heap[k]? = Wd.heap[k]?) (hgt : s.gt = noS) (hbl : b.length ≤ 40) :
    Calls Try.prog 73 #[.pointer (some ⟨sp, 0, none⟩), v] w fun e w' => e = .returned (.bool (rdAll syn ⟨s.ms, s.sk, []⟩ (optsOf b)).1) ∧ Touch (fun k => k = sp) w w' ∧
      ((rdAll syn ⟨s.ms, s.sk, []⟩ (optsOf b)).1 = true → ∃ g, Blk w' sp 67 (s.opt (rdAll syn ⟨s.ms, s.sk, []⟩ (optsOf b)).2 g).cells ∧ OwS w' w.heap.size g (rdAll syn ⟨s.ms, s.sk, []⟩ (optsOf b)).2.got) := by
  have e1 : s.fl.tdiv 2 = s.fl / 2 := Int.tdiv_eq_ediv_of_nonneg (by omega)
  have e2 : (s.fl / 2).tmod 2 = if syn then 1 else 0 := by rw [Int.tmod_eq_emod_of_nonneg (by omega), hsyn]
  obtain ⟨q, hq⟩ : ∃ q, q = s.fl / 2 := ⟨_, rfl⟩
  rw [← hq] at e1 e2
  have q0 : 0 ≤ q := by omega
  have q1 : q ≤ 15 := by omega
  obtain ⟨r, hr⟩ : ∃ r, r = if syn then (1 : Int) else 0 := ⟨_, rfl⟩
  rw [← hr] at e2
  have r0 : 0 ≤ r := by rw [hr]; split <;> decide
  have r1 : r ≤ 1 := by rw [hr]; split <;> decide
  have e3 : (r != 0) = syn := by rw [hr]; cases syn <;> rfl
  have E3 := Lib.hid e3
  clear hq hr hsyn e3
  have HOLD := Lib.hid hold
  clear hold
  have hlt := hs.lt
  have hse : s.cells = (s.opt ⟨s.ms, s.sk, []⟩ noS).cells := by rw [← hgt]; rfl
  rw [hse] at hs
  have H0 : RRel w Wd sp s syn b v w := ⟨b, ⟨s.ms, s.sk, []⟩, noS, hv, Nat.le_refl _, rfl, hs, OwS.nil _ _, Touch.refl _ _⟩
  clear hse hs hv hgt
  go_enter Try.func73, Try.ntmps73
  go_wp2_with fail
  go_loopw [1] (fun v' wx => RRel w Wd sp s syn b v' wx) (fun v' _ => lenV v')
  case atStart => exact H0
  case round =>
    obtain ⟨l, st, g, hv, hll, hrd, hbk, hog, hT⟩ := hrel
    have hvw : Rd wr u1 l := hv.old (Nat.le_trans hWd hT.size) (fun k hk => (hT.block k (by omega) (by show ¬ k = sp; omega)).trans (HOLD.out k hk))
    obtain ⟨A, c, rfl, hc1, hc2⟩ := hv.form
    have HB := Lib.hid (And.intro hrd (And.intro hbk (And.intro hog hT)))
    have HV := Lib.hid hv
    have c4 : wr.cell? ⟨sp, 4, none⟩ = some (.int .i64 s.fl) := hbk.sg.2.2.2.2.1
    have e6 : wr.cell? ⟨sp, 6, none⟩ = some (.int .i64 st.ms) := hbk.sg.2.2.2.2.2.2.1
    have e7 : wr.cell? ⟨sp, 7, none⟩ = some (.bool st.sk) := hbk.sg.2.2.2.2.2.2.2.1
    have e8 : wr.cell? ⟨sp, 8, none⟩ = some g := hbk.sg.2.2.2.2.2.2.2.2.1
    have f6 := hbk.free 6
    have f7 := hbk.free 7
    have f8 := hbk.free 8
    clear hrd hbk hog hT hv
    cases l with
    | nil =>
      go_wp2
      go_ret
      obtain ⟨h1, h2, h3, h4⟩ := HB.out
      rw [h1, optsOf_nil]
      exact ⟨rfl, h4, fun _ => ⟨g, h2, h3⟩⟩
    | cons x t =>
      obtain ⟨bb, oo, rfl, hbl', hcs⟩ := hvw.at_ 0 (by simp)
      have d0 := hcs 0 (by simp)
      simp only [Nat.add_zero, List.getElem_cons_zero] at d0
      have hx := UInt8.toNat_lt x
      obtain ⟨m, hm⟩ : ∃ m, m = (x :: t).length := ⟨_, rfl⟩
      have Hcs := Lib.hid hcs
      clear hcs
      rw [← hm] at hvw hc1 hll
      have hV2 := HV.out
      rw [← hm] at hV2
      clear HV
      have HV := Lib.hid hV2
      rw [← hm]
      have hm1 : 1 ≤ m := by rw [hm]; simp
      have Hm := Lib.hid hm
      clear hm hV2
      have p1 : decide ((0 : Int) < (m : Int)) = true := by simp; omega
      have hbs : bb < sp := by
        obtain ⟨b', o', e, hb', _⟩ := HV.out.at_ 0 (by simp)
        injection e with e
        injection e with e
        omega
      have HBS := Lib.hid hbs
      clear hbs
      by_cases x0 : x.toNat = 0
      · have g0 : ((x.toNat : Int) != 0) = false := by simp [x0]
        have X0 := Lib.hid x0
        clear x0
        go_wp2
        go_ret
        obtain ⟨h1, h2, h3, h4⟩ := HB.out
        rw [h1, optsOf_end X0.out]
        exact ⟨rfl, h4, fun _ => ⟨g, h2, h3⟩⟩
      · have g0 : ((x.toNat : Int) != 0) = true := by simpa using x0
        by_cases x1 : x.toNat = 1
        · have g1 : ((x.toNat : Int) == 1) = true := by simp [x1]
          have X1 := Lib.hid x1
          clear x1 x0
          go_wp2_with ((with_reducible refine at_slot 22 ?_); refine wpList_slice2 rfl (.tmp 21) (some (.const (.int .i64 1))) none rfl HV.out rfl 1 ((x :: t).length : Int) (.yes rfl rfl) .no (by omega) (by rw [← Hm.out]; omega) (Int.le_refl _) ?_; intro l' A' c' hl' hl1 hl2 hrl)
          obtain ⟨h1, h2, h3, h4⟩ := HB.out
          have ht : l' = t := by rw [hl'.out]; simp
          subst ht
          go_roundw
          case rel => exact ⟨l', st, g, hrl, by have := Hm.out; simp at this; omega, by rw [h1, optsOf_one X1.out, rdAll, if_neg (by simp)]; rw [show optStep syn st [x] = st by unfold optStep; rw [if_neg (fun h => by have := h.2.1; simp at this), if_neg (fun h => by have := h.2.1; simp at this), if_neg (fun h => by have := h.2.1; simp at this)]], h2, h3, h4⟩
          case measure =>
            have := Hm.out
            simp at this
            show l'.length < m
            omega
        · have g1 : ((x.toNat : Int) == 1) = false := by simp; omega
          have x2 : 2 ≤ x.toNat := by omega
          clear x0 x1
          cases t with
          | nil =>
            have hm1' : m = 1 := by rw [Hm.out]; rfl
            subst hm1'
            go_wp2
            go_ret
            obtain ⟨h1, h2, h3, h4⟩ := HB.out
            rw [h1, optsOf_short x2]
            exact ⟨rfl, h4, fun h => by simp [rdAll] at h⟩
          | cons y t =>
            have d1 := Hcs.out 1 (by simp)
            simp only [List.getElem_cons_succ, List.getElem_cons_zero] at d1
            have hy := UInt8.toNat_lt y
            have hm2 : 2 ≤ m := by rw [Hm.out]; simp
            have g2 : decide ((m : Int) < 2) = false := by simp; omega
            have X2 := Lib.hid x2
            clear x2
            by_cases hbad : y.toNat < 2 ∨ m < y.toNat
            · have HBAD := Lib.hid hbad
              by_cases y2 : y.toNat < 2
              · have g3 : decide ((y.toNat : Int) < 2) = true := by simp; omega
                clear hbad
                go_wp2
                go_ret
                obtain ⟨h1, h2, h3, h4⟩ := HB.out
                rw [h1, optsOf_bad X2.out (by have := Hm.out; simp at this; have := HBAD.out; omega)]
                exact ⟨rfl, h4, fun h => by simp [rdAll] at h⟩
              · have g3 : decide ((y.toNat : Int) < 2) = false := by simp; omega
                have g4 : decide ((m : Int) < (y.toNat : Int)) = true := by simp; omega
                have g5 : decide (m < y.toNat) = true := by simp; omega
                clear hbad
                go_wp2
                go_ret
                obtain ⟨h1, h2, h3, h4⟩ := HB.out
                rw [h1, optsOf_bad X2.out (by have := Hm.out; simp at this; have := HBAD.out; omega)]
                exact ⟨rfl, h4, fun h => by simp [rdAll] at h⟩
            · have g3 : decide ((y.toNat : Int) < 2) = false := by simp; omega
              have g4 : decide ((m : Int) < (y.toNat : Int)) = false := by simp; omega
              have g5 : decide (m < y.toNat) = false := by simp; omega
              have y2 : 2 ≤ y.toNat := by omega
              have ym : y.toNat ≤ m := by omega
              clear hbad
              obtain ⟨n, hn⟩ : ∃ n, n = y.toNat := ⟨_, rfl⟩
              obtain ⟨o, ho⟩ : ∃ o, o = (x :: y :: t).take n := ⟨_, rfl⟩
              have hol : o.length = n := by rw [ho, List.length_take]; have := Hm.out; omega
              have hoh : o.headD 0 = x := by
                rw [ho]
                match n, hn with
                | 0, h => omega
                | k + 1, _ => rfl
              have hopt : optsOf (x :: y :: t) = o :: optsOf ((x :: y :: t).drop n) := by rw [ho, hn]; exact optsOf_more X2.out y2 (by have := Hm.out; simp at this; omega)
              have hone : o ≠ [] := by intro h; rw [h] at hol; simp at hol; omega
              have hnext : ∀ (st' : OSt) (g' : Value) (wx : World) (l' : List UInt8) (A' : Option Addr) (c' : Nat), optStep syn st o = st' → l' = (x :: y :: t).drop n → Rd Wd (.slice A' l'.length c') l' → Blk wx sp 67 (s.opt st' g').cells → OwS wx w.heap.size g' st'.got → Touch (fun k => k = sp) w wx → RRel w Wd sp s syn b (.slice A' l'.length c') wx ∧ l'.length < m := by
                intro st' g' wx l' A' c' h1 h2 h3 h4 h5 h6
                have hl : l'.length = m - n := by rw [h2, List.length_drop]; have := Hm.out; omega
                refine ⟨⟨l', st', g', h3, by omega, ?_, h4, h5, h6⟩, by omega⟩
                rw [HB.out.1, hopt, rdAll, if_neg hone, h1, h2]
              have HN := Lib.hid hnext
              have HO := Lib.hid (And.intro ho (And.intro hol hoh))
              clear ho hol hoh hopt hone hnext
              rw [← hn] at g3 g4 g5 y2 ym d1 hy
              have hN := Lib.hid hn
              clear hn
              by_cases x2 : x.toNat = 2
              · have k2 : ((x.toNat : Int) == 2) = true := by simp; omega
                have k4 : ((x.toNat : Int) == 4) = false := by simp; omega
                have k5 : ((x.toNat : Int) == 5) = false := by simp; omega
                by_cases n4 : n = 4
                · have j4 : ((n : Int) == 4) = true := by simp; omega
                  have N4 := Lib.hid n4
                  clear n4
                  cases syn with
                  | false =>
                    have e3 := E3.out
                    go_wp2_with ((with_reducible refine at_slot 127 ?_); refine wpList_slice2 rfl (.tmp 125) (some (.tmp 126)) none rfl HV.out rfl (n : Int) ((x :: y :: t).length : Int) (.yes rfl rfl) .no (by omega) (by rw [← Hm.out]; omega) (Int.le_refl _) ?_; intro l' A' c' hl' hl1 hl2 hrl)
                    obtain ⟨_, h2, h3, h4⟩ := HB.out
                    have hl2' : l' = (x :: y :: t).drop n := by rw [hl'.out, Int.toNat_natCast, Int.toNat_natCast, List.take_length]
                    obtain ⟨r1', r2'⟩ := HN.out st g _ l' A' c' (by unfold optStep; rw [if_neg (fun h => by have := h.2.2; simp at this), if_neg (fun h => by have := h.1; rw [HO.out.2.2] at this; omega), if_neg (fun h => by have := h.1; rw [HO.out.2.2] at this; omega)]) hl2' hrl h2 h3 h4
                    go_roundw
                    case rel => exact r1'
                    case measure => exact r2'
                  | true =>
                    have e3 := E3.out
                    go_wp2_with fail
                    refine (rat _ (x :: y :: t) 2 2 _ hvw (by omega) (by omega) (by omega) (by rw [← Hm.out]; have := N4.out; omega) (by rw [← Hm.out]; omega)).mono ?_
                    rintro e w' ⟨rfl, rfl⟩
                    obtain ⟨ms, hms⟩ : ∃ ms, ms = be (((x :: y :: t).drop (2 : Int).toNat).take (2 : Int).toNat) := ⟨_, rfl⟩
                    rw [← hms]
                    have hms' : be ((o.drop 2).take 2) = ms := by rw [hms, HO.out.1, take_drop_take _ _ _ _ (by have := N4.out; omega)]; rfl
                    have HMS := Lib.hid hms'
                    clear hms hms'
                    have dd0 : (wr.setCell ⟨sp, 6, none⟩ (.int .i64 ms)).cell? ⟨bb, oo, none⟩ = some (.int .u8 (x.toNat : Int)) := (World.cell?_of_block (Below.heap_setCell _ _ _ _ (by have := HBS.out; show bb ≠ sp; omega))).trans d0
                    have dd1 : (wr.setCell ⟨sp, 6, none⟩ (.int .i64 ms)).cell? ⟨bb, oo + 1, none⟩ = some (.int .u8 (n : Int)) := (World.cell?_of_block (Below.heap_setCell _ _ _ _ (by have := HBS.out; show bb ≠ sp; omega))).trans d1
                    go_wp2_with ((with_reducible refine at_slot 127 ?_); refine wpList_slice2 rfl (.tmp 125) (some (.tmp 126)) none rfl HV.out rfl (n : Int) ((x :: y :: t).length : Int) (.yes rfl rfl) .no (by omega) (by rw [← Hm.out]; omega) (Int.le_refl _) ?_; intro l' A' c' hl' hl1 hl2 hrl)
                    obtain ⟨_, h2, h3, h4⟩ := HB.out
                    have hl2' : l' = (x :: y :: t).drop n := by rw [hl'.out, Int.toNat_natCast, Int.toNat_natCast, List.take_length]
                    obtain ⟨r1', r2'⟩ := HN.out { st with ms := ms } g _ l' A' c' (by unfold optStep; rw [if_pos ⟨by rw [HO.out.2.2]; exact x2, by rw [HO.out.2.1]; exact N4.out, rfl⟩, HMS.out]) hl2' hrl (by simpa [SG.opt, SG.cells] using h2.set 6 (.int .i64 ms)) (h3.same fun k hk => Below.heap_setCell _ _ _ _ (by have := (h3.lt hk).1; show k ≠ sp; omega)) (h4.trans (Touch.set (S := fun k => k = sp) wr (p := ⟨sp, 6, none⟩) rfl _))
                    go_roundw
                    case rel => exact r1'
                    case measure => exact r2'
                · have j4 : ((n : Int) == 4) = false := by simp; omega
                  have N4 := Lib.hid n4
                  clear n4
                  go_wp2_with ((with_reducible refine at_slot 127 ?_); refine wpList_slice2 rfl (.tmp 125) (some (.tmp 126)) none rfl HV.out rfl (n : Int) ((x :: y :: t).length : Int) (.yes rfl rfl) .no (by omega) (by rw [← Hm.out]; omega) (Int.le_refl _) ?_; intro l' A' c' hl' hl1 hl2 hrl)
                  obtain ⟨_, h2, h3, h4⟩ := HB.out
                  have hl2' : l' = (x :: y :: t).drop n := by rw [hl'.out, Int.toNat_natCast, Int.toNat_natCast, List.take_length]
                  obtain ⟨r1', r2'⟩ := HN.out st g _ l' A' c' (by unfold optStep; rw [if_neg (fun h => N4.out (by have := h.2.1; rw [HO.out.2.1] at this; exact this)), if_neg (fun h => by have := h.1; rw [HO.out.2.2] at this; omega), if_neg (fun h => by have := h.1; rw [HO.out.2.2] at this; omega)]) hl2' hrl h2 h3 h4
                  go_roundw
                  case rel => exact r1'
                  case measure => exact r2'
              · have k2 : ((x.toNat : Int) == 2) = false := by simp; omega
                by_cases x4 : x.toNat = 4
                · have k4 : ((x.toNat : Int) == 4) = true := by simp; omega
                  have k5 : ((x.toNat : Int) == 5) = false := by simp; omega
                  by_cases n2 : n = 2
                  · have j2 : ((n : Int) == 2) = true := by simp; omega
                    have N2 := Lib.hid n2
                    clear n2
                    cases syn with
                    | false =>
                      have e3 := E3.out
                      go_wp2_with ((with_reducible refine at_slot 127 ?_); refine wpList_slice2 rfl (.tmp 125) (some (.tmp 126)) none rfl HV.out rfl (n : Int) ((x :: y :: t).length : Int) (.yes rfl rfl) .no (by omega) (by rw [← Hm.out]; omega) (Int.le_refl _) ?_; intro l' A' c' hl' hl1 hl2 hrl)
                      obtain ⟨_, h2, h3, h4⟩ := HB.out
                      have hl2' : l' = (x :: y :: t).drop n := by rw [hl'.out, Int.toNat_natCast, Int.toNat_natCast, List.take_length]
                      obtain ⟨r1', r2'⟩ := HN.out st g _ l' A' c' (by unfold optStep; rw [if_neg (fun h => by have := h.1; rw [HO.out.2.2] at this; omega), if_neg (fun h => by have := h.2.2; simp at this), if_neg (fun h => by have := h.1; rw [HO.out.2.2] at this; omega)]) hl2' hrl h2 h3 h4
                      go_roundw
                      case rel => exact r1'
                      case measure => exact r2'
                    | true =>
                      have e3 := E3.out
                      have dd0 : (wr.setCell ⟨sp, 7, none⟩ (.bool true)).cell? ⟨bb, oo, none⟩ = some (.int .u8 (x.toNat : Int)) := (World.cell?_of_block (Below.heap_setCell _ _ _ _ (by have := HBS.out; show bb ≠ sp; omega))).trans d0
                      have dd1 : (wr.setCell ⟨sp, 7, none⟩ (.bool true)).cell? ⟨bb, oo + 1, none⟩ = some (.int .u8 (n : Int)) := (World.cell?_of_block (Below.heap_setCell _ _ _ _ (by have := HBS.out; show bb ≠ sp; omega))).trans d1
                      go_wp2_with ((with_reducible refine at_slot 127 ?_); refine wpList_slice2 rfl (.tmp 125) (some (.tmp 126)) none rfl HV.out rfl (n : Int) ((x :: y :: t).length : Int) (.yes rfl rfl) .no (by omega) (by rw [← Hm.out]; omega) (Int.le_refl _) ?_; intro l' A' c' hl' hl1 hl2 hrl)
                      obtain ⟨_, h2, h3, h4⟩ := HB.out
                      have hl2' : l' = (x :: y :: t).drop n := by rw [hl'.out, Int.toNat_natCast, Int.toNat_natCast, List.take_length]
                      obtain ⟨r1', r2'⟩ := HN.out { st with sk := true } g _ l' A' c' (by unfold optStep; rw [if_neg (fun h => by have := h.1; rw [HO.out.2.2] at this; omega), if_pos ⟨by rw [HO.out.2.2]; exact x4, by rw [HO.out.2.1]; exact N2.out, rfl⟩]) hl2' hrl (by simpa [SG.opt, SG.cells] using h2.set 7 (.bool true)) (h3.same fun k hk => Below.heap_setCell _ _ _ _ (by have := (h3.lt hk).1; show k ≠ sp; omega)) (h4.trans (Touch.set (S := fun k => k = sp) wr (p := ⟨sp, 7, none⟩) rfl _))
                      go_roundw
                      case rel => exact r1'
                      case measure => exact r2'
                  · have j2 : ((n : Int) == 2) = false := by simp; omega
                    have N2 := Lib.hid n2
                    clear n2
                    go_wp2_with ((with_reducible refine at_slot 127 ?_); refine wpList_slice2 rfl (.tmp 125) (some (.tmp 126)) none rfl HV.out rfl (n : Int) ((x :: y :: t).length : Int) (.yes rfl rfl) .no (by omega) (by rw [← Hm.out]; omega) (Int.le_refl _) ?_; intro l' A' c' hl' hl1 hl2 hrl)
                    obtain ⟨_, h2, h3, h4⟩ := HB.out
                    have hl2' : l' = (x :: y :: t).drop n := by rw [hl'.out, Int.toNat_natCast, Int.toNat_natCast, List.take_length]
                    obtain ⟨r1', r2'⟩ := HN.out st g _ l' A' c' (by unfold optStep; rw [if_neg (fun h => by have := h.1; rw [HO.out.2.2] at this; omega), if_neg (fun h => N2.out (by have := h.2.1; rw [HO.out.2.1] at this; exact this)), if_neg (fun h => by have := h.1; rw [HO.out.2.2] at this; omega)]) hl2' hrl h2 h3 h4
                    go_roundw
                    case rel => exact r1'
                    case measure => exact r2'
                · have k4 : ((x.toNat : Int) == 4) = false := by simp; omega
                  by_cases x5 : x.toNat = 5
                  · have k5 : ((x.toNat : Int) == 5) = true := by simp; omega
                    by_cases hn3 : n = 10 ∨ n = 18 ∨ n = 26
                    · obtain ⟨K, hK⟩ : ∃ K, n = 2 + 8 * K := ⟨(n - 2) / 8, by omega⟩
                      have hK1 : 1 ≤ K := by omega
                      have hK3 : K ≤ 3 := by omega
                      have HK := Lib.hid hK
                      have hgotO : optStep syn st o = { st with got := gotN o K } := by
                        unfold optStep
                        rw [if_neg (fun h => by have := h.1; rw [HO.out.2.2] at this; omega), if_neg (fun h => by have := h.1; rw [HO.out.2.2] at this; omega),
                          if_pos ⟨by rw [HO.out.2.2]; exact x5, by rw [HO.out.2.1]; omega, by rw [HO.out.2.1]; omega, by rw [HO.out.2.1]; omega⟩, HO.out.2.1, show (n - 2) / 8 = K by omega]
                      have HG := Lib.hid hgotO
                      clear hn3 hgotO hK
                      go_upto_region 12 with (fail)
                      go_cut [97] from 82 to 96 (fun r wx => r = .bool true ∧ wr = wx)
                      case first =>
                        have hK := HK.out
                        have h123 : K = 1 ∨ K = 2 ∨ K = 3 := by omega
                        clear hK1 hK3 HN HO HG
                        rcases h123 with rfl | rfl | rfl
                        · obtain rfl : n = 10 := hK
                          go_wp2_with fail
                          go_meet
                          exact ⟨rfl, rfl⟩
                        · obtain rfl : n = 18 := hK
                          go_wp2_with fail
                          go_meet
                          exact ⟨rfl, rfl⟩
                        · obtain rfl : n = 26 := hK
                          go_wp2_with fail
                          go_meet
                          exact ⟨rfl, rfl⟩
                      case rest =>
                      obtain ⟨rfl, rfl⟩ := hcut
                      obtain ⟨h1, h2, h3, h4⟩ := HB.out
                      have hi0 : Blk (wr.setCell ⟨sp, 8, none⟩ (.slice none 0 0)) sp 67 (s.opt { st with got := gotN o 0 } (.slice none 0 0)).cells := by simpa [SG.opt, SG.cells, gotN] using h2.set 8 (.slice none 0 0)
                      have ht0 : Touch (fun k => k = sp) w (wr.setCell ⟨sp, 8, none⟩ (.slice none 0 0)) := h4.trans (Touch.set (S := fun k => k = sp) wr (p := ⟨sp, 8, none⟩) rfl _)
                      have HI0 := Lib.hid (And.intro hi0 ht0)
                      clear h1 h2 h3 h4 hi0 ht0
                      obtain ⟨wo, rfl⟩ : ∃ x, x = wr := ⟨_, rfl⟩
                      go_wp2_with fail
                      go_loopw [7] (fun i wx => ∃ (k : Nat) (g' : Value), i = .int .i64 (2 + 8 * k : Nat) ∧ k ≤ K ∧ Blk wx sp 67 (s.opt { st with got := gotN o k } g').cells ∧ OwS wx w.heap.size g' (gotN o k) ∧ Touch (fun k => k = sp) w wx) (fun i _ => n - (intOf i).toNat)
                      case atStart => exact ⟨0, _, rfl, Nat.zero_le _, HI0.out.1, OwS.nil _ _, HI0.out.2⟩
                      case round =>
                        obtain ⟨k, gk, rfl, hk, hsk, hgk, hTk⟩ := hrel
                        obtain ⟨i, hi⟩ : ∃ i, i = 2 + 8 * k := ⟨_, rfl⟩
                        rw [← hi]
                        have z2 := hTk.size
                        have hrw : Rd wr (.slice (some ⟨bb, oo, none⟩) m c) (x :: y :: t) := HV.out.old (Nat.le_trans hWd hTk.size) (fun k hk => (hTk.block k (by omega) (by show ¬ k = sp; omega)).trans (HOLD.out k hk))
                        have hm8 := HK.out
                        by_cases hkK : k < K
                        · have hil : i < n := by omega
                          have hi8 : i + 8 ≤ n := by omega
                          have hin : i ≤ 26 := by omega
                          have HI := Lib.hid (And.intro hi hkK)
                          obtain ⟨Y, hY⟩ : ∃ Y, Y = be (((x :: y :: t).drop (i : Int).toNat).take (4 : Int).toNat) := ⟨_, rfl⟩
                          obtain ⟨Z, hZ⟩ : ∃ Z, Z = be (((x :: y :: t).drop ((i : Int) + 4).toNat).take (4 : Int).toNat) := ⟨_, rfl⟩
                          have hat1 : Calls Try.prog 58 #[.slice (some ⟨bb, oo, none⟩) m c, .int .i64 (i : Int), .int .i64 4] wr.drew fun e w' => e = .returned (.int .i64 Y) ∧ wr.drew = w' := by
                            rw [hY]
                            exact rat _ (x :: y :: t) i 4 _ hrw.drew (by omega) (by omega) (by omega) (by rw [← Hm.out]; omega) (by rw [← Hm.out]; omega)
                          have hat2 : Calls Try.prog 58 #[.slice (some ⟨bb, oo, none⟩) m c, .int .i64 ((i : Int) + 4), .int .i64 4] wr.drew fun e w' => e = .returned (.int .i64 Z) ∧ wr.drew = w' := by
                            rw [hZ]
                            exact rat _ (x :: y :: t) (i + 4) 4 _ hrw.drew (by omega) (by omega) (by omega) (by rw [← Hm.out]; omega) (by rw [← Hm.out]; omega)
                          have hspan : spanAt o k = (Y, Z) := by
                            rw [hY, hZ]
                            unfold spanAt
                            rw [HO.out.1, take_drop_take _ _ _ _ (by omega), take_drop_take _ _ _ _ (by omega)]
                            have e1 : (i : Int).toNat = 2 + 8 * k := by omega
                            have e2 : ((i : Int) + 4).toNat = 2 + 8 * k + 4 := by omega
                            rw [e1, e2]
                            rfl
                          have hY0 : 0 ≤ Y := by rw [hY]; exact be_0 _
                          have hY1 : Y < 4294967296 := by rw [hY]; exact be_4 _ (by simp; omega)
                          have hZ0 : 0 ≤ Z := by rw [hZ]; exact be_0 _
                          have hZ1 : Z < 4294967296 := by rw [hZ]; exact be_4 _ (by simp; omega)
                          have hwY : IntKind.u32.wrap Y = Y := by rw [IntKind.wrap_u32]; omega
                          have hwZ : IntKind.u32.wrap Z = Z := by rw [IntKind.wrap_u32]; omega
                          have hw4 : IntKind.i64.wrap ((i : Int) + 4) = (i : Int) + 4 := by rw [IntKind.wrap_i64]; omega
                          have HSPAN := Lib.hid hspan
                          have HW := Lib.hid (And.intro hwY (And.intro hwZ hw4))
                          obtain ⟨Ag, cg, eg, hcg1, hcg2⟩ := hgk.form
                          rw [gotN_len] at eg hcg1
                          subst eg
                          have hS0 : (fun w' => w'.cell? ⟨sp, 8, none⟩ = some (.slice Ag k cg)) wr.drew := hsk.sg.2.2.2.2.2.2.2.2.1
                          have HAT := Lib.hid (And.intro hat1 hat2)
                          clear hY hZ hspan hi hkK hm8 hwY hwZ hw4 hat1 hat2 HI0
                          go_upto_region 17 with (fail)
                          rename_i K17 hK17
                          obtain ⟨hat1, hat2⟩ := HAT.out
                          obtain ⟨hwY, hwZ, hw4⟩ := HW.out
                          have hBA := below_alloc wr.drew (.cells #[.int .u32 Y, .int .u32 Z] 117)
                          have hS1 : (fun w' => w'.cell? ⟨sp, 8, none⟩ = some (.slice Ag k cg)) (wr.drew.alloc (.cells #[.int .u32 Y, .int .u32 Z] 117)) := (hsk.drw.mono hBA).cell 8
                          have hg1 : OwS (wr.drew.alloc (.cells #[.int .u32 Y, .int .u32 Z] 117)) w.heap.size (.slice Ag k cg) (gotN o k) := (hgk.same (w' := wr.drew) fun _ _ => rfl).mono hBA
                          have hr1 : RdS (wr.drew.alloc (.cells #[.int .u32 Y, .int .u32 Z] 117)) (.slice (some ⟨wr.heap.size, 0, none⟩) 1 1) [(Y, Z)] := rdS_one (Blk.new wr.drew 117 _ _ rfl)
                          have hS5f : ∀ w5, (wr.drew.alloc (.cells #[.int .u32 Y, .int .u32 Z] 117)).grownBy w5 (Value.slice Ag k cg).ownBlock → Blk w5 sp 67 (s.opt { st with got := gotN o k } (.slice Ag k cg)).cells := fun w5 hg => (hsk.drw.mono hBA).own hlt hg (fun r e => (hg1.lt e).1)
                          refine wp_region_any (by kernel_rfl) (wpAny_of_G (n := 16) (S := fun w' => w'.cell? ⟨sp, 8, none⟩ = some (.slice Ag k cg)) _ _ _ _ ?_)
                          refine G.pure' (i := 0) (v := .pointer (some ⟨sp, 0, none⟩)) rfl (by kernel_rfl) (fun _ _ _ h => h) (.inl ⟨rfl, fun w' _ => ?_⟩) (fun _ => hS0) ?_
                          · simp [execOp, Act.eval, go_sem]
                          simp only [Act.put, List.getElem_toArray, List.getElem_cons_zero, List.setIfInBounds_toArray, List.set_cons_zero, List.set_cons_succ]
                          refine G.pure' (i := 1) (v := .pointer (some ⟨sp, 0, none⟩)) rfl (by kernel_rfl) (fun _ _ _ h => h) (.inl ⟨rfl, fun w' _ => ?_⟩) (fun _ => hS0) ?_
                          · simp [execOp, Act.eval, go_sem]
                          simp only [Act.put, List.getElem_toArray, List.getElem_cons_zero, List.getElem_cons_succ, List.setIfInBounds_toArray, List.set_cons_zero, List.set_cons_succ]
                          refine G.pure' (i := 2) (v := .pointer (some ⟨sp, 0, none⟩)) rfl (by kernel_rfl) (fun _ _ _ h => h) (.inl ⟨rfl, fun w' _ => ?_⟩) (fun _ => hS0) ?_
                          · simp [execOp, Act.eval, go_sem]
                          simp only [Act.put, List.getElem_toArray, List.getElem_cons_zero, List.getElem_cons_succ, List.setIfInBounds_toArray, List.set_cons_zero, List.set_cons_succ]
                          refine G.pure' (i := 3) (v := .pointer (some ⟨sp, 8, none⟩)) rfl (by kernel_rfl) (fun _ _ _ h => h) (.inl ⟨rfl, fun w' _ => ?_⟩) (fun _ => hS0) ?_
                          · simp [execOp, Act.eval, go_sem]
                          simp only [Act.put, List.getElem_toArray, List.getElem_cons_zero, List.getElem_cons_succ, List.setIfInBounds_toArray, List.set_cons_zero, List.set_cons_succ]
                          refine G.load (i := 4) (v := .slice Ag k cg) rfl (by kernel_rfl) (fun _ _ _ h => h) (.inl ⟨rfl, fun w' hS => ?_⟩) (hS0) ?_
                          · simp [execOp, Act.eval, hS, go_sem]
                          simp only [Act.put, List.getElem_toArray, List.getElem_cons_zero, List.getElem_cons_succ, List.setIfInBounds_toArray, List.set_cons_zero, List.set_cons_succ]
                          refine G.pure' (i := 5) (v := .slice (some ⟨bb, oo, none⟩) m c) rfl (by kernel_rfl) (fun _ _ _ h => h) (.inl ⟨rfl, fun w' _ => ?_⟩) (fun _ => hS0) ?_
                          · simp [execOp, Act.eval, go_sem]
                          simp only [Act.put, List.getElem_toArray, List.getElem_cons_zero, List.getElem_cons_succ, List.setIfInBounds_toArray, List.set_cons_zero, List.set_cons_succ]
                          refine G.pure' (i := 6) (v := .int .i64 (i : Int)) rfl (by kernel_rfl) (fun _ _ _ h => h) (.inl ⟨rfl, fun w' _ => ?_⟩) (fun _ => hS0) ?_
                          · simp [execOp, Act.eval, go_sem]
                          simp only [Act.put, List.getElem_toArray, List.getElem_cons_zero, List.getElem_cons_succ, List.setIfInBounds_toArray, List.set_cons_zero, List.set_cons_succ]
                          refine G.pure' (i := 9) (v := .slice (some ⟨bb, oo, none⟩) m c) rfl (by kernel_rfl) (fun _ _ _ h => h) (.inl ⟨rfl, fun w' _ => ?_⟩) (fun _ => hS0) ?_
                          · simp [execOp, Act.eval, go_sem]
                          simp only [Act.put, List.getElem_toArray, List.getElem_cons_zero, List.getElem_cons_succ, List.setIfInBounds_toArray, List.set_cons_zero, List.set_cons_succ]
                          refine G.pure' (i := 10) (v := .int .i64 (i : Int)) rfl (by kernel_rfl) (fun _ _ _ h => h) (.inl ⟨rfl, fun w' _ => ?_⟩) (fun _ => hS0) ?_
                          · simp [execOp, Act.eval, go_sem]
                          simp only [Act.put, List.getElem_toArray, List.getElem_cons_zero, List.getElem_cons_succ, List.setIfInBounds_toArray, List.set_cons_zero, List.set_cons_succ]
                          refine G.pure' (i := 11) (v := .int .i64 ((i : Int) + 4)) rfl (by kernel_rfl) (fun _ _ _ h => h) (.inl ⟨rfl, fun w' _ => ?_⟩) (fun _ => hS0) ?_
                          · simp [execOp, Act.eval, go_sem, hw4]
                          simp only [Act.put, List.getElem_toArray, List.getElem_cons_zero, List.getElem_cons_succ, List.setIfInBounds_toArray, List.set_cons_zero, List.set_cons_succ]
                          refine G.only' (i := 7) ?r7 rfl ?o7
                          case r7 => kernel_rfl
                          intro K hK
                          refine step_call rfl rfl (enters_of Try.func58 (by kernel_rfl) rfl) hat1 rfl ?_
                          rintro e w' ⟨rfl, rfl⟩
                          refine ⟨_, rfl, hK _ _ (fun _ => hS0) ?_⟩
                          clear hK K
                          simp only [Act.put, List.getElem_toArray, List.getElem_cons_zero, List.getElem_cons_succ, List.setIfInBounds_toArray, List.set_cons_zero, List.set_cons_succ]
                          refine G.pure' (i := 8) (v := .int .u32 Y) rfl (by kernel_rfl) (fun _ _ _ h => h) (.inl ⟨rfl, fun w' _ => ?_⟩) (fun _ => hS0) ?_
                          · simp [execOp, Act.eval, go_sem, hwY]
                          simp only [Act.put, List.getElem_toArray, List.getElem_cons_zero, List.getElem_cons_succ, List.setIfInBounds_toArray, List.set_cons_zero, List.set_cons_succ]
                          refine G.only' (i := 12) ?r12 rfl ?o12
                          case r12 => kernel_rfl
                          intro K hK
                          refine step_call rfl rfl (enters_of Try.func58 (by kernel_rfl) rfl) hat2 rfl ?_
                          rintro e w' ⟨rfl, rfl⟩
                          refine ⟨_, rfl, hK _ _ (fun _ => hS0) ?_⟩
                          clear hK K
                          simp only [Act.put, List.getElem_toArray, List.getElem_cons_zero, List.getElem_cons_succ, List.setIfInBounds_toArray, List.set_cons_zero, List.set_cons_succ]
                          refine G.pure' (i := 13) (v := .int .u32 Z) rfl (by kernel_rfl) (fun _ _ _ h => h) (.inl ⟨rfl, fun w' _ => ?_⟩) (fun _ => hS0) ?_
                          · simp [execOp, Act.eval, go_sem, hwZ]
                          simp only [Act.put, List.getElem_toArray, List.getElem_cons_zero, List.getElem_cons_succ, List.setIfInBounds_toArray, List.set_cons_zero, List.set_cons_succ]
                          refine G.pure' (i := 14) (v := .agg #[.int .u32 Y, .int .u32 Z]) rfl (by kernel_rfl) (fun _ _ _ h => h) (.inl ⟨rfl, fun w' _ => ?_⟩) (fun _ => hS0) ?_
                          · simp [execOp, Act.eval, go_sem]
                          simp only [Act.put, List.getElem_toArray, List.getElem_cons_zero, List.getElem_cons_succ, List.setIfInBounds_toArray, List.set_cons_zero, List.set_cons_succ]
                          refine G.only' (i := 15) ?r15 rfl ?o15
                          case r15 => kernel_rfl
                          intro K hK
                          refine step_buildSp (y := Y) (z := Z) rfl (.tmp 120) rfl ?p71 ?_
                          case p71 => simp [Act.eval]
                          refine hK _ _ (fun _ => hS1) ?_
                          clear hK K
                          simp only [Act.put, List.getElem_toArray, List.getElem_cons_zero, List.getElem_cons_succ]
                          refine G.only' (i := 16) ?r16 rfl ?o16
                          case r16 => kernel_rfl
                          intro K hK
                          refine step_appS (E := gotN o k) (F := [(Y, Z)]) rfl (.tmp 110) (.tmp 121) rfl w.heap.size hg1 hr1 ?p91 ?p92 (by rw [gotN_len]; simp; omega) (by simp; omega) ?_
                          case p91 => simp [Act.eval]
                          case p92 => simp [Act.eval]
                          intro v5 w5 ho5 hb5 hg5
                          obtain ⟨A5, c5, e5, _, _⟩ := ho5.form
                          have hlen5 : (gotN o k ++ [(Y, Z)]).length = k + 1 := by rw [List.length_append, gotN_len]; rfl
                          rw [hlen5] at e5
                          subst e5
                          have hS5 : Blk w5 sp 67 (s.opt { st with got := gotN o k } (.slice Ag k cg)).cells := hS5f w5 hg5.1
                          refine hK _ _ (fun e => Bool.noConfusion (show true = false from e)) ?_
                          clear hK K
                          simp only [Act.put, List.getElem_toArray, List.getElem_cons_zero, List.getElem_cons_succ]
                          refine G.pure' (i := 17) (v := .pointer (some ⟨sp, 0, none⟩)) rfl (by kernel_rfl) (fun _ _ _ h => h) (.inl ⟨rfl, fun w' _ => ?_⟩) (fun e => Bool.noConfusion (show true = false from e)) ?_
                          · simp [execOp, Act.eval, go_sem]
                          simp only [Act.put, List.getElem_toArray, List.getElem_cons_zero, List.getElem_cons_succ, List.setIfInBounds_toArray, List.set_cons_zero, List.set_cons_succ]
                          refine G.pure' (i := 18) (v := .pointer (some ⟨sp, 8, none⟩)) rfl (by kernel_rfl) (fun _ _ _ h => h) (.inl ⟨rfl, fun w' _ => ?_⟩) (fun e => Bool.noConfusion (show true = false from e)) ?_
                          · simp [execOp, Act.eval, go_sem]
                          simp only [Act.put, List.getElem_toArray, List.getElem_cons_zero, List.getElem_cons_succ, List.setIfInBounds_toArray, List.set_cons_zero, List.set_cons_succ]
                          refine G.only' (i := 19) ?r19 rfl ?o19
                          case r19 => kernel_rfl
                          intro K hK
                          refine step_storeSp (A := A5) (n := (k + 1)) (c := c5) rfl (.tmp 124) (.tmp 122) rfl ?p81 ?p82 (hS5.cell 8) (hS5.free 8) ?_
                          case p81 => simp [Act.eval]
                          case p82 => simp [Act.eval]
                          refine hK _ _ (fun e => Bool.noConfusion (show true = false from e)) (G.done (by kernel_rfl) ?_)
                          clear hK K
                          simp only [Act.put, List.getElem_toArray, List.getElem_cons_zero, List.getElem_cons_succ]
                          simp only [Exit.inBlock, Exit.then]
                          refine hK17 _ _ ?_
                          clear hK17 K17
                          have hn5 : gotN o (k + 1) = gotN o k ++ [(Y, Z)] := by rw [gotN_succ, HSPAN.out]
                          have hT5 : Touch (fun k => k = sp) w w5 := ((hTk.drew).trans (Touch.of_below hBA)).own (Nat.le_refl _) hg5.1 (fun r e => (hg1.lt e).1)
                          have hall : Blk (w5.setCell ⟨sp, 8, none⟩ (.slice A5 (k + 1) c5)) sp 67 (s.opt { st with got := gotN o (k + 1) } (.slice A5 (k + 1) c5)).cells ∧ OwS (w5.setCell ⟨sp, 8, none⟩ (.slice A5 (k + 1) c5)) w.heap.size (.slice A5 (k + 1) c5) (gotN o (k + 1)) ∧ Touch (fun k => k = sp) w (w5.setCell ⟨sp, 8, none⟩ (.slice A5 (k + 1) c5)) :=
                            ⟨by simpa [SG.opt, SG.cells] using hS5.set 8 (.slice A5 (k + 1) c5), by rw [hn5]; exact ho5.same fun j hj => Below.heap_setCell _ _ _ _ (by have := (ho5.lt hj).1; show j ≠ sp; omega), hT5.trans (Touch.set (S := fun k => k = sp) w5 (p := ⟨sp, 8, none⟩) rfl _)⟩
                          have HALL := Lib.hid hall
                          clear hall hT5 hn5 ho5 hb5 hg5 hS5 hS5f hr1 hg1 hS1 hBA hS0 hat1 hat2 hwY hwZ hw4 hsk hgk hTk hrw hvw
                          go_wp2
                          go_roundw
                          case rel => exact ⟨k + 1, _, by have := HI.out.1; go_num, by have := HI.out.2; omega, HALL.out.1, HALL.out.2.1, HALL.out.2.2⟩
                          case measure => simp [intOf]; omega
                        · have hil : i = n := by omega
                          have hkE : k = K := by omega
                          subst hkE
                          have hnl : decide ((i : Int) < (n : Int)) = false := by simp; omega
                          have hnl2 : decide (i < n) = false := by simp; omega
                          have HK8 := Lib.hid hm8
                          have HALL := Lib.hid (And.intro hsk (And.intro hgk hTk))
                          clear hil hi hkK hsk hgk hTk hm8 hvw hrw HI0
                          go_wp2_with ((with_reducible refine at_slot 127 ?_); refine wpList_slice2 rfl (.tmp 125) (some (.tmp 126)) none rfl HV.out rfl (n : Int) ((x :: y :: t).length : Int) (.yes rfl rfl) .no (by omega) (by rw [← Hm.out]; omega) (Int.le_refl _) ?_; intro l' A' c' hl' hl1 hl2 hrl)
                          have hl2' : l' = (x :: y :: t).drop n := by rw [hl'.out, Int.toNat_natCast, Int.toNat_natCast, List.take_length]
                          obtain ⟨r1', r2'⟩ := HN.out { st with got := gotN o k } gk _ l' A' c' HG.out hl2' hrl HALL.out.1 HALL.out.2.1 HALL.out.2.2
                          go_roundw
                          case rel => exact r1'
                          case measure => exact r2'
                    · have j10 : ((n : Int) == 10) = false := by simp; omega
                      have j18 : ((n : Int) == 18) = false := by simp; omega
                      have j26 : ((n : Int) == 26) = false := by simp; omega
                      have N3 := Lib.hid hn3
                      clear hn3
                      go_wp2_with ((with_reducible refine at_slot 127 ?_); refine wpList_slice2 rfl (.tmp 125) (some (.tmp 126)) none rfl HV.out rfl (n : Int) ((x :: y :: t).length : Int) (.yes rfl rfl) .no (by omega) (by rw [← Hm.out]; omega) (Int.le_refl _) ?_; intro l' A' c' hl' hl1 hl2 hrl)
                      obtain ⟨_, h2, h3, h4⟩ := HB.out
                      have hl2' : l' = (x :: y :: t).drop n := by rw [hl'.out, Int.toNat_natCast, Int.toNat_natCast, List.take_length]
                      obtain ⟨r1', r2'⟩ := HN.out st g _ l' A' c' (by unfold optStep; rw [if_neg (fun h => by have := h.1; rw [HO.out.2.2] at this; omega), if_neg (fun h => by have := h.1; rw [HO.out.2.2] at this; omega), if_neg (fun h => N3.out (by have h2 := h.2.1; have h3 := h.2.2.1; have h4 := h.2.2.2; rw [HO.out.2.1] at h2 h3 h4; omega))]) hl2' hrl h2 h3 h4
                      go_roundw
                      case rel => exact r1'
                      case measure => exact r2'
                  · have k5 : ((x.toNat : Int) == 5) = false := by simp; omega
                    go_wp2_with ((with_reducible refine at_slot 127 ?_); refine wpList_slice2 rfl (.tmp 125) (some (.tmp 126)) none rfl HV.out rfl (n : Int) ((x :: y :: t).length : Int) (.yes rfl rfl) .no (by omega) (by rw [← Hm.out]; omega) (Int.le_refl _) ?_; intro l' A' c' hl' hl1 hl2 hrl)
                    obtain ⟨_, h2, h3, h4⟩ := HB.out
                    have hl2' : l' = (x :: y :: t).drop n := by rw [hl'.out, Int.toNat_natCast, Int.toNat_natCast, List.take_length]
                    obtain ⟨r1', r2'⟩ := HN.out st g _ l' A' c' (by unfold optStep; rw [if_neg (fun h => by have := h.1; rw [HO.out.2.2] at this; omega), if_neg (fun h => by have := h.1; rw [HO.out.2.2] at this; omega), if_neg (fun h => by have := h.1; rw [HO.out.2.2] at this; omega)]) hl2' hrl h2 h3 h4
                    go_roundw
                    case rel => exact r1'
                    case measure => exact r2'
end Go.Proofs.Ytbhdojpgjmbogaa
