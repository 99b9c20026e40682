/- ip4.Encode: a packet's bytes, where nothing is refused. -/
import Derived.Test.YtbhdojpgjmbogaaDoorIRight
import Derived.Test.YtbhdojpgjmbogaaDoorWSum
import Derived.Great.BuildSlice
namespace Go.Proofs.YtbhdojpgjmbogaaDoor
open Go.RowKit Go.Shelf
/-- A packet's head. -/
structure PK where
  s : IP
  d : IP
  pr : Int
  tl : Int
  id : Int
  ts : Int
  wh : Bool
  mo : Bool
  fo : Int
  op : Value
@[reducible] def PK.cells (p : PK) : Array Value := #[.int .u8 p.s.a.toNat, .int .u8 p.s.b.toNat, .int .u8 p.s.c.toNat, .int .u8 p.s.d.toNat, .int .u8 p.d.a.toNat, .int .u8 p.d.b.toNat, .int .u8 p.d.c.toNat, .int .u8 p.d.d.toNat,
  .int .i64 p.pr, .int .i64 p.tl, .int .i64 p.id, .int .i64 p.ts, .bool p.wh, .bool p.mo, .int .i64 p.fo, p.op]
@[reducible] def PK.v (p : PK) : Value := .agg #[.int .u8 p.s.a.toNat, .int .u8 p.s.b.toNat, .int .u8 p.s.c.toNat, .int .u8 p.s.d.toNat, .int .u8 p.d.a.toNat, .int .u8 p.d.b.toNat, .int .u8 p.d.c.toNat, .int .u8 p.d.d.toNat,
  .int .i64 p.pr, .int .i64 p.tl, .int .i64 p.id, .int .i64 p.ts, .bool p.wh, .bool p.mo, .int .i64 p.fo, p.op]
theorem PK.info : (Tryd.prog.info? 26).map (·.size) = some 16 := by kernel_rfl
theorem boxP {w : World} {p : PK} {motive : World → Prop}
    (h : ∀ X, Below w.heap.size w X → w.heap.size + 1 = X.heap.size → Blk X w.heap.size 26 p.cells → motive X) :
    motive (w.alloc (.cells p.cells 26)) :=
  h _ ((Below.refl w.heap.size w).alloc (Nat.le_refl _) _) (by simp) (Blk.new w 26 p.cells _ rfl)
theorem Blk.pk {w : World} {g : Nat} {p : PK} (h : Blk w g 26 p.cells) :
    w.cell? ⟨g, 8, none⟩ = some (.int .i64 p.pr) ∧ w.cell? ⟨g, 9, none⟩ = some (.int .i64 p.tl) ∧ w.cell? ⟨g, 10, none⟩ = some (.int .i64 p.id) ∧ w.cell? ⟨g, 11, none⟩ = some (.int .i64 p.ts) ∧
    w.cell? ⟨g, 12, none⟩ = some (.bool p.wh) ∧ w.cell? ⟨g, 13, none⟩ = some (.bool p.mo) ∧ w.cell? ⟨g, 14, none⟩ = some (.int .i64 p.fo) ∧ w.cell? ⟨g, 15, none⟩ = some p.op :=
  ⟨h.cell 8, h.cell 9, h.cell 10, h.cell 11, h.cell 12, h.cell 13, h.cell 14, h.cell 15⟩
/-- The addresses of a packet that is boxed, as slices. -/
theorem Blk.pkS {w : World} {g : Nat} {p : PK} (h : Blk w g 26 p.cells) : Rd w (.slice (some ⟨g, 0, none⟩) 4 4) p.s.l :=
  ⟨some ⟨g, 0, none⟩, 4, rfl, Nat.le_refl _, by unfold maxLen; omega, .inr ⟨g, 0, rfl, h.lt, fun j u hu => by
    rw [Blk.cell h, Nat.zero_add]
    match j, hu with
    | 0, hu => exact hu
    | 1, hu => exact hu
    | 2, hu => exact hu
    | 3, hu => exact hu
    | j + 4, hu => simp [IP.l] at hu⟩⟩
theorem Blk.pkD {w : World} {g : Nat} {p : PK} (h : Blk w g 26 p.cells) : Rd w (.slice (some ⟨g, 4, none⟩) 4 4) p.d.l :=
  ⟨some ⟨g, 4, none⟩, 4, rfl, Nat.le_refl _, by unfold maxLen; omega, .inr ⟨g, 4, rfl, h.lt, fun j u hu => by
    rw [Blk.cell h]
    match j, hu with
    | 0, hu => exact hu
    | 1, hu => exact hu
    | 2, hu => exact hu
    | 3, hu => exact hu
    | j + 4, hu => simp [IP.l] at hu⟩⟩
/-- The three flags and the offset. -/
def PK.fg (p : PK) : Int := p.fo / 8 + (if p.wh then 16384 else 0) + (if p.mo then 8192 else 0)
/-- A packet's head up to its sum, for a head of n bytes and size bytes in all; what comes behind it. -/
def ihA (p : PK) (n size : Int) : List UInt8 := [by8 (64 + n / 4), by8 p.ts] ++ p16 size ++ p16 p.id ++ p16 p.fg ++ [by8 p.tl, by8 p.pr]
def ihL (p : PK) (o : List UInt8) (size S : Int) : List UInt8 := ihA p (20 + o.length) size ++ p16 S ++ (p.s.l ++ p.d.l ++ o)
theorem ihA_len (p : PK) (n size : Int) : (ihA p n size).length = 10 := rfl
theorem ihL_len (p : PK) (o : List UInt8) (size S : Int) : (ihL p o size S).length = 20 + o.length := by simp [ihL, ihA_len, p16_len, IP.l]; omega
theorem ihL_splice (p : PK) (o : List UInt8) (size S : Int) : splice (ihL p o size 0) 10 (p16 S) = ihL p o size S := by simp [splice, ihL, ihA, p16]
/-- The sum that Encode lays down. -/
def ihS (p : PK) (o : List UInt8) (size : Int) : Int := 65535 - sumw (ihL p o size 0) 0
theorem ihS_bd (p : PK) (o : List UInt8) (size : Int) : 0 ≤ ihS p o size ∧ ihS p o size ≤ 65535 := by
  have := sumw_bd (ihL p o size 0) 0 (by omega) (by omega)
  unfold ihS; omega
/-- May a packet be sent? -/
structure PK.Ok (p : PK) : Prop where
  pr : decide (0 ≤ p.pr ∧ p.pr ≤ 255) = true
  ts : decide (0 ≤ p.ts ∧ p.ts ≤ 255) = true
  id : decide (0 ≤ p.id ∧ p.id ≤ 65535) = true
  tl : decide (1 ≤ p.tl ∧ p.tl ≤ 255) = true
  fo : decide (0 ≤ p.fo ∧ p.fo ≤ 65528) = true
  f8 : p.fo % 8 = 0
set_option maxHeartbeats 400000 in
theorem iwithin (n m : Int) (b : Bool) (h : b = decide (0 ≤ n ∧ n ≤ m)) (w : World) : Calls Tryd.prog 19 #[.int .i64 n, .int .i64 m] w fun e w' => e = .returned (.bool b) ∧ w = w' := by
  subst h
  by_cases h1 : 0 ≤ n
  · have g1 : decide (0 ≤ n) = true := by simpa using h1
    go_enter Tryd.func19, Tryd.ntmps19
    go_wp2
    go_ret
    exact ⟨ret_bool (decide_eq_decide.2 ⟨fun h => ⟨h1, h⟩, fun h => h.2⟩), rfl⟩
  · have g1 : decide (0 ≤ n) = false := by simpa using h1
    go_enter Tryd.func19, Tryd.ntmps19
    go_wp2
    go_ret
    exact ⟨ret_bool (by simp), rfl⟩
/-- A slice is built, at a step of a region that draws. -/
theorem step_build {ops : Array Oper} {o : Oper} {a : Act} {w : World} {K : Act → World → Prop} {Q : Exit → Act → World → Prop} {E : Prop} (hgd : o.guard = none) (t e : TypeId) (len : Nat) (parts : Array (Nat × Operand)) (ho : o.op = .buildSlice t len parts)
    (cells : Array Value) (ie : TypeInfo) (z : Value) (hu : Tryd.prog.underlying t = some (.slice e)) (hie : Tryd.prog.info? e = some ie) (hz : ie.zero = some z) (hsmall : ¬ len * ie.size > 2 ^ 24) (hpos : ¬ len * ie.size = 0)
    (hf : Instr.fill (fun i => some (i * ie.size, ie.size)) ((Array.range (len * ie.size)).map (z.cells[· % z.cells.size]!)) (parts.map fun (i, x) => (i, a.eval x)).toList = some cells)
    (h : K (a.put o.dst (.slice (some ⟨w.heap.size, 0, none⟩) len len)) (w.alloc (.cells cells e))) : if Region.wanted o (yielded ops a.tmps) = true then Oper.wp Tryd.prog o a w K Q else E := by
  have hw : Region.wanted o (yielded ops a.tmps) = true := by simp [Region.wanted, hgd]
  rw [if_pos hw]
  exact wp_buildSlice t e len parts ho cells ie z hu hie hz hsmall hpos hf h
theorem bytes_info : (Tryd.prog.info? 24).map (fun i => (i.zero, i.size, i.bytes)) = some (some (.slice none 0 0), 1, 24) := by kernel_rfl
theorem und_rows : Tryd.prog.underlying 59 = some (.slice 24) := Tryd.underlying59
theorem or64_40 (k : Nat) (h : k ≤ 15) : bits .or .i64 64 (k : Int) = 64 + (k : Int) := by
  match k, h with
  | 0, _ | 1, _ | 2, _ | 3, _ | 4, _ | 5, _ | 6, _ | 7, _ | 8, _ | 9, _ | 10, _ | 11, _ | 12, _ | 13, _ | 14, _ | 15, _ => rfl
theorem or_14 (k : Nat) (h : k < 16384) : 16384 + k = 16384 ||| k := by
  have := Nat.two_pow_add_eq_or_of_lt (i := 14) (b := k) h 1
  simpa using this
theorem or_13 (k : Nat) (h : k < 8192) : 8192 + k = 8192 ||| k := by
  have := Nat.two_pow_add_eq_or_of_lt (i := 13) (b := k) h 1
  simpa using this
theorem or_133 (k : Nat) (h : k < 8192) : 24576 + k = 24576 ||| k := by
  have := Nat.two_pow_add_eq_or_of_lt (i := 13) (b := k) h 3
  simpa using this
theorem or_whole (k : Nat) (h : k < 16384) : bits .or .i64 (k : Int) 16384 = (k : Int) + 16384 := by
  have h1 := or64 k 16384 (by omega) (by omega)
  have h2 : k ||| 16384 = k + 16384 := by
    have := or_14 k h
    rw [Nat.or_comm]
    omega
  rw [show ((16384 : Nat) : Int) = 16384 from rfl] at h1
  rw [h1, h2]
  omega
theorem or_more (k : Nat) (h : k < 8192 ∨ (16384 ≤ k ∧ k < 24576)) : bits .or .i64 (k : Int) 8192 = (k : Int) + 8192 := by
  have h1 := or64 k 8192 (by omega) (by omega)
  have h2 : k ||| 8192 = k + 8192 := by
    rcases h with h | ⟨h, h'⟩
    · have := or_13 k h
      rw [Nat.or_comm]
      omega
    · obtain ⟨j, rfl⟩ : ∃ j, k = 16384 + j := ⟨k - 16384, by omega⟩
      have c := or_133 j (by omega)
      rw [or_14 j (by omega), Nat.or_assoc, Nat.or_comm j 8192, ← Nat.or_assoc, show (16384 ||| 8192 : Nat) = 24576 from rfl, ← c, ← or_14 j (by omega)]
      omega
  rw [show ((8192 : Nat) : Int) = 8192 from rfl] at h1
  rw [h1, h2]
  omega
set_option maxRecDepth 100000 in
set_option maxHeartbeats 20000000 in
theorem ienc_ok (p : PK) (o b : List UInt8) (v : Value) (w : World) (hok : p.Ok) (hop : Rd w p.op o) (hoo : okO o = true) (h40 : o.length ≤ 40) (h4 : o.length % 4 = 0) (hr : Rd w v b) (hl : 20 + o.length + b.length ≤ 65535) :
    Calls Tryd.prog 10 #[p.v, v] w (CEnd w (ihL p o (20 + o.length + b.length) (ihS p o (20 + o.length + b.length)) ++ b) 0) := by
  obtain ⟨ps, pd, ppr, ptl, pid, pts, wh, mo, pfo, pop⟩ := p
  dsimp only at hop
  obtain ⟨k1, k2, k3, k4, k5, k6⟩ := hok
  simp only [decide_eq_true_eq] at k1 k2 k3 k4 k5 k6
  obtain ⟨k10, k11⟩ := k1
  obtain ⟨k20, k21⟩ := k2
  obtain ⟨k30, k31⟩ := k3
  obtain ⟨k40, k41⟩ := k4
  obtain ⟨k50, k51⟩ := k5
  have g8 : (pfo % 8 != 0) = false := by simp [k6]
  obtain ⟨Ao, co, eo, hco, hco2⟩ := hop.form
  obtain ⟨A, c, rfl, hc1, hc2⟩ := hr.form
  obtain ⟨n, hn⟩ : ∃ n, n = o.length := ⟨_, rfl⟩
  obtain ⟨m, hm⟩ : ∃ m, m = b.length := ⟨_, rfl⟩
  rw [← hn] at eo hco h40 h4 hl ⊢
  rw [← hm] at hr hc1 hl ⊢
  have HO := Lib.hid eo
  have HN := Lib.hid (And.intro hn hm)
  have gn4 : ((n : Int) % 4 != 0) = false := by simp; omega
  clear eo hn hm k6
  go_enter Tryd.func10, Tryd.ntmps10
  go_upto_region 1 with (fail)
  refine boxP (p := ⟨ps, pd, ppr, ptl, pid, pts, wh, mo, pfo, pop⟩) (motive := fun X => Code.wp Tryd.prog _ _ _ X) ?_
  intro X hB hX hs
  have hopX := hop.mono hB
  have hrX := hr.mono hB
  obtain ⟨c8, c9, c10, c11, c12, c13, c14, c15⟩ := hs.pk
  dsimp only at c8 c9 c10 c11 c12 c13 c14 c15
  rw [HO.out] at c15 hopX
  go_wp2_with (go_at_call 19; refine (iwithin _ _ true (by simp; omega) _).mono ?_; rintro e w' ⟨rfl, rfl⟩)
  refine (iright _ o _ hopX).mono ?_
  rintro e w1 ⟨rfl, hb1⟩
  rw [hoo]
  have hs1 := hs.mono hb1
  have hop1 := hopX.mono hb1
  have hr1 := hrX.mono hb1
  have hB1 := below_step hB hB.size hb1
  clear c8 c9 c10 c11 c12 c13 c14 c15 hs hopX hrX hb1 hB hX
  obtain ⟨c8, c9, c10, c11, c12, c13, c14, c15⟩ := hs1.pk
  dsimp only at c8 c9 c10 c11 c12 c13 c14 c15
  rw [HO.out] at c15
  obtain ⟨pf, hpf⟩ : ∃ pf : Nat, pfo / 8 = pf := ⟨(pfo / 8).toNat, by omega⟩
  have hpf1 : pf < 8192 := by omega
  have HPF := Lib.hid hpf
  obtain ⟨q, hq⟩ : ∃ q : Nat, q = pf + (if wh then 16384 else 0) := ⟨_, rfl⟩
  obtain ⟨r, hrr⟩ : ∃ r : Nat, r = q + (if mo then 8192 else 0) := ⟨_, rfl⟩
  have hfg : (PK.fg ⟨ps, pd, ppr, ptl, pid, pts, wh, mo, pfo, pop⟩) = (r : Int) := by
    unfold PK.fg
    dsimp only
    rw [hrr, hq, hpf]
    cases wh <;> cases mo <;> simp
  have hq2 : q < 8192 ∨ (16384 ≤ q ∧ q < 24576) := by rw [hq]; cases wh <;> simp <;> omega
  have hr2 : r < 32768 := by rw [hrr, hq]; cases wh <;> cases mo <;> simp <;> omega
  have FG := Lib.hid hfg
  have HQ := Lib.hid hq
  have HR := Lib.hid hrr
  clear hq hrr hfg
  go_upto_if 80 with (fail)
  rw [hpf]
  clear hpf
  go_cut [7] from 81 to 82 (fun u wx => u = .int .i64 q ∧ w1 = wx)
  case first =>
    cases wh
    · have HQ2 := Lib.hid (show q = pf from HQ.out)
      go_wp2
      go_meet
      exact ⟨by rw [HQ2.out], rfl⟩
    · have HQ2 := Lib.hid (show q = pf + 16384 from HQ.out)
      have o1 := or_whole pf (by omega)
      go_wp2
      go_meet
      exact ⟨by rw [HQ2.out]; simp, rfl⟩
  case rest =>
  obtain ⟨rfl, rfl⟩ := hcut
  go_upto_if 84 with (fail)
  go_cut [7] from 85 to 86 (fun u wx => u = .int .i64 r ∧ w1 = wx)
  case first =>
    cases mo
    · have HR2 := Lib.hid (show r = q from HR.out)
      go_wp2
      go_meet
      exact ⟨by rw [HR2.out], rfl⟩
    · have HR2 := Lib.hid (show r = q + 8192 from HR.out)
      have o2 := or_more q hq2
      go_wp2
      go_meet
      exact ⟨by rw [HR2.out]; simp, rfl⟩
  case rest =>
  obtain ⟨rfl, rfl⟩ := hcut
  clear c12 c13 c14
  have hor := or64_40 ((20 + n) / 4) (by omega)
  have hor2 : bits .or .i64 64 ((20 + (n : Int)) / 4) = 64 + (20 + (n : Int)) / 4 := by
    have e : (((20 + n) / 4 : Nat) : Int) = (20 + (n : Int)) / 4 := by omega
    rw [e] at hor
    exact hor
  clear hor
  go_wp2_with fail
  have hh0 : Rd (w1.alloc (.cells #[.int .u8 (64 + (20 + (n : Int)) / 4), .int .u8 pts] 5)) (.slice (some ⟨w1.heap.size, 0, none⟩) 2 2) [by8 (64 + (20 + (n : Int)) / 4), by8 pts] := by
    refine rd_at w1 _ _ 2 _ ?_ rfl (by omega) rfl
    simp only [List.map_cons, List.map_nil, bv_by8]
    rw [Int.emod_eq_of_lt (show (0 : Int) ≤ 64 + (20 + (n : Int)) / 4 by omega) (by omega), Int.emod_eq_of_lt k20 (by omega)]
  refine (put16 _ _ _ _ hh0 (by simp)).mono ?_
  rintro e w2 ⟨v2, rfl, ho2, hb2⟩
  have hB12 := below_step (below_alloc w1 (.cells #[.int .u8 (64 + (20 + (n : Int)) / 4), .int .u8 pts] 5)) (by simp) hb2
  have hs2 := hs1.mono hB12
  have c10' := hs2.pk.2.2.1
  dsimp only at c10'
  clear hh0 hb2 c8 c9 c10 c11 hor2
  go_wp2_with fail
  refine (put16 _ _ _ _ ho2.rd (by simp [p16_len])).mono ?_
  rintro e w3 ⟨v3, rfl, ho3, hb3⟩
  have hB13 := below_step hB12 hB12.size hb3
  clear hs2 c10' ho2
  go_wp2_with fail
  refine (put16 _ _ _ _ ho3.rd (by simp [p16_len])).mono ?_
  rintro e w4 ⟨v4, rfl, ho4, hb4⟩
  have hB14 := below_step hB13 hB13.size hb4
  have hB4 := below_step hB1 hB1.size hB14
  have hs4 := hs1.mono hB14
  have hop4 := hop1.mono hB14
  have hr4 := hr1.mono hB14
  obtain ⟨A4, c4, rfl, _, _⟩ := ho4.rd.form
  have hl4 : ([by8 (64 + (20 + (n : Int)) / 4), by8 pts] ++ p16 (20 + ↑n + ↑m) ++ p16 pid ++ p16 ↑r).length = 8 := rfl
  rw [hl4] at ho4 ⊢
  obtain ⟨H8, hH8⟩ : ∃ H8, H8 = [by8 (64 + (20 + (n : Int)) / 4), by8 pts] ++ p16 (20 + ↑n + ↑m) ++ p16 pid ++ p16 ↑r := ⟨_, rfl⟩
  rw [← hH8] at ho4 hl4
  have HH8 := Lib.hid (And.intro hH8 hl4)
  obtain ⟨d8, d9, -, -, -, -, -, d15⟩ := hs4.pk
  dsimp only at d8 d9 d15
  rw [HO.out] at d15
  have hwt : ptl % 256 = ptl := by omega
  have hwp : ppr % 256 = ppr := by omega
  obtain ⟨ib, hib, hiz, hi1, hi2⟩ := info_parts byte_info
  obtain ⟨ir, hir, hirz, hir1, hir2⟩ := info_parts bytes_info
  have IB := Lib.hid (And.intro hib (And.intro hiz hi1))
  have IR := Lib.hid (And.intro hir (And.intro hirz hir1))
  clear hH8 hl4 ho3 hb3 hb4 hB12 hB13 hB14 hs1 hop1 hr1 hB1 hib hiz hi1 hi2 hir hirz hir1 hir2 c15
  go_upto_region 15 with (fail)
  rename_i K15 hK15
  have hS0 : (fun w' : World => w'.cell? ⟨w.heap.size, 8, none⟩ = some (.int .i64 ppr) ∧ w'.cell? ⟨w.heap.size, 9, none⟩ = some (.int .i64 ptl) ∧ w'.cell? ⟨w.heap.size, 15, none⟩ = some (.slice Ao n co)) w4.drew := ⟨d8, d9, d15⟩
  refine wp_region_any (by kernel_rfl) (wpAny_of_G (n := 16) (S := fun w' => w'.cell? ⟨w.heap.size, 8, none⟩ = some (.int .i64 ppr) ∧ w'.cell? ⟨w.heap.size, 9, none⟩ = some (.int .i64 ptl) ∧ w'.cell? ⟨w.heap.size, 15, none⟩ = some (.slice Ao n co)) _ _ _ _ ?_)
  refine G.pure' (i := 0) (v := .slice A4 8 c4) rfl (by kernel_rfl) (fun _ _ _ h => h) (.inl ⟨rfl, fun w' _ => ?_⟩) (fun _ => hS0) ?_
  · simp [execOp, Act.eval, go_sem]
  simp only [Act.put, List.getElem_toArray, List.getElem_cons_zero, List.setIfInBounds_toArray, List.set_cons_zero, List.set_cons_succ]
  refine G.pure' (i := 1) (v := .pointer (some ⟨w.heap.size, 9, none⟩)) rfl (by kernel_rfl) (fun _ _ _ h => h) (.inl ⟨rfl, fun w' _ => ?_⟩) (fun _ => hS0) ?_
  · simp [execOp, Act.eval, go_sem]
  simp only [Act.put, List.getElem_toArray, List.getElem_cons_zero, List.getElem_cons_succ, List.setIfInBounds_toArray, List.set_cons_zero, List.set_cons_succ]
  refine G.load (i := 2) (v := .int .i64 ptl) rfl (by kernel_rfl) (fun _ _ _ h => h) (.inl ⟨rfl, fun w' hS => ?_⟩) (hS0) ?_
  · simp [execOp, Act.eval, hS, go_sem]
  simp only [Act.put, List.getElem_toArray, List.getElem_cons_zero, List.getElem_cons_succ, List.setIfInBounds_toArray, List.set_cons_zero, List.set_cons_succ]
  refine G.pure' (i := 3) (v := .int .u8 ptl) rfl (by kernel_rfl) (fun _ _ _ h => h) (.inl ⟨rfl, fun w' _ => ?_⟩) (fun _ => hS0) ?_
  · simp [execOp, Act.eval, go_sem, IntKind.wrap_u8, hwt]
  simp only [Act.put, List.getElem_toArray, List.getElem_cons_zero, List.getElem_cons_succ, List.setIfInBounds_toArray, List.set_cons_zero, List.set_cons_succ]
  refine G.pure' (i := 4) (v := .pointer (some ⟨w.heap.size, 8, none⟩)) rfl (by kernel_rfl) (fun _ _ _ h => h) (.inl ⟨rfl, fun w' _ => ?_⟩) (fun _ => hS0) ?_
  · simp [execOp, Act.eval, go_sem]
  simp only [Act.put, List.getElem_toArray, List.getElem_cons_zero, List.getElem_cons_succ, List.setIfInBounds_toArray, List.set_cons_zero, List.set_cons_succ]
  refine G.load (i := 5) (v := .int .i64 ppr) rfl (by kernel_rfl) (fun _ _ _ h => h) (.inl ⟨rfl, fun w' hS => ?_⟩) (hS0) ?_
  · simp [execOp, Act.eval, hS, go_sem]
  simp only [Act.put, List.getElem_toArray, List.getElem_cons_zero, List.getElem_cons_succ, List.setIfInBounds_toArray, List.set_cons_zero, List.set_cons_succ]
  refine G.pure' (i := 6) (v := .int .u8 ppr) rfl (by kernel_rfl) (fun _ _ _ h => h) (.inl ⟨rfl, fun w' _ => ?_⟩) (fun _ => hS0) ?_
  · simp [execOp, Act.eval, go_sem, IntKind.wrap_u8, hwp]
  simp only [Act.put, List.getElem_toArray, List.getElem_cons_zero, List.getElem_cons_succ, List.setIfInBounds_toArray, List.set_cons_zero, List.set_cons_succ]
  refine G.pure' (i := 8) (v := .pointer (some ⟨w.heap.size, 0, none⟩)) rfl (by kernel_rfl) (fun _ _ _ h => h) (.inl ⟨rfl, fun w' _ => ?_⟩) (fun _ => hS0) ?_
  · simp [execOp, Act.eval, go_sem]
  simp only [Act.put, List.getElem_toArray, List.getElem_cons_zero, List.getElem_cons_succ, List.setIfInBounds_toArray, List.set_cons_zero, List.set_cons_succ]
  refine G.pure' (i := 9) (v := .slice (some ⟨w.heap.size, 0, none⟩) 4 4) rfl (by kernel_rfl) (fun _ _ _ h => h) (.inl ⟨rfl, fun w' _ => ?_⟩) (fun _ => hS0) ?_
  · simp [execOp, Act.eval, go_sem]
  simp only [Act.put, List.getElem_toArray, List.getElem_cons_zero, List.getElem_cons_succ, List.setIfInBounds_toArray, List.set_cons_zero, List.set_cons_succ]
  refine G.pure' (i := 10) (v := .pointer (some ⟨w.heap.size, 4, none⟩)) rfl (by kernel_rfl) (fun _ _ _ h => h) (.inl ⟨rfl, fun w' _ => ?_⟩) (fun _ => hS0) ?_
  · simp [execOp, Act.eval, go_sem]
  simp only [Act.put, List.getElem_toArray, List.getElem_cons_zero, List.getElem_cons_succ, List.setIfInBounds_toArray, List.set_cons_zero, List.set_cons_succ]
  refine G.pure' (i := 11) (v := .slice (some ⟨w.heap.size, 4, none⟩) 4 4) rfl (by kernel_rfl) (fun _ _ _ h => h) (.inl ⟨rfl, fun w' _ => ?_⟩) (fun _ => hS0) ?_
  · simp [execOp, Act.eval, go_sem]
  simp only [Act.put, List.getElem_toArray, List.getElem_cons_zero, List.getElem_cons_succ, List.setIfInBounds_toArray, List.set_cons_zero, List.set_cons_succ]
  refine G.pure' (i := 12) (v := .pointer (some ⟨w.heap.size, 15, none⟩)) rfl (by kernel_rfl) (fun _ _ _ h => h) (.inl ⟨rfl, fun w' _ => ?_⟩) (fun _ => hS0) ?_
  · simp [execOp, Act.eval, go_sem]
  simp only [Act.put, List.getElem_toArray, List.getElem_cons_zero, List.getElem_cons_succ, List.setIfInBounds_toArray, List.set_cons_zero, List.set_cons_succ]
  refine G.load (i := 13) (v := .slice Ao n co) rfl (by kernel_rfl) (fun _ _ _ h => h) (.inl ⟨rfl, fun w' hS => ?_⟩) (hS0) ?_
  · simp [execOp, Act.eval, hS, go_sem]
  simp only [Act.put, List.getElem_toArray, List.getElem_cons_zero, List.getElem_cons_succ, List.setIfInBounds_toArray, List.set_cons_zero, List.set_cons_succ]
  have hs5 : Blk (w4.drew.alloc (.cells #[.int .u8 ptl, .int .u8 ppr, .int .u8 0, .int .u8 0] 5)) w.heap.size 26 _ := hs4.drw.alloc _
  have hS1 : (fun w' : World => w'.cell? ⟨w.heap.size, 8, none⟩ = some (.int .i64 ppr) ∧ w'.cell? ⟨w.heap.size, 9, none⟩ = some (.int .i64 ptl) ∧ w'.cell? ⟨w.heap.size, 15, none⟩ = some (.slice Ao n co)) (w4.drew.alloc (.cells #[.int .u8 ptl, .int .u8 ppr, .int .u8 0, .int .u8 0] 5)) := ⟨hs5.pk.1, hs5.pk.2.1, hs5.pk.2.2.2.2.2.2.2.trans (by dsimp only; rw [HO.out])⟩
  refine G.only' (i := 7) ?r7 rfl ?o7
  case r7 => kernel_rfl
  intro K hK
  refine step_build rfl 24 5 4 #[(0, .tmp 109), (1, .tmp 112), (2, .const (.int .u8 0)), (3, .const (.int .u8 0))] rfl #[.int .u8 ptl, .int .u8 ppr, .int .u8 0, .int .u8 0] ib _ und_bytes IB.out.1 IB.out.2.1 (by rw [IB.out.2.2]; decide) (by rw [IB.out.2.2]; decide) ?hf4 ?_
  case hf4 => (rw [IB.out.2.2]; simp [Act.eval]; kernel_rfl)
  refine hK _ _ (fun _ => hS1) ?_
  clear hK K
  simp only [Act.put, List.getElem_toArray, List.getElem_cons_zero, List.getElem_cons_succ]
  have hs6 : Blk ((w4.drew.alloc (.cells #[.int .u8 ptl, .int .u8 ppr, .int .u8 0, .int .u8 0] 5)).alloc (.cells #[.slice A4 8 c4, .slice (some ⟨w4.heap.size, 0, none⟩) 4 4, .slice (some ⟨w.heap.size, 0, none⟩) 4 4, .slice (some ⟨w.heap.size, 4, none⟩) 4 4, .slice Ao n co] 24)) w.heap.size 26 _ := hs5.alloc _
  have hS2 : (fun w' : World => w'.cell? ⟨w.heap.size, 8, none⟩ = some (.int .i64 ppr) ∧ w'.cell? ⟨w.heap.size, 9, none⟩ = some (.int .i64 ptl) ∧ w'.cell? ⟨w.heap.size, 15, none⟩ = some (.slice Ao n co)) ((w4.drew.alloc (.cells #[.int .u8 ptl, .int .u8 ppr, .int .u8 0, .int .u8 0] 5)).alloc (.cells #[.slice A4 8 c4, .slice (some ⟨w4.heap.size, 0, none⟩) 4 4, .slice (some ⟨w.heap.size, 0, none⟩) 4 4, .slice (some ⟨w.heap.size, 4, none⟩) 4 4, .slice Ao n co] 24)) := ⟨hs6.pk.1, hs6.pk.2.1, hs6.pk.2.2.2.2.2.2.2.trans (by dsimp only; rw [HO.out])⟩
  have hB45 := boxes_below w4.drew (.cells #[.int .u8 ptl, .int .u8 ppr, .int .u8 0, .int .u8 0] 5) (.cells #[.slice A4 8 c4, .slice (some ⟨w4.heap.size, 0, none⟩) 4 4, .slice (some ⟨w.heap.size, 0, none⟩) 4 4, .slice (some ⟨w.heap.size, 4, none⟩) 4 4, .slice Ao n co] 24)
  have hls : RdL ((w4.drew.alloc (.cells #[.int .u8 ptl, .int .u8 ppr, .int .u8 0, .int .u8 0] 5)).alloc (.cells #[.slice A4 8 c4, .slice (some ⟨w4.heap.size, 0, none⟩) 4 4, .slice (some ⟨w.heap.size, 0, none⟩) 4 4, .slice (some ⟨w.heap.size, 4, none⟩) 4 4, .slice Ao n co] 24)) (.slice (some ⟨(w4.drew.alloc (.cells #[.int .u8 ptl, .int .u8 ppr, .int .u8 0, .int .u8 0] 5)).heap.size, 0, none⟩) 5 5) [H8, [by8 ptl, by8 ppr, 0, 0], ps.l, pd.l, o] := by
    have hz := below_alloc w4.drew (.cells #[.int .u8 ptl, .int .u8 ppr, .int .u8 0, .int .u8 0] 5)
    refine rdL_new _ _ _ _ 5 _ rfl rfl (by omega) rfl ?_
    intro i h h'
    match i, h' with
    | 0, _ => exact ho4.rd.drew.mono hz
    | 1, _ =>
      refine rd_at w4.drew _ _ 4 _ ?_ rfl (by omega) rfl
      show _ = [by8 ptl, by8 ppr, 0, 0].map bv
      simp only [List.map_cons, List.map_nil, bv_by8]
      rw [hwt, hwp]
      rfl
    | 2, _ => exact hs5.pkS
    | 3, _ => exact hs5.pkD
    | 4, _ => exact hop4.drew.mono hz
  have hflat : [H8, [by8 ptl, by8 ppr, 0, 0], ps.l, pd.l, o].flatten = ihL ⟨ps, pd, ppr, ptl, pid, pts, wh, mo, pfo, pop⟩ o (20 + n + m) 0 := by
    rw [HH8.out.1]
    unfold ihL ihA
    rw [FG.out, ← HN.out.1]
    simp [p16, IP.l]
    decide
  clear hS0
  refine G.only' (i := 14) ?r14 rfl ?o14
  case r14 => kernel_rfl
  intro K hK
  refine step_build rfl 59 24 5 #[(0, .tmp 106), (1, .tmp 113), (2, .tmp 115), (3, .tmp 117), (4, .tmp 119)] rfl #[.slice A4 8 c4, .slice (some ⟨w4.heap.size, 0, none⟩) 4 4, .slice (some ⟨w.heap.size, 0, none⟩) 4 4, .slice (some ⟨w.heap.size, 4, none⟩) 4 4, .slice Ao n co] ir _ und_rows IR.out.1 IR.out.2.1 (by rw [IR.out.2.2]; decide) (by rw [IR.out.2.2]; decide) ?hf5 ?_
  case hf5 => (rw [IR.out.2.2]; simp [Act.eval]; kernel_rfl)
  refine hK _ _ (fun _ => hS2) ?_
  clear hK K
  simp only [Act.put, List.getElem_toArray, List.getElem_cons_zero, List.getElem_cons_succ]
  refine G.only' (i := 15) ?r15 rfl ?o15
  case r15 => kernel_rfl
  intro K hK
  refine step_call rfl rfl (enters_of Tryd.func22 (by kernel_rfl) rfl) (join _ _ _ hls (by rw [hflat, ihL_len, ← HN.out.1]; omega)) rfl ?_
  rintro e w5 ⟨v5, rfl, ho5, hb5⟩
  have hS3 := hs6.mono hb5
  refine ⟨_, rfl, hK _ _ (fun _ => ⟨hS3.pk.1, hS3.pk.2.1, hS3.pk.2.2.2.2.2.2.2.trans (by dsimp only; rw [HO.out])⟩) ?_⟩
  clear hK K
  simp only [Act.put, List.getElem_toArray, List.getElem_cons_zero, List.getElem_cons_succ, List.setIfInBounds_toArray, List.set_cons_zero, List.set_cons_succ]
  refine G.lastPure (i := 16) (v := v5) (by kernel_rfl) (by kernel_rfl) rfl (.inl ⟨rfl, fun w' _ => ?_⟩) (fun e => Bool.noConfusion (show true = false from e)) ?_
  · simp [execOp, Act.eval, go_sem]
  simp only [Act.put, List.getElem_toArray, List.getElem_cons_zero, List.getElem_cons_succ, List.setIfInBounds_toArray, List.set_cons_zero, List.set_cons_succ]
  have ho5' : Ow w5 (w4.heap.size + 2) v5 (ihL ⟨ps, pd, ppr, ptl, pid, pts, wh, mo, pfo, pop⟩ o (20 + n + m) 0) := by
    rw [hflat] at ho5
    exact ho5.less (by simp)
  have hw45 : Below w4.heap.size w4 w5 := ((Below.refl w4.heap.size w4).drew.trans (hB45)).trans (hb5.mono (by simp; omega))
  have hB5 := below_step hB4 hB4.size hw45
  have hr5 := hr4.mono hw45
  have z5 := hw45.size
  have z4 := hB4.size
  clear hs4 hop4 hr4 hs5 hs6 hS1 hS2 hS3 hls hflat hB45 ho5 hb5 ho4 hB4 d8 d9 d15 hwt hwp
  simp only [Exit.then]
  refine hK15 _ _ ?_
  clear hK15 K15
  have hlen := ihL_len ⟨ps, pd, ppr, ptl, pid, pts, wh, mo, pfo, pop⟩ o (20 + n + m) 0
  have hS : ihS ⟨ps, pd, ppr, ptl, pid, pts, wh, mo, pfo, pop⟩ o (20 + n + m) = 65535 - sumw (ihL ⟨ps, pd, ppr, ptl, pid, pts, wh, mo, pfo, pop⟩ o (20 + n + m) 0) 0 := rfl
  have hspl := ihL_splice ⟨ps, pd, ppr, ptl, pid, pts, wh, mo, pfo, pop⟩ o (20 + n + m)
  have hSb := ihS_bd ⟨ps, pd, ppr, ptl, pid, pts, wh, mo, pfo, pop⟩ o (20 + n + m)
  obtain ⟨L0, hL0⟩ : ∃ L0, L0 = ihL ⟨ps, pd, ppr, ptl, pid, pts, wh, mo, pfo, pop⟩ o (20 + n + m) 0 := ⟨_, rfl⟩
  obtain ⟨S, hSS⟩ : ∃ S, S = ihS ⟨ps, pd, ppr, ptl, pid, pts, wh, mo, pfo, pop⟩ o (20 + n + m) := ⟨_, rfl⟩
  rw [← hL0] at ho5' hlen hS hspl
  rw [← hSS] at hS hSb ⊢
  rw [← HN.out.1] at hlen
  obtain ⟨N, hNN⟩ : ∃ N, N = L0.length := ⟨_, rfl⟩
  obtain ⟨Gb, cap, rfl, hG1, hG2, hG3, hG4⟩ := ow_form ho5' (by omega)
  rw [← hNN] at ho5' hG3 hlen ⊢
  have HSP := Lib.hid (And.intro hspl (And.intro hS hNN))
  have HLN := Lib.hid hlen
  have h10 : (10 : Int) ≤ (N : Int) := by omega
  have h20 : 20 ≤ N := by omega
  have h60 : N ≤ 60 := by omega
  have hcap : ¬ cap = 10 := by omega
  clear hL0 hSS hspl hS hlen
  have hls1 : RdL (w5.drew.alloc (.cells #[.slice (some ⟨Gb, 0, none⟩) N cap] 24)) (.slice (some ⟨w5.drew.heap.size, 0, none⟩) 1 1) [L0] := by
    refine rdL_new _ _ _ _ 1 _ rfl rfl (by omega) rfl ?_
    intro i h h'
    match i, h' with
    | 0, _ => exact ho5'.rd.drew
  have hsum : Calls Tryd.prog 23 #[.slice (some ⟨w5.drew.heap.size, 0, none⟩) 1 1] (w5.drew.alloc (.cells #[.slice (some ⟨Gb, 0, none⟩) N cap] 24)) fun e W' => e = .returned (.int .i64 S) ∧ Below (w5.drew.alloc (.cells #[.slice (some ⟨Gb, 0, none⟩) N cap] 24)).heap.size (w5.drew.alloc (.cells #[.slice (some ⟨Gb, 0, none⟩) N cap] 24)) W' := by
    have h := wsum _ [L0] (by simp; rw [← HSP.out.2.2]; omega) _ hls1
    rwa [show 65535 - sumw [L0].flatten 0 = S by rw [HSP.out.2.1]; simp] at h
  have hBa := below_alloc w5.drew (.cells #[.slice (some ⟨Gb, 0, none⟩) N cap] 24)
  have ho5a := ho5'.drew.mono hBa
  clear hNN
  go_upto_region 16 with (fail)
  rename_i K16 hK16
  refine wp_region_any (by kernel_rfl) (wpAny_of_G (n := 6) (S := fun _ => True) _ _ _ _ ?_)
  refine G.pure' (i := 0) (v := .slice (some ⟨Gb, 0, none⟩) N cap) rfl (by kernel_rfl) (fun _ _ _ h => h) (.inl ⟨rfl, fun w' _ => ?_⟩) (fun _ => trivial) ?_
  · simp [execOp, Act.eval, go_sem]
  simp only [Act.put, List.getElem_toArray, List.getElem_cons_zero, List.setIfInBounds_toArray, List.set_cons_zero, List.set_cons_succ]
  refine G.pure' (i := 1) (v := .slice (some ⟨Gb, 10, none⟩) (N - 10) (cap - 10)) rfl (by kernel_rfl) (fun _ _ _ h => h) (.inl ⟨rfl, fun w' _ => ?_⟩) (fun _ => trivial) ?_
  · simp [execOp, Act.eval, go_sem, hcap, h10]
  simp only [Act.put, List.getElem_toArray, List.getElem_cons_zero, List.getElem_cons_succ, List.setIfInBounds_toArray, List.set_cons_zero, List.set_cons_succ]
  refine G.pure' (i := 2) (v := .slice (some ⟨Gb, 0, none⟩) N cap) rfl (by kernel_rfl) (fun _ _ _ h => h) (.inl ⟨rfl, fun w' _ => ?_⟩) (fun _ => trivial) ?_
  · simp [execOp, Act.eval, go_sem]
  simp only [Act.put, List.getElem_toArray, List.getElem_cons_zero, List.getElem_cons_succ, List.setIfInBounds_toArray, List.set_cons_zero, List.set_cons_succ]
  refine G.only' (i := 3) ?r3z rfl ?o3z
  case r3z => kernel_rfl
  intro K hK
  refine step_build rfl 59 24 1 #[(0, .tmp 124)] rfl #[.slice (some ⟨Gb, 0, none⟩) N cap] ir _ und_rows IR.out.1 IR.out.2.1 (by rw [IR.out.2.2]; decide) (by rw [IR.out.2.2]; decide) ?hf1 ?_
  case hf1 => (rw [IR.out.2.2]; simp [Act.eval]; kernel_rfl)
  refine hK _ _ (fun _ => trivial) ?_
  clear hK K
  simp only [Act.put, List.getElem_toArray, List.getElem_cons_zero, List.getElem_cons_succ]
  refine G.only' (i := 4) ?r4z rfl ?o4z
  case r4z => kernel_rfl
  intro K hK
  refine step_call rfl rfl (enters_of Tryd.func23 (by kernel_rfl) rfl) hsum rfl ?_
  rintro e w6 ⟨rfl, hb6⟩
  refine ⟨_, rfl, hK _ _ (fun _ => trivial) ?_⟩
  clear hK K
  simp only [Act.put, List.getElem_toArray, List.getElem_cons_zero, List.getElem_cons_succ, List.setIfInBounds_toArray, List.set_cons_zero, List.set_cons_succ]
  refine G.only' (i := 5) ?r5z rfl ?o5z
  case r5z => kernel_rfl
  intro K hK
  refine step_call rfl rfl (enters_of Tryd.func21 (by kernel_rfl) rfl) (put16 _ [] S _ (Rd.nil _) (by simp)) rfl ?_
  rintro e w7 ⟨v7, rfl, ho7, hb7⟩
  refine ⟨_, rfl, hK _ _ (fun _ => trivial) ?_⟩
  clear hK K
  simp only [Act.put, List.getElem_toArray, List.getElem_cons_zero, List.getElem_cons_succ, List.setIfInBounds_toArray, List.set_cons_zero, List.set_cons_succ]
  refine G.only' (i := 6) ?r6z rfl ?o6z
  case r6z => kernel_rfl
  intro K hK
  refine step_copyB rfl (.tmp 123) (.tmp 127) rfl (ho5a.mono (below_step hb6 hb6.size hb7)) ho7.rd rfl rfl (by rw [List.nil_append, p16_len, ← HSP.out.2.2]; omega) (by rw [List.nil_append, p16_len]; omega) ?_
  intro w8 ho8 hb8
  refine hK _ _ (fun e => Bool.noConfusion (show true = false from e)) (G.done (by kernel_rfl) ?_)
  clear hK K
  simp only [Act.put, List.getElem_toArray, List.getElem_cons_zero, List.getElem_cons_succ]
  simp only [List.setIfInBounds_toArray, List.set_cons_zero, List.set_cons_succ, Exit.then]
  refine hK16 _ _ ?_
  clear hK16 K16
  rw [List.nil_append, HSP.out.1 S] at ho8
  have hB67 := below_step (below_step hBa hBa.size hb6) (by have := hb6.size; simp at this ⊢; omega) hb7
  have hB8 : Below w.heap.size w w8 := (hB5.trans ((Below.refl w5.heap.size w5).drew.trans hB67 |>.mono hB5.size)).trans (hb8.mono (by omega))
  have hr8 := hr.mono hB8
  have hlen8 := ihL_len ⟨ps, pd, ppr, ptl, pid, pts, wh, mo, pfo, pop⟩ o (20 + n + m) S
  have z8 := hB8.size
  have hbn := HN.out.2
  rw [← HN.out.1] at hlen8
  have hls2 : RdL (w8.alloc (.cells #[.slice (some ⟨Gb, 0, none⟩) N cap, .slice A m c] 24)) (.slice (some ⟨w8.heap.size, 0, none⟩) 2 2) [ihL ⟨ps, pd, ppr, ptl, pid, pts, wh, mo, pfo, pop⟩ o (20 + n + m) S, b] := by
    refine rdL_new _ _ _ _ 2 _ rfl rfl (by omega) rfl ?_
    intro i h h'
    match i, h' with
    | 0, _ => exact ho8.rd
    | 1, _ => exact hr8
  have HL8 := Lib.hid hlen8
  have HBN := Lib.hid hbn
  clear hlen8 hbn hB67 hBa hb8 hb7 hb6 ho7 ho5a ho5' hB5 hr5 hls1 hsum ho8
  go_wp2_with fail
  refine (join _ _ _ hls2 (by simp; rw [HL8.out, ← HBN.out]; omega)).mono ?_
  rintro e w9 ⟨v9, rfl, ho9, hb9⟩
  have hB9 := below_step (below_step hB8 hB8.size (below_alloc w8 (.cells #[.slice (some ⟨Gb, 0, none⟩) N cap, .slice A m c] 24))) (by simp; omega) hb9
  go_wp2
  go_ret2
  exact ⟨_, rfl, by have h := ho9.less (show w.heap.size ≤ _ by simp; omega); simpa using h, hB9⟩
end Go.Proofs.YtbhdojpgjmbogaaDoor
