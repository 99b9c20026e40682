/- tcp.read. -/
import Derived.Test.YtbhdojpgjmbogaaOpts
import Derived.Test.YtbhdojpgjmbogaaDrawn2
import Derived.Test.YtbhdojpgjmbogaaSpans
import Derived.Great.BuildSlice
import Derived.Test.YtbhdojpgjmbogaaTcp6
namespace Go.Proofs.Ytbhdojpgjmbogaa
open Go.RowKit Go.Shelf
attribute [local go_sem] Oper.semAt_some
/-- What options have said. -/
structure OSt where
  ms : Int
  sk : Bool
  got : List (Int × Int)
/-- An option that tells spans. -/
abbrev isGot (o : List UInt8) : Prop := (o.headD 0).toNat = 5 ∧ 2 < o.length ∧ o.length ≤ 26 ∧ o.length % 8 = 2
/-- The k-th span that an option tells. -/
def spanAt (o : List UInt8) (k : Nat) : Int × Int := (be ((o.drop (2 + 8 * k)).take 4), be ((o.drop (2 + 8 * k + 4)).take 4))
/-- Its first k spans. -/
def gotN (o : List UInt8) (k : Nat) : List (Int × Int) := (List.range k).map (spanAt o)
theorem gotN_succ (o : List UInt8) (k : Nat) : gotN o (k + 1) = gotN o k ++ [spanAt o k] := by simp [gotN, List.range_succ]
theorem gotN_len (o : List UInt8) (k : Nat) : (gotN o k).length = k := by simp [gotN]
/-- One option is read. -/
def optStep (syn : Bool) (st : OSt) (o : List UInt8) : OSt :=
  if (o.headD 0).toNat = 2 ∧ o.length = 4 ∧ syn = true then { st with ms := be ((o.drop 2).take 2) }
  else if (o.headD 0).toNat = 4 ∧ o.length = 2 ∧ syn = true then { st with sk := true }
  else if isGot o then { st with got := gotN o ((o.length - 2) / 8) }
  else st
/-- All are read; false: they are not right. -/
def rdAll (syn : Bool) : OSt → List (List UInt8) → Bool × OSt
  | st, [] => (true, st)
  | st, o :: os => if o = [] then (false, st) else rdAll syn (optStep syn st o) os
theorem rdAll_append (syn : Bool) : ∀ (os ps : List (List UInt8)) (st : OSt), rdAll syn st (os ++ ps) = if (rdAll syn st os).1 then rdAll syn (rdAll syn st os).2 ps else rdAll syn st os
  | [], ps, st => by simp [rdAll]
  | o :: os, ps, st => by
    by_cases h : o = []
    · simp [rdAll, h]
    · simp only [List.cons_append, rdAll, if_neg h]
      exact rdAll_append syn os ps _
theorem rdAll_stop {syn : Bool} {os ps : List (List UInt8)} {st : OSt} (hp : os <+: ps) (h : (rdAll syn st os).1 = false) : (rdAll syn st ps).1 = false := by
  obtain ⟨t, rfl⟩ := hp
  rw [rdAll_append, h]
  simpa using h
def SG.opt (s : SG) (st : OSt) (g : Value) : SG := { s with ms := st.ms, sk := st.sk, gt := g }
theorem Touch.own {S : Nat → Prop} {w0 W W' : World} {row : Option Nat} {B : Nat} (h : Touch S w0 W) (hB : w0.heap.size ≤ B) (hg : W.grownBy W' row) (hr : ∀ r, row = some r → B ≤ r) : Touch S w0 W' :=
  ⟨hg.os.trans h.os, hg.tape.trans h.tape, hg.output.trans h.output, Nat.le_trans h.size hg.size, fun k hk hs => (hg.block k (Nat.lt_of_lt_of_le hk h.size) (fun e => by have := hr k e.symm; omega)).trans (h.block k hk hs)⟩
theorem Blk.own {W W' : World} {k B : Nat} {t : TypeId} {cs : Array Value} {row : Option Nat} (h : Blk W k t cs) (hk : k < B) (hg : W.grownBy W' row) (hr : ∀ r, row = some r → B ≤ r) : Blk W' k t cs :=
  (hg.block k h.lt (fun e => by have := hr k e.symm; omega)).trans h
theorem results_cellB {fn : Func} {p : Tmp} (h : fn.results = #[.cell p 4]) (tmps : Array Value) {w : World} {g : Nat} {rb : Bool} (hp : tmps.getD p undef = .pointer (some ⟨g, 0, none⟩)) (hc : w.cell? ⟨g, 0, none⟩ = some (.bool rb)) :
    (results fn tmps).run Try.prog w = .ok (.bool rb) w := by
  rw [Array.getD_eq_getD_getElem?] at hp
  simp [results, h, hp, hc, go_sem]
/-- A row of spans abides the turn of a block that is no cells. -/
theorem OwS.owned {W W' : World} {B base : Nat} {g : Value} {E : List (Int × Int)} {row : Option Nat} (h : OwS W base g E) (hg : W.grownBy W' row) (hr : ∀ r, row = some r → B ≤ r ∧ ∃ o : Obj, W.heap[r]? = some o ∧ o.isCells = false) : OwS W' base g E :=
  h.same fun k hk => hg.block k (h.lt hk).2 fun e => by
    obtain ⟨_, o, ho, hc⟩ := hr k e.symm
    rcases h.2 with ⟨rfl, _⟩ | ⟨k', cap, cur, rfl, _, hh, _⟩
    · simp [Value.ownBlock] at hk
    · simp [Value.ownBlock] at hk
      subst hk
      rw [hh] at ho
      injection ho with ho
      rw [← ho] at hc
      simp [Obj.isCells] at hc
/-- Whose block it is: a row of spans has cells. -/
theorem OwS.cells_at {W : World} {base : Nat} {g : Value} {E : List (Int × Int)} (h : OwS W base g E) {k : Nat} {o : Obj} (hk : g.ownBlock = some k) (ho : W.heap[k]? = some o) : o.isCells = true := by
  rcases h.2 with ⟨rfl, _⟩ | ⟨k', cap, cur, rfl, _, hh, _⟩
  · simp [Value.ownBlock] at hk
  · simp [Value.ownBlock] at hk
    subst hk
    rw [hh] at ho
    injection ho with ho
    rw [← ho]
    rfl
/-- A row of spans that lies behind the boxes of a call. -/
def OwZ (w0 W : World) (g : Value) (E : List (Int × Int)) : Prop := OwS W (w0.heap.size + 4) g E ∧ w0.heap.size + 4 ≤ W.heap.size
/-- What holds between two options. -/
def RInv (w0 : World) (sp : Nat) (s : SG) (syn : Bool) (st0 : OSt) (pre : List Opt) (W : World) : Prop :=
  (∃ st g, rdAll syn st0 (pre.map Prod.snd) = (true, st) ∧ Blk W sp 67 (s.opt st g).cells ∧ OwZ w0 W g st.got) ∧ Blk W w0.heap.size 115 #[.pointer (some ⟨sp, 0, none⟩)] ∧ (∃ rb, Blk W (w0.heap.size + 1) 4 #[.bool rb]) ∧ Blk W (w0.heap.size + 1 + 1) 4 #[.bool syn] ∧ Touch (fun k => k = sp) w0 W
/-- What holds where it was found that they are not right. -/
def RInvX (w0 : World) (sp : Nat) (syn : Bool) (st0 : OSt) (c : Code) (pre : List Opt) (W : World) : Prop :=
  c = .ret ∧ (rdAll syn st0 (pre.map Prod.snd)).1 = false ∧ Blk W (w0.heap.size + 1) 4 #[.bool false] ∧ Touch (fun k => k = sp) w0 W
theorem RInv.from (w0 : World) (sp B : Nat) (s : SG) (syn : Bool) (st0 : OSt) (hsp : sp < w0.heap.size) (hB : w0.heap.size + 3 ≤ B) : OwnFrom B (RInv w0 sp s syn st0) := by
  rintro pre W W' row ⟨⟨st, g, h1, h2, h2'⟩, h3, ⟨rb, h4⟩, h5, h6⟩ hg hr
  have hr' := fun r e => (hr r e).1
  exact ⟨⟨st, g, h1, h2.own (by omega) hg hr', h2'.1.owned hg hr, Nat.le_trans h2'.2 hg.size⟩, h3.own (by omega) hg hr', ⟨rb, h4.own (by omega) hg hr'⟩, h5.own (by omega) hg hr', h6.own (by omega) hg hr'⟩
theorem RInvX.from (w0 : World) (sp B : Nat) (syn : Bool) (st0 : OSt) (c : Code) (hB : w0.heap.size + 3 ≤ B) : OwnFrom B (RInvX w0 sp syn st0 c) := by
  rintro pre W W' row ⟨h1, h2, h3, h4⟩ hg hr
  have hr' := fun r e => (hr r e).1
  exact ⟨h1, h2, h3.own (by omega) hg hr', h4.own (by omega) hg hr'⟩
theorem step_storeI {ops : Array Oper} {o : Oper} {a : Act} {w : World} {K : Act → World → Prop} {Q : Exit → Act → World → Prop} {E : Prop} (hgd : o.guard = none) (x y : Operand) (ho : o.op = .store 3 x y) {b off : Nat} {n : Int} {old : Value}
    (hx : a.eval x = .pointer (some ⟨b, off, none⟩)) (hy : a.eval y = .int .i64 n) (hc : w.cell? ⟨b, off, none⟩ = some old) (hf : w.frozen? ⟨b, off, none⟩ = false) (h : K (a.put o.dst undef) (w.setCell ⟨b, off, none⟩ (.int .i64 n))) :
    if Region.wanted o (yielded ops a.tmps) = true then Oper.wp Try.prog o a w K Q else E := by
  have hw : Region.wanted o (yielded ops a.tmps) = true := by simp [Region.wanted, hgd]
  rw [if_pos hw]
  have e : (Instr.storeAt 3 (.pointer (some ⟨b, off, none⟩)) (.int .i64 n)).run Try.prog w = .ok () (w.setCell ⟨b, off, none⟩ (.int .i64 n)) := by simp [hc, hf, go_sem]
  unfold Oper.wp execOp
  simp only [ho, hx, hy, Sem.run_bind, e, Result.andThen_ok, Sem.run_pure]
  exact h
/-- The last operation is a store of an int. -/
theorem G.lastStore {ops : Array Oper} {Q : Exit → Act → World → Prop} {S : World → Prop} {n k i : Nat} {o : Oper} {listed : Array Bool} {a : Act} {w : World} (hr : Region.ready .any ops listed = [i]) (hr2 : Region.ready .any ops (listed.setIfInBounds i true) = []) (hn : i = n) (ho : ops[i]? = some o)
    (hgd : o.guard = none) (x y : Operand) (hop : o.op = .store 3 x y) {b off : Nat} {m : Int} {old : Value}
    (hx : a.eval x = .pointer (some ⟨b, off, none⟩)) (hy : a.eval y = .int .i64 m) (hc : w.cell? ⟨b, off, none⟩ = some old) (hf : w.frozen? ⟨b, off, none⟩ = false) (h : Q .normal (a.put o.dst undef) (w.setCell ⟨b, off, none⟩ (.int .i64 m))) :
    wpAnyG Try.prog .any ops n Q S (k + 1) listed a w :=
  G.only hr ho fun _ hK => step_storeI hgd x y hop hx hy hc hf (hK _ _ (fun e => absurd hn e) (G.done hr2 h))
theorem rdAll_snoc {syn : Bool} {os : List (List UInt8)} {o : List UInt8} {st0 st : OSt} (h : rdAll syn st0 os = (true, st)) (ho : o ≠ []) : rdAll syn st0 (os ++ [o]) = (true, optStep syn st o) := by
  rw [rdAll_append, h]
  simp [rdAll, ho]
theorem step_appS {ops : Array Oper} {o : Oper} {a : Act} {w : World} {K : Act → World → Prop} {Q : Exit → Act → World → Prop} {E' : Prop} (hgd : o.guard = none) (s x : Operand)
    (ho : o.op = .call { callee := .builtin .append, args := #[s, x], argTypes := #[65, 65] })
    (base : Nat) {v u : Value} {E F : List (Int × Int)} (hown : OwS w base v E) (hr : RdS w u F) (hs : a.eval s = v) (hx : a.eval x = u)
    (hbytes : (E.length + F.length) * 8 ≤ 140737488355328) (hbase : base ≤ w.heap.size)
    (h : ∀ v' w', OwS w' base v' (E ++ F) → Below base w w' → Grew w w' v v' → K (a.put o.dst v') w') : if Region.wanted o (yielded ops a.tmps) = true then Oper.wp Try.prog o a w K Q else E' := by
  have hw : Region.wanted o (yielded ops a.tmps) = true := by simp [Region.wanted, hgd]
  rw [if_pos hw]
  exact wp_appS s x ho base hown hr hs hx hbytes hbase h
/-- A slice of one span is built. -/
theorem step_buildSp {ops : Array Oper} {o : Oper} {a : Act} {w : World} {K : Act → World → Prop} {Q : Exit → Act → World → Prop} {E : Prop} (hgd : o.guard = none) (x : Operand) (ho : o.op = .buildSlice 65 1 #[(0, x)]) {y z : Int}
    (hx : a.eval x = .agg #[.int .u32 y, .int .u32 z]) (h : K (a.put o.dst (.slice (some ⟨w.heap.size, 0, none⟩) 1 1)) (w.alloc (.cells #[.int .u32 y, .int .u32 z] 117))) :
    if Region.wanted o (yielded ops a.tmps) = true then Oper.wp Try.prog o a w K Q else E := by
  have hw : Region.wanted o (yielded ops a.tmps) = true := by simp [Region.wanted, hgd]
  rw [if_pos hw]
  obtain ⟨i, hi, hz, hz1, hz2⟩ := info_parts span_info
  refine wp_buildSlice 65 117 1 #[(0, x)] ho #[.int .u32 y, .int .u32 z] i _ Try.underlying65 hi hz (by rw [hz1]; decide) (by rw [hz1]; decide) ?_ h
  rw [hz1]
  simp only [List.map_toArray, List.map_cons, List.map_nil, hx]
  kernel_rfl
/-- A slice of spans is stored, at a step of a region that draws. -/
theorem step_storeSp {ops : Array Oper} {o : Oper} {a : Act} {w : World} {K : Act → World → Prop} {Q : Exit → Act → World → Prop} {E : Prop} (hgd : o.guard = none) (x y : Operand) (ho : o.op = .store 65 x y) {b off : Nat} {A : Option Addr} {n c : Nat} {old : Value}
    (hx : a.eval x = .pointer (some ⟨b, off, none⟩)) (hy : a.eval y = .slice A n c) (hc : w.cell? ⟨b, off, none⟩ = some old) (hf : w.frozen? ⟨b, off, none⟩ = false) (h : K (a.put o.dst undef) (w.setCell ⟨b, off, none⟩ (.slice A n c))) :
    if Region.wanted o (yielded ops a.tmps) = true then Oper.wp Try.prog o a w K Q else E := by
  have hw : Region.wanted o (yielded ops a.tmps) = true := by simp [Region.wanted, hgd]
  rw [if_pos hw]
  have e : (Instr.storeAt 65 (.pointer (some ⟨b, off, none⟩)) (.slice A n c)).run Try.prog w = .ok () (w.setCell ⟨b, off, none⟩ (.slice A n c)) := by simp [hc, hf, go_sem]
  unfold Oper.wp execOp
  simp only [ho, hx, hy, Sem.run_bind, e, Result.andThen_ok, Sem.run_pure]
  exact h
/-- What holds between two spans. -/
def GInv (w0 : World) (sp : Nat) (s : SG) (st : OSt) (o : List UInt8) (syn : Bool) (k : Nat) (W : World) : Prop :=
  ∃ g, Blk W sp 67 (s.opt { st with got := gotN o k } g).cells ∧ OwZ w0 W g (gotN o k) ∧ Blk W w0.heap.size 115 #[.pointer (some ⟨sp, 0, none⟩)] ∧ (∃ rb, Blk W (w0.heap.size + 1) 4 #[.bool rb]) ∧ Blk W (w0.heap.size + 1 + 1) 4 #[.bool syn] ∧ Touch (fun k => k = sp) w0 W
theorem rdAll_nil {syn : Bool} {os : List (List UInt8)} {st0 st : OSt} (h : rdAll syn st0 os = (true, st)) : (rdAll syn st0 (os ++ [[]])).1 = false := by
  rw [rdAll_append, h]
  simp [rdAll]
theorem RInv.next {w0 V : World} {sp : Nat} {s : SG} {syn : Bool} {st0 st : OSt} {gv : Value} {pre : List Opt} {x : Opt} (hst : rdAll syn st0 (pre.map Prod.snd) = (true, st)) (hx : x.2 ≠ []) (hss : optStep syn st x.2 = st)
    (h1 : Blk V sp 67 (s.opt st gv).cells) (h1' : OwZ w0 V gv st.got) (h2 : Blk V w0.heap.size 115 #[.pointer (some ⟨sp, 0, none⟩)]) (h3 : ∃ rb, Blk V (w0.heap.size + 1) 4 #[.bool rb]) (h4 : Blk V (w0.heap.size + 1 + 1) 4 #[.bool syn]) (h5 : Touch (fun k => k = sp) w0 V) :
    RInv w0 sp s syn st0 (pre ++ [x]) V := ⟨⟨st, gv, by rw [List.map_append, List.map_cons, List.map_nil, rdAll_snoc hst hx, hss], h1, h1'⟩, h2, h3, h4, h5⟩
set_option maxRecDepth 100000 in
set_option maxHeartbeats 20000000 in
theorem tread (sp : Nat) (s : SG) (v : Value) (b : List UInt8) (syn : Bool) (hsyn : s.fl / 2 % 2 = if syn then 1 else 0) (Wd w : World) (hsp : Wd.heap.size ≤ sp) (hs : Blk w sp 67 s.cells) (hv : Rd Wd v b)
    (hWd : Wd.heap.size ≤ w.heap.size) (hold : ∀ k, k < Wd.heap.size → w.heap[k]? = Wd.heap[k]?) (hgt : s.gt = noS) :
    Calls Try.prog 72 #[.pointer (some ⟨sp, 0, none⟩), v] w fun e w' => e = .returned (.bool (rdAll syn ⟨s.ms, s.sk, []⟩ (optsOf b)).1) ∧ Touch (fun k => k = sp) w w' ∧
      ((rdAll syn ⟨s.ms, s.sk, []⟩ (optsOf b)).1 = true → ∃ g, Blk w' sp 67 (s.opt (rdAll syn ⟨s.ms, s.sk, []⟩ (optsOf b)).2 g).cells ∧ OwS w' w.heap.size g (rdAll syn ⟨s.ms, s.sk, []⟩ (optsOf b)).2.got) := by
  obtain ⟨A, c, rfl, hc1, hc2⟩ := hv.form
  have a2 := and2 s.fl
  obtain ⟨y, hy⟩ : ∃ y, y = s.fl / 2 % 2 * 2 := ⟨_, rfl⟩
  rw [← hy] at a2
  have g2 : (y != 0) = syn := by rw [hy, hsyn]; cases syn <;> rfl
  clear hy hsyn
  have hlt := hs.lt
  obtain ⟨-, -, -, -, c4, -⟩ := hs.sg
  have HOLD := Lib.hid hold
  clear hold
  refine (callsIn_wide (n := 6)).1 ?_
  refine callsIn_of_wp_marks Try.func72 rfl trivial ?_ rfl
  simp only [Try.ntmps72, List.size_toArray, List.length_cons, List.length_nil, Nat.reduceAdd, Nat.reduceSub, Array.replicate_succ, Array.replicate_zero, List.push_toArray, List.append_toArray, List.nil_append, List.cons_append]
  gi_wp2_with fail
  refine ⟨trivial, ?_⟩
  refine (callsIn_wide.2 (topts _ _ _ _)).mono ?_
  rintro e w' ⟨rfl, rfl⟩
  gi_wp2_with fail
  have hb1 : Blk ((((w.alloc (.cells #[.pointer (some ⟨sp, 0, none⟩)] 115)).alloc (.cells #[.bool false] 4)).alloc (.cells #[.bool syn] 4)).alloc (.cells #[.slice A b.length c] 24)) w.heap.size 115 #[.pointer (some ⟨sp, 0, none⟩)] :=
    (((Blk.new w 115 #[.pointer (some ⟨sp, 0, none⟩)] _ rfl).alloc _).alloc _).alloc _
  have hb2 : Blk ((((w.alloc (.cells #[.pointer (some ⟨sp, 0, none⟩)] 115)).alloc (.cells #[.bool false] 4)).alloc (.cells #[.bool syn] 4)).alloc (.cells #[.slice A b.length c] 24)) (w.heap.size + 1) 4 #[.bool false] :=
    ((Blk.new _ 4 #[.bool false] _ (by simp)).alloc _).alloc _
  have hb3 : Blk ((((w.alloc (.cells #[.pointer (some ⟨sp, 0, none⟩)] 115)).alloc (.cells #[.bool false] 4)).alloc (.cells #[.bool syn] 4)).alloc (.cells #[.slice A b.length c] 24)) (w.heap.size + 1 + 1) 4 #[.bool syn] :=
    (Blk.new _ 4 #[.bool syn] _ (by simp)).alloc _
  have hb4 : Blk ((((w.alloc (.cells #[.pointer (some ⟨sp, 0, none⟩)] 115)).alloc (.cells #[.bool false] 4)).alloc (.cells #[.bool syn] 4)).alloc (.cells #[.slice A b.length c] 24)) (w.heap.size + 1 + 1 + 1) 24 #[.slice A b.length c] :=
    Blk.new _ 24 _ _ (by simp)
  have hBa : Below w.heap.size w ((((w.alloc (.cells #[.pointer (some ⟨sp, 0, none⟩)] 115)).alloc (.cells #[.bool false] 4)).alloc (.cells #[.bool syn] 4)).alloc (.cells #[.slice A b.length c] 24)) := ((((Below.refl w.heap.size w).alloc (Nat.le_refl _) _).alloc (by simp) _).alloc (by simp; omega) _).alloc (by simp; omega) _
  have hs4 := hs.mono hBa
  have hse : s.cells = (s.opt ⟨s.ms, s.sk, []⟩ noS).cells := by rw [← hgt]; rfl
  rw [hse] at hs4
  clear hse
  have z4 : ((((w.alloc (.cells #[.pointer (some ⟨sp, 0, none⟩)] 115)).alloc (.cells #[.bool false] 4)).alloc (.cells #[.bool syn] 4)).alloc (.cells #[.slice A b.length c] 24)).heap.size = w.heap.size + 4 := by simp
  obtain ⟨W4, hW4⟩ : ∃ W4, W4 = ((((w.alloc (.cells #[.pointer (some ⟨sp, 0, none⟩)] 115)).alloc (.cells #[.bool false] 4)).alloc (.cells #[.bool syn] 4)).alloc (.cells #[.slice A b.length c] 24)) := ⟨_, rfl⟩
  rw [← hW4] at hb1 hb2 hb3 hb4 hBa hs4 z4 ⊢
  clear hW4 hs c4 a2 g2
  refine wpIn_rangeFunc_cap rfl (by omega) (gf := 88) (lb := #[.pointer (some ⟨w.heap.size + 1 + 1 + 1, 0, none⟩)]) rfl trivial (enters_of Try.func88 (by kernel_rfl) rfl) (C := w.heap.size + 1 + 1 + 1) (by omega)
    (opts_cap (6 - 1) (by omega) (w.heap.size + 1 + 1 + 1) Wd W4 (.slice A b.length c) b (by omega) hb4 hv (by omega) (fun k hk => (hBa.block k (by omega)).trans (HOLD.out k hk)))
    (fun h k => h.trans k) (fun W l o hl => ⟨by simp, World.putObj_heap_other (by omega), fun k hk => World.putObj_heap_other (by omega)⟩) (fun _ => rfl)
    (RInv w sp s syn ⟨s.ms, s.sk, []⟩) (RInvX w sp syn ⟨s.ms, s.sk, []⟩) (RInv.from w sp _ s syn _ hlt (by omega)) (fun c => RInvX.from w sp _ syn _ c (by omega))
    (fun pre W1 u h => ?hset) (fun pre W1 k h => ?hdrew) ⟨⟨_, _, rfl, hs4, OwS.nil _ _, by omega⟩, hb1, ⟨_, hb2⟩, hb3, Touch.of_below hBa⟩ ?a1 ?assign ?body ?done ?stop
  case hset =>
    obtain ⟨⟨st, g, h1, h2, h2'⟩, h3, ⟨rb, h4⟩, h5, h6⟩ := h
    exact ⟨⟨st, g, h1, h2.far (by show sp ≠ w.heap.size + 1 + 1 + 1; omega) u, h2'.1.same fun k hk => Below.heap_setCell _ _ _ _ (by have := (h2'.1.lt hk).1; show k ≠ w.heap.size + 1 + 1 + 1; omega), by simpa [World.setCell] using h2'.2⟩, h3.far (by show w.heap.size ≠ w.heap.size + 1 + 1 + 1; omega) u, ⟨rb, h4.far (by show w.heap.size + 1 ≠ w.heap.size + 1 + 1 + 1; omega) u⟩, h5.far (by show w.heap.size + 1 + 1 ≠ w.heap.size + 1 + 1 + 1; omega) u,
      ⟨h6.os, h6.tape, h6.output, by simpa [World.setCell] using h6.size, fun k hk hs => (Below.heap_setCell _ _ _ _ (by show k ≠ w.heap.size + 1 + 1 + 1; omega)).trans (h6.block k hk hs)⟩⟩
  case hdrew =>
    obtain ⟨⟨st, g, h1, h2, h2'⟩, h3, ⟨rb, h4⟩, h5, h6⟩ := h
    exact ⟨⟨st, g, h1, h2.drew k, h2'.1.same fun _ _ => rfl, h2'.2⟩, h3.drew k, ⟨rb, h4.drew k⟩, h5.drew k, ⟨h6.os, h6.tape, h6.output, h6.size, h6.block⟩⟩
  case assign =>
    intro l x W K hK
    gi_wp2
    exact hK
  case body =>
    rintro l pre ⟨u, o⟩ V ⟨⟨st, gv, hst, hsV, hgV⟩, hP, ⟨rb, hR⟩, hSy, hT⟩ ⟨hu, hmem⟩
    dsimp only at hu hmem ⊢
    have hVold : ∀ k, k < Wd.heap.size → V.heap[k]? = Wd.heap[k]? := fun k hk => (hT.block k (by omega) (by show ¬ k = sp; omega)).trans (HOLD.out k hk)
    have hVs : Wd.heap.size ≤ V.heap.size := Nat.le_trans hWd hT.size
    have hru := hu.old hVs hVold
    have p0 := hP.cell 0
    have r0 := hR.cell 0
    have rf := hR.free 0
    have y0 := hSy.cell 0
    simp only [List.getElem?_toArray, List.getElem?_cons_zero] at p0 r0 y0
    clear hb1 hb2 hb3 hb4 hBa hs4
    cases o with
    | nil =>
      obtain ⟨Au, cu, rfl, hu1, hu2⟩ := hru.form
      have HST := Lib.hid hst
      have HT := Lib.hid hT
      have HRB := Lib.hid hR
      clear hst hT hR
      gi_wp2
      refine ⟨(KeepsOthers.setCell _ _ _).from _, rfl, by rw [List.map_append]; exact rdAll_nil HST.out, by simpa using HRB.out.set 0 (.bool false), ?_⟩
      exact ⟨HT.out.os, HT.out.tape, HT.out.output, by simpa [World.setCell] using HT.out.size, fun k hk hs => (Below.heap_setCell _ _ _ _ (by show k ≠ w.heap.size + 1; omega)).trans (HT.out.block k hk hs)⟩
    | cons x t =>
      obtain ⟨Au, cu, rfl, hu1, hu2⟩ := hru.form
      obtain ⟨bb, oo, rfl, hbl, hcs⟩ := hru.at_ 0 (by simp)
      have d0 := hcs 0 (by simp)
      simp only [Nat.add_zero, List.getElem_cons_zero] at d0
      have hx := UInt8.toNat_lt x
      obtain ⟨m, hm⟩ : ∃ m, m = (x :: t).length := ⟨_, rfl⟩
      have Hcs := Lib.hid hcs
      clear hcs
      rw [← hm] at hru hu1
      rw [← hm]
      have hm1 : 1 ≤ m := by rw [hm]; simp
      have Hm := Lib.hid hm
      have hne : (x :: t : List UInt8) ≠ [] := by simp
      have hnext := fun (he : optStep syn st (x :: t) = st) => RInv.next (x := (Value.slice (some ⟨bb, oo, none⟩) m cu, x :: t)) hst hne he hsV hgV hP ⟨rb, hR⟩ hSy hT
      have HN := Lib.hid hnext
      have HST := Lib.hid hst
      clear hm hnext hst
      by_cases x2 : x.toNat = 2
      · have g2 : ((x.toNat : Int) == 2) = true := by simp; omega
        have g4 : ((x.toNat : Int) == 4) = false := by simp; omega
        have g5 : ((x.toNat : Int) == 5) = false := by simp; omega
        by_cases m4 : m = 4
        · subst m4
          cases syn with
          | false =>
            gi_wp2
            exact ⟨KeepsFrom.refl _ _, OKp.refl _ _ _, HN.out (by simp [optStep, x2])⟩
          | true =>
            gi_wp2_with fail
            refine wpIn_region_G 8 (fun w' => w'.cell? ⟨w.heap.size, 0, none⟩ = some (.pointer (some ⟨sp, 0, none⟩)) ∧ Rd w' (.slice (some ⟨bb, oo, none⟩) 4 cu) (x :: t)) (by kernel_rfl) (by kernel_rfl) (by rintro ⟨a', w', h⟩; exact h) ?_
            refine G.load (i := 0) (v := .pointer (some ⟨sp, 0, none⟩)) rfl (by kernel_rfl) (fun _ _ _ h => h) (.inl ⟨rfl, fun w' hS => ?_⟩) ⟨p0, hru.drew⟩ ?_
            · obtain ⟨hS1, hS2⟩ := hS
              simp [execOp, Act.eval, hS1, go_sem]
            · simp only [Act.put, List.setIfInBounds_toArray]
              refine G.pure (i := 1) (v := .slice (some ⟨bb, oo, none⟩) 4 cu) rfl (by kernel_rfl) (fun _ _ _ h => h) (.inl ⟨rfl, fun w' _ => ?_⟩) ⟨p0, hru.drew⟩ ?_
              · simp [execOp, Act.eval, go_sem]
              simp only [Act.put]
              refine G.only (i := 2) (by kernel_rfl) rfl (fun K hK => ?_)
              refine step_call rfl rfl (enters_of Try.func56 (by kernel_rfl) rfl) (at16 _ (x :: t) 2 _ hru.drew (by omega) (by rw [← Hm.out]; omega)) rfl ?_
              rintro e w' ⟨rfl, rfl⟩
              refine ⟨_, rfl, hK _ _ (fun _ => ⟨p0, hru.drew⟩) ?_⟩
              clear hK K
              simp only [Act.put]
              refine G.pure (i := 3) (v := .tuple #[.int .i64 (be ((( x :: t).drop (2 : Int).toNat).take 2)), .int .i64 0]) rfl (by kernel_rfl) (fun _ _ _ h => h) (.inl ⟨rfl, fun w' _ => ?_⟩) ⟨p0, hru.drew⟩ ?_
              · simp [execOp, Act.eval, go_sem]
              simp only [Act.put]
              refine G.pure (i := 4) (v := .int .i64 (be ((( x :: t).drop (2 : Int).toNat).take 2))) rfl (by kernel_rfl) (fun _ _ _ h => h) (.inl ⟨rfl, fun w' _ => ?_⟩) ⟨p0, hru.drew⟩ ?_
              · simp [execOp, Act.eval, go_sem]
              simp only [Act.put]
              refine G.pure (i := 5) (v := .int .i64 0) rfl (by kernel_rfl) (fun _ _ _ h => h) (.inl ⟨rfl, fun w' _ => ?_⟩) ⟨p0, hru.drew⟩ ?_
              · simp [execOp, Act.eval, go_sem]
              simp only [Act.put]
              refine G.pure (i := 6) (v := .pointer (some ⟨sp, 0, none⟩)) rfl (by kernel_rfl) (fun _ _ _ h => h) (.inl ⟨rfl, fun w' _ => ?_⟩) ⟨p0, hru.drew⟩ ?_
              · simp [execOp, Act.eval, go_sem]
              simp only [Act.put]
              refine G.pure (i := 7) (v := .pointer (some ⟨sp, 6, none⟩)) rfl (by kernel_rfl) (fun _ _ _ h => h) (.inl ⟨rfl, fun w' _ => ?_⟩) ⟨p0, hru.drew⟩ ?_
              · simp [execOp, Act.eval, go_sem]
              simp only [Act.put]
              have e6 : V.drew.cell? ⟨sp, 6, none⟩ = some (.int .i64 st.ms) := hsV.sg.2.2.2.2.2.2.1
              have f6 : V.drew.frozen? ⟨sp, 6, none⟩ = false := hsV.free 6
              obtain ⟨ms, hms⟩ : ∃ ms, ms = be (((x :: t).drop (2 : Int).toNat).take 2) := ⟨_, rfl⟩
              rw [← hms]
              have hs2 : Blk (V.drew.setCell ⟨sp, 6, none⟩ (.int .i64 ms)) sp 67 (s.opt { st with ms := ms } gv).cells := by simpa [SG.opt, SG.cells] using Blk.set (w := V.drew) hsV 6 (.int .i64 ms)
              have hT2 : Touch (fun k => k = sp) w (V.drew.setCell ⟨sp, 6, none⟩ (.int .i64 ms)) := hT.drew.trans (Touch.set (S := fun k => k = sp) V.drew (p := ⟨sp, 6, none⟩) rfl _)
              have hstp : optStep true st (x :: t) = { st with ms := ms } := by
                rw [hms]
                unfold optStep
                rw [if_pos ⟨by simpa using x2, Hm.out.symm, rfl⟩]
                rfl
              refine G.lastStore (i := 8) (m := ms) (by kernel_rfl) (by kernel_rfl) rfl rfl rfl (.tmp 45) (.tmp 42) rfl ?q7 ?q8 e6 f6 ?q9
              case q7 => simp [Act.eval]
              case q8 => simp [Act.eval]
              exact ⟨((KeepsOthers.drew V).trans (KeepsOthers.setCell _ _ _)).from _, ⟨by simp [World.setCell], Below.heap_setCell _ _ _ _ (by show w.heap.size + 1 + 1 + 1 ≠ sp; omega), fun k hk => Below.heap_setCell _ _ _ _ (by show k ≠ sp; omega)⟩,
                ⟨_, gv, by rw [List.map_append]; exact rdAll_snoc HST.out hne, by rw [hstp]; exact hs2, by rw [hstp]; exact ⟨hgV.1.same fun k hk => Below.heap_setCell _ _ _ _ (by have := (hgV.1.lt hk).1; show k ≠ sp; omega), by simpa [World.setCell] using hgV.2⟩⟩, Blk.far (w := V.drew) hP (p := ⟨sp, 6, none⟩) (by show w.heap.size ≠ sp; omega) _, ⟨_, Blk.far (w := V.drew) hR (p := ⟨sp, 6, none⟩) (by show w.heap.size + 1 ≠ sp; omega) _⟩,
                Blk.far (w := V.drew) hSy (p := ⟨sp, 6, none⟩) (by show w.heap.size + 1 + 1 ≠ sp; omega) _, hT2⟩
        · have gm : ((m : Int) == 4) = false := by simp; omega
          have hm4 : (x :: t).length ≠ 4 := by rw [← Hm.out]; exact m4
          have HM4 := Lib.hid hm4
          clear m4 hm4
          gi_wp2
          exact ⟨KeepsFrom.refl _ _, OKp.refl _ _ _, HN.out (by unfold optStep; rw [if_neg (fun h => HM4.out h.2.1), if_neg (fun h => by have := h.1; simp at this; omega), if_neg (fun h => by have := h.1; simp at this; omega)])⟩
      · have g2 : ((x.toNat : Int) == 2) = false := by simp; omega
        by_cases x4 : x.toNat = 4
        · have g4 : ((x.toNat : Int) == 4) = true := by simp; omega
          have g5 : ((x.toNat : Int) == 5) = false := by simp; omega
          by_cases m2 : m = 2
          · subst m2
            cases syn with
            | false =>
              gi_wp2
              exact ⟨KeepsFrom.refl _ _, OKp.refl _ _ _, HN.out (by simp [optStep, x4])⟩
            | true =>
              have f7 := hsV.free 7
              have e7 : V.cell? ⟨sp, 7, none⟩ = some (.bool st.sk) := hsV.sg.2.2.2.2.2.2.2.1
              have hT2 : Touch (fun k => k = sp) w (V.setCell ⟨sp, 7, none⟩ (.bool true)) := hT.trans (Touch.set (S := fun k => k = sp) V (p := ⟨sp, 7, none⟩) rfl _)
              have hs2 : Blk (V.setCell ⟨sp, 7, none⟩ (.bool true)) sp 67 (s.opt { st with sk := true } gv).cells := by simpa [SG.opt, SG.cells] using hsV.set 7 (.bool true)
              have HT2 := Lib.hid hT2
              have HS2 := Lib.hid hs2
              have HR2 := Lib.hid (And.intro (hP.far (p := ⟨sp, 7, none⟩) (by show w.heap.size ≠ sp; omega) (.bool true)) (And.intro (hR.far (p := ⟨sp, 7, none⟩) (by show w.heap.size + 1 ≠ sp; omega) (.bool true)) (hSy.far (p := ⟨sp, 7, none⟩) (by show w.heap.size + 1 + 1 ≠ sp; omega) (.bool true))))
              clear hT2 hs2
              gi_wp2
              exact ⟨(KeepsOthers.setCell _ _ _).from _, ⟨by simp [World.setCell], Below.heap_setCell _ _ _ _ (by show w.heap.size + 1 + 1 + 1 ≠ sp; omega), fun k hk => Below.heap_setCell _ _ _ _ (by show k ≠ sp; omega)⟩,
                ⟨_, gv, by rw [List.map_append]; exact rdAll_snoc HST.out hne, by have := HS2.out; simpa [optStep, x4, ← Hm.out] using this, by have h : OwZ w (V.setCell ⟨sp, 7, none⟩ (.bool true)) gv st.got := ⟨hgV.1.same fun k hk => Below.heap_setCell _ _ _ _ (by have := (hgV.1.lt hk).1; show k ≠ sp; omega), by simpa [World.setCell] using hgV.2⟩; simpa [optStep, x4, ← Hm.out] using h⟩, HR2.out.1, ⟨_, HR2.out.2.1⟩, HR2.out.2.2, HT2.out⟩
          · have gm : ((m : Int) == 2) = false := by simp; omega
            have hm2 : (x :: t).length ≠ 2 := by rw [← Hm.out]; exact m2
            have HM2 := Lib.hid hm2
            clear m2 hm2
            gi_wp2
            exact ⟨KeepsFrom.refl _ _, OKp.refl _ _ _, HN.out (by unfold optStep; rw [if_neg (fun h => by have := h.1; simp at this; omega), if_neg (fun h => HM2.out h.2.1), if_neg (fun h => by have := h.1; simp at this; omega)])⟩
        · have g4 : ((x.toNat : Int) == 4) = false := by simp; omega
          have h2n : ∀ {y : Prop}, ¬ ((((x :: t).headD 0).toNat = 2) ∧ y) := fun h => by have := h.1; simp at this; omega
          have h4n : ∀ {y : Prop}, ¬ ((((x :: t).headD 0).toNat = 4) ∧ y) := fun h => by have := h.1; simp at this; omega
          have hno : ¬ isGot (x :: t) → optStep syn st (x :: t) = st := fun h => by unfold optStep; rw [if_neg h2n, if_neg h4n, if_neg h]
          have hyes : isGot (x :: t) → optStep syn st (x :: t) = { st with got := gotN (x :: t) (((x :: t).length - 2) / 8) } := fun h => by unfold optStep; rw [if_neg h2n, if_neg h4n, if_pos h]
          have HNO := Lib.hid hno
          have HYES := Lib.hid hyes
          clear h2n h4n hno hyes
          by_cases x5 : x.toNat = 5
          · have g5 : ((x.toNat : Int) == 5) = true := by simp; omega
            by_cases ma : 2 < m
            · have ga : decide ((2 : Int) < (m : Int)) = true := by simp; omega
              by_cases mb : m ≤ 26
              · have gb : decide ((m : Int) ≤ 26) = true := by simp; omega
                by_cases mc : m % 8 = 2
                · have gc : ((m : Int) % 8 == 2) = true := by simp; omega
                  have hyes := HYES.out ⟨by simpa using x5, by rw [← Hm.out]; exact ma, by rw [← Hm.out]; exact mb, by rw [← Hm.out]; exact mc⟩
                  rw [← Hm.out] at hyes
                  have HY := Lib.hid hyes
                  clear hyes HNO HYES HN
                  have e8 := hsV.sg.2.2.2.2.2.2.2.2.1
                  have f8 := hsV.free 8
                  obtain ⟨K, hK⟩ : ∃ K, K = (m - 2) / 8 := ⟨_, rfl⟩
                  have hm8 : m = 2 + 8 * K := by omega
                  have hK3 : K ≤ 3 := by omega
                  rw [← hK] at HY
                  have HMK := Lib.hid hm8
                  have hsp3 : sp ≠ w.heap.size + 1 + 1 + 1 := by omega
                  have hVC : OKp Wd.heap.size (w.heap.size + 1 + 1 + 1) V (V.setCell ⟨sp, 8, none⟩ (.slice none 0 0)) := ⟨by simp [World.setCell], Below.heap_setCell _ _ _ _ (by show w.heap.size + 1 + 1 + 1 ≠ sp; omega), fun k hk => Below.heap_setCell _ _ _ _ (by show k ≠ sp; omega)⟩
                  have hi0 : GInv w sp s st (x :: t) syn 0 (V.setCell ⟨sp, 8, none⟩ (.slice none 0 0)) :=
                    ⟨.slice none 0 0, by simpa [SG.opt, SG.cells, gotN] using hsV.set 8 (.slice none 0 0), ⟨OwS.nil _ _, by simpa [World.setCell] using hgV.2⟩, hP.far (p := ⟨sp, 8, none⟩) (by show w.heap.size ≠ sp; omega) _, ⟨_, hR.far (p := ⟨sp, 8, none⟩) (by show w.heap.size + 1 ≠ sp; omega) _⟩, hSy.far (p := ⟨sp, 8, none⟩) (by show w.heap.size + 1 + 1 ≠ sp; omega) _, hT.trans (Touch.set (S := fun k => k = sp) V (p := ⟨sp, 8, none⟩) rfl _)⟩
                  have hk0 : KeepsFrom (w.heap.size + 4) V (V.setCell ⟨sp, 8, none⟩ (.slice none 0 0)) := (KeepsOthers.setCell _ _ _).from _
                  have HI0 := Lib.hid (And.intro hi0 (And.intro hk0 hVC))
                  clear ma mb mc hK hi0 hk0 hVC hm8
                  gi_wp2_with fail
                  gi_loopw [7] (fun i wx => ∃ k : Nat, i = .int .i64 (2 + 8 * k : Nat) ∧ k ≤ K ∧ GInv w sp s st (x :: t) syn k wx ∧ KeepsFrom (w.heap.size + 4) V wx ∧ OKp Wd.heap.size (w.heap.size + 1 + 1 + 1) V wx) (fun i _ => m - (intOf i).toNat)
                  case atStart => exact ⟨0, rfl, Nat.zero_le _, HI0.out.1, HI0.out.2.1, HI0.out.2.2⟩
                  case round =>
                    obtain ⟨k, rfl, hk, ⟨gk, hsk, ⟨hgk, hzk⟩, hPk, ⟨rbk, hRk⟩, hSyk, hTk⟩, hKk, hOk⟩ := hrel
                    obtain ⟨i, hi⟩ : ∃ i, i = 2 + 8 * k := ⟨_, rfl⟩
                    rw [← hi]
                    by_cases hkK : k < K
                    · have hil : i < m := by have := HMK.out; omega
                      have hm26 : m ≤ 26 := by have := HMK.out; omega
                      have HI := Lib.hid hi
                      have HK2 := Lib.hid hkK
                      clear hi hkK hK3
                      have hu' : Rd Wd (.slice (some ⟨bb, oo, none⟩) m cu) (x :: t) := by rw [Hm.out]; exact hu
                      have hrw : Rd wr (.slice (some ⟨bb, oo, none⟩) m cu) (x :: t) := hu'.old (Nat.le_trans hVs hOk.1) (fun j hj => (hOk.2.2 j hj).trans (hVold j hj))
                      have hlm : (x :: t).length = m := Hm.out.symm
                      have hi4 : i + 8 ≤ m := by have := HMK.out; have := HI.out; have := HK2.out; omega
                      gi_wp2_with fail
                      refine ⟨trivial, ?_⟩
                      refine (CallsIn.inRound l (callsIn_wide.2 (at32 _ (x :: t) (i : Int) _ hrw (by omega) (by rw [hlm]; omega)))).mono ?_
                      rintro e w' ⟨rfl, rfl⟩
                      obtain ⟨y, hy⟩ : ∃ y, y = be (((x :: t).drop (i : Int).toNat).take 4) := ⟨_, rfl⟩
                      rw [← hy]
                      have HYY := Lib.hid hy
                      clear hy
                      gi_wp2_with fail
                      refine ⟨trivial, ?_⟩
                      refine (CallsIn.inRound l (callsIn_wide.2 (at32 _ (x :: t) ((i : Int) + 4) _ hrw (by omega) (by rw [hlm]; omega)))).mono ?_
                      rintro e w' ⟨rfl, rfl⟩
                      obtain ⟨z, hz⟩ : ∃ z, z = be (((x :: t).drop ((i : Int) + 4).toNat).take 4) := ⟨_, rfl⟩
                      rw [← hz]
                      have hspan : spanAt (x :: t) k = (y, z) := by
                        rw [HYY.out, hz]
                        have e1 : (i : Int).toNat = 2 + 8 * k := by have := HI.out; omega
                        have e2 : ((i : Int) + 4).toNat = 2 + 8 * k + 4 := by have := HI.out; omega
                        rw [e1, e2]
                        rfl
                      have HSPAN := Lib.hid hspan
                      obtain ⟨Ag, cg, eg, hcg1, hcg2⟩ := hgk.form
                      rw [gotN_len] at eg hcg1
                      subst eg
                      have q0 := hPk.cell 0
                      simp only [List.getElem?_toArray, List.getElem?_cons_zero] at q0
                      have q8 := hsk.sg.2.2.2.2.2.2.2.2.1
                      have hk26 : k ≤ 26 := by have := HI.out; omega
                      clear hz hspan hi4 hlm
                      gi_wp2_with fail
                      rename_i K17 hK17
                      have hS0 : (fun w' => w'.cell? ⟨w.heap.size, 0, none⟩ = some (.pointer (some ⟨sp, 0, none⟩)) ∧ w'.cell? ⟨sp, 8, none⟩ = some (.slice Ag k cg)) wr.drew := ⟨q0, q8⟩
                      have hBA := below_alloc wr.drew (.cells #[.int .u32 y, .int .u32 z] 117)
                      have hS1 : (fun w' => w'.cell? ⟨w.heap.size, 0, none⟩ = some (.pointer (some ⟨sp, 0, none⟩)) ∧ w'.cell? ⟨sp, 8, none⟩ = some (.slice Ag k cg)) (wr.drew.alloc (.cells #[.int .u32 y, .int .u32 z] 117)) := ⟨(hPk.drw.mono hBA).cell 0, (hsk.drw.mono hBA).cell 8⟩
                      have hg1 : OwS (wr.drew.alloc (.cells #[.int .u32 y, .int .u32 z] 117)) (w.heap.size + 4) (.slice Ag k cg) (gotN (x :: t) k) := (hgk.same (w' := wr.drew) fun _ _ => rfl).mono hBA
                      have hr1 : RdS (wr.drew.alloc (.cells #[.int .u32 y, .int .u32 z] 117)) (.slice (some ⟨wr.heap.size, 0, none⟩) 1 1) [(y, z)] := rdS_one (Blk.new wr.drew 117 _ _ rfl)
                      have hS5f : ∀ w5, (wr.drew.alloc (.cells #[.int .u32 y, .int .u32 z] 117)).grownBy w5 (Value.slice Ag k cg).ownBlock → Blk w5 w.heap.size 115 #[.pointer (some ⟨sp, 0, none⟩)] ∧ Blk w5 sp 67 (s.opt { st with got := gotN (x :: t) k } (.slice Ag k cg)).cells := fun w5 hg => ⟨(hPk.drw.mono hBA).own (by omega) hg (fun r e => (hg1.lt e).1), (hsk.drw.mono hBA).own (by omega) hg (fun r e => (hg1.lt e).1)⟩
                      refine wpIn_region_G 12 (fun w' => w'.cell? ⟨w.heap.size, 0, none⟩ = some (.pointer (some ⟨sp, 0, none⟩)) ∧ w'.cell? ⟨sp, 8, none⟩ = some (.slice Ag k cg)) (by kernel_rfl) (by kernel_rfl) (by rintro ⟨a', w', h⟩; exact h) ?_
                      refine G.load (i := 0) (v := .pointer (some ⟨sp, 0, none⟩)) rfl (by kernel_rfl) (fun _ _ _ h => h) (.inl ⟨rfl, fun w' hS => ?_⟩) (hS0) ?_
                      · simp [execOp, Act.eval, hS, go_sem]
                      simp only [Act.put, List.getElem_toArray, List.getElem_cons_zero, List.setIfInBounds_toArray, List.set_cons_zero, List.set_cons_succ]
                      refine G.load (i := 1) (v := .pointer (some ⟨sp, 0, none⟩)) rfl (by kernel_rfl) (fun _ _ _ h => h) (.inl ⟨rfl, fun w' hS => ?_⟩) (hS0) ?_
                      · simp [execOp, Act.eval, hS, go_sem]
                      simp only [Act.put, List.getElem_toArray, List.getElem_cons_zero, List.getElem_cons_succ, List.setIfInBounds_toArray, List.set_cons_zero, List.set_cons_succ]
                      refine G.pure' (i := 2) (v := .pointer (some ⟨sp, 0, none⟩)) rfl (by kernel_rfl) (fun _ _ _ h => h) (.inl ⟨rfl, fun w' _ => ?_⟩) (fun _ => hS0) ?_
                      · simp [execOp, Act.eval, go_sem]
                      simp only [Act.put, List.getElem_toArray, List.getElem_cons_zero, List.getElem_cons_succ, List.setIfInBounds_toArray, List.set_cons_zero, List.set_cons_succ]
                      refine G.pure' (i := 3) (v := .pointer (some ⟨sp, 8, none⟩)) rfl (by kernel_rfl) (fun _ _ _ h => h) (.inl ⟨rfl, fun w' _ => ?_⟩) (fun _ => hS0) ?_
                      · simp [execOp, Act.eval, go_sem]
                      simp only [Act.put, List.getElem_toArray, List.getElem_cons_zero, List.getElem_cons_succ, List.setIfInBounds_toArray, List.set_cons_zero, List.set_cons_succ]
                      refine G.load (i := 4) (v := .slice Ag k cg) rfl (by kernel_rfl) (fun _ _ _ h => h) (.inl ⟨rfl, fun w' hS => ?_⟩) (hS0) ?_
                      · simp [execOp, Act.eval, hS, go_sem]
                      simp only [Act.put, List.getElem_toArray, List.getElem_cons_zero, List.getElem_cons_succ, List.setIfInBounds_toArray, List.set_cons_zero, List.set_cons_succ]
                      refine G.pure' (i := 5) (v := .int .u32 y) rfl (by kernel_rfl) (fun _ _ _ h => h) (.inl ⟨rfl, fun w' _ => ?_⟩) (fun _ => hS0) ?_
                      · simp [execOp, Act.eval, go_sem]
                      simp only [Act.put, List.getElem_toArray, List.getElem_cons_zero, List.getElem_cons_succ, List.setIfInBounds_toArray, List.set_cons_zero, List.set_cons_succ]
                      refine G.pure' (i := 6) (v := .int .u32 z) rfl (by kernel_rfl) (fun _ _ _ h => h) (.inl ⟨rfl, fun w' _ => ?_⟩) (fun _ => hS0) ?_
                      · simp [execOp, Act.eval, go_sem]
                      simp only [Act.put, List.getElem_toArray, List.getElem_cons_zero, List.getElem_cons_succ, List.setIfInBounds_toArray, List.set_cons_zero, List.set_cons_succ]
                      refine G.pure' (i := 7) (v := .agg #[.int .u32 y, .int .u32 z]) rfl (by kernel_rfl) (fun _ _ _ h => h) (.inl ⟨rfl, fun w' _ => ?_⟩) (fun _ => hS0) ?_
                      · simp [execOp, Act.eval, go_sem]
                      simp only [Act.put, List.getElem_toArray, List.getElem_cons_zero, List.getElem_cons_succ, List.setIfInBounds_toArray, List.set_cons_zero, List.set_cons_succ]
                      refine G.only' (i := 8) ?r8 rfl ?o8
                      case r8 => kernel_rfl
                      intro K hK
                      refine step_buildSp (y := y) (z := z) rfl (.tmp 112) rfl ?p71 ?_
                      case p71 => simp [Act.eval]
                      refine hK _ _ (fun _ => hS1) ?_
                      clear hK K
                      simp only [Act.put, List.getElem_toArray, List.getElem_cons_zero, List.getElem_cons_succ]
                      refine G.only' (i := 9) ?r9 rfl ?o9
                      case r9 => kernel_rfl
                      intro K hK
                      refine step_appS (E := gotN (x :: t) k) (F := [(y, z)]) rfl (.tmp 109) (.tmp 113) rfl (w.heap.size + 4) hg1 hr1 ?p91 ?p92 (by rw [gotN_len]; simp; omega) (by simp; omega) ?_
                      case p91 => simp [Act.eval]
                      case p92 => simp [Act.eval]
                      intro v5 w5 ho5 hb5 hg5
                      obtain ⟨A5, c5, e5, _, _⟩ := ho5.form
                      have hlen5 : (gotN (x :: t) k ++ [(y, z)]).length = k + 1 := by rw [List.length_append, gotN_len]; rfl
                      rw [hlen5] at e5
                      subst e5
                      have hS5 : (fun w' => w'.cell? ⟨w.heap.size, 0, none⟩ = some (.pointer (some ⟨sp, 0, none⟩)) ∧ w'.cell? ⟨sp, 8, none⟩ = some (.slice Ag k cg)) w5 := ⟨(hS5f w5 hg5.1).1.cell 0, (hS5f w5 hg5.1).2.cell 8⟩
                      refine hK _ _ (fun _ => hS5) ?_
                      clear hK K
                      simp only [Act.put, List.getElem_toArray, List.getElem_cons_zero, List.getElem_cons_succ]
                      refine G.pure' (i := 10) (v := .pointer (some ⟨sp, 0, none⟩)) rfl (by kernel_rfl) (fun _ _ _ h => h) (.inl ⟨rfl, fun w' _ => ?_⟩) (fun _ => hS5) ?_
                      · simp [execOp, Act.eval, go_sem]
                      simp only [Act.put, List.getElem_toArray, List.getElem_cons_zero, List.getElem_cons_succ, List.setIfInBounds_toArray, List.set_cons_zero, List.set_cons_succ]
                      refine G.pure' (i := 11) (v := .pointer (some ⟨sp, 8, none⟩)) rfl (by kernel_rfl) (fun _ _ _ h => h) (.inl ⟨rfl, fun w' _ => ?_⟩) (fun _ => hS5) ?_
                      · simp [execOp, Act.eval, go_sem]
                      simp only [Act.put, List.getElem_toArray, List.getElem_cons_zero, List.getElem_cons_succ, List.setIfInBounds_toArray, List.set_cons_zero, List.set_cons_succ]
                      refine G.only' (i := 12) ?r12 rfl ?o12
                      case r12 => kernel_rfl
                      intro K hK
                      refine step_storeSp (A := A5) (n := (k + 1)) (c := c5) rfl (.tmp 116) (.tmp 114) rfl ?p81 ?p82 hS5.2 ((hS5f w5 hg5.1).2.free 8) ?_
                      case p81 => simp [Act.eval]
                      case p82 => simp [Act.eval]
                      refine hK _ _ (fun e => Bool.noConfusion (show true = false from e)) (G.done (by kernel_rfl) ?_)
                      clear hK K
                      simp only [Act.put, List.getElem_toArray, List.getElem_cons_zero, List.getElem_cons_succ]
                      simp only [Exit.inBlock, Exit.then]
                      refine hK17 _ _ ?_
                      clear hK17 K17 hS5
                      have hS5g := hS5f w5 hg5.1
                      have hown5 : ∀ r, (Value.slice Ag k cg).ownBlock = some r → w.heap.size + 4 ≤ r := fun r e => (hg1.lt e).1
                      have hR5 : Blk w5 (w.heap.size + 1) 4 #[.bool rbk] := (hRk.drw.mono hBA).own (by omega) hg5.1 hown5
                      have hSy5 : Blk w5 (w.heap.size + 1 + 1) 4 #[.bool syn] := (hSyk.drw.mono hBA).own (by omega) hg5.1 hown5
                      have hT5 : Touch (fun k => k = sp) w w5 := ((hTk.drew).trans (Touch.of_below hBA)).own (by omega) hg5.1 hown5
                      have hK5 : KeepsFrom (w.heap.size + 4) V w5 := hKk.trans ((((KeepsOthers.drew wr).trans (KeepsOthers.alloc _ _)).trans (KeepsOthers.of_grownBy hg5.1 fun j o e ho => hg1.cells_at e ho)).from _)
                      have hz5 : wr.heap.size ≤ w5.heap.size := by have := hg5.1.size; simp at this; omega
                      have h5old : ∀ j, j < w.heap.size + 4 → w5.heap[j]? = wr.heap[j]? := fun j hj => (hg5.1.block j (by simp; omega) (fun e => by have := hown5 j e.symm; omega)).trans (hBA.block j (by show j < wr.heap.size; omega))
                      have hn5 : gotN (x :: t) (k + 1) = gotN (x :: t) k ++ [(y, z)] := by rw [gotN_succ, HSPAN.out]
                      have HIN5 : GInv w sp s st (x :: t) syn (k + 1) (w5.setCell ⟨sp, 8, none⟩ (.slice A5 (k + 1) c5)) :=
                        ⟨_, by simpa [SG.opt, SG.cells] using hS5g.2.set 8 (.slice A5 (k + 1) c5), ⟨by rw [hn5]; exact ho5.same (w' := w5.setCell ⟨sp, 8, none⟩ (.slice A5 (k + 1) c5)) fun j hj => Below.heap_setCell _ _ _ _ (by have := (ho5.lt hj).1; show j ≠ sp; omega), by simp [World.setCell]; omega⟩, hS5g.1.far (p := ⟨sp, 8, none⟩) (by show w.heap.size ≠ sp; omega) _, ⟨_, hR5.far (p := ⟨sp, 8, none⟩) (by show w.heap.size + 1 ≠ sp; omega) _⟩, hSy5.far (p := ⟨sp, 8, none⟩) (by show w.heap.size + 1 + 1 ≠ sp; omega) _, hT5.trans (Touch.set (S := fun k => k = sp) w5 (p := ⟨sp, 8, none⟩) rfl _)⟩
                      have HK5 : KeepsFrom (w.heap.size + 4) V (w5.setCell ⟨sp, 8, none⟩ (.slice A5 (k + 1) c5)) := hK5.trans ((KeepsOthers.setCell _ _ _).from _)
                      have HO5 : OKp Wd.heap.size (w.heap.size + 1 + 1 + 1) V (w5.setCell ⟨sp, 8, none⟩ (.slice A5 (k + 1) c5)) :=
                        hOk.trans ⟨by simpa [World.setCell] using hz5, (Below.heap_setCell _ _ _ _ (by show w.heap.size + 1 + 1 + 1 ≠ sp; omega)).trans (h5old _ (by omega)), fun j hj => (Below.heap_setCell _ _ _ _ (by show j ≠ sp; omega)).trans (h5old _ (by omega))⟩
                      have HALL := Lib.hid (And.intro HIN5 (And.intro HK5 HO5))
                      clear HIN5 HK5 HO5 hS5g hR5 hSy5 hT5 hK5 hn5 ho5 hb5 hg5 hS5f hr1 hg1 hS1 hS0 q0 q8 hsk hgk hPk hRk hSyk hTk hKk hOk
                      gi_wp2
                      go_roundw
                      case rel => exact ⟨k + 1, by have := HI.out; go_num, by have := HK2.out; omega, HALL.out.1, HALL.out.2.1, HALL.out.2.2⟩
                      case measure => simp [intOf]; omega
                    · have hil : i = m := by have := HMK.out; omega
                      have hkE : k = K := by omega
                      have HIL := Lib.hid (And.intro hil hkE)
                      have HALL := Lib.hid (And.intro hsk (And.intro hgk (And.intro hPk (And.intro hRk (And.intro hSyk (And.intro hTk (And.intro hKk hOk)))))))
                      have hnl : ¬ ((i : Int) < (m : Int)) := by omega
                      clear hil hkE hi hkK hsk hgk hPk hRk hSyk hTk hKk hOk
                      gi_wp2
                      obtain ⟨a1, a2, a3, a4, a5, a6, a7, a8⟩ := HALL.out
                      obtain ⟨_, e2⟩ := HIL.out
                      subst e2
                      refine ⟨a7, a8, ⟨{ st with got := gotN (x :: t) k }, gk, ?_, a1, a2, hzk⟩, a3, ⟨_, a4⟩, a5, a6⟩
                      rw [List.map_append]
                      have h := rdAll_snoc HST.out hne
                      rw [HY.out] at h
                      exact h
                · have gc : ((m : Int) % 8 == 2) = false := by simp; omega
                  have HF := Lib.hid (HN.out (HNO.out fun h => mc (by rw [Hm.out]; exact h.2.2.2)))
                  clear ma mb mc
                  gi_wp2
                  exact ⟨KeepsFrom.refl _ _, OKp.refl _ _ _, HF.out⟩
              · have gb : decide ((m : Int) ≤ 26) = false := by simp; omega
                have HF := Lib.hid (HN.out (HNO.out fun h => mb (by rw [Hm.out]; exact h.2.2.1)))
                clear ma mb
                gi_wp2
                exact ⟨KeepsFrom.refl _ _, OKp.refl _ _ _, HF.out⟩
            · have ga : decide ((2 : Int) < (m : Int)) = false := by simp; omega
              have HF := Lib.hid (HN.out (HNO.out fun h => ma (by rw [Hm.out]; exact h.2.1)))
              clear ma
              gi_wp2
              exact ⟨KeepsFrom.refl _ _, OKp.refl _ _ _, HF.out⟩
          · have g5 : ((x.toNat : Int) == 5) = false := by simp; omega
            have HF := Lib.hid (HN.out (HNO.out fun h => x5 (by simpa using h.1)))
            gi_wp2
            exact ⟨KeepsFrom.refl _ _, OKp.refl _ _ _, HF.out⟩
  case done =>
    rintro D xs W hD hS ⟨⟨st, g, hst, hsW, hgW⟩, hP, ⟨rb, hR⟩, hSy, hT⟩ hDf
    have r0 := hR.cell 0
    have rf := hR.free 0
    simp only [List.getElem?_toArray, List.getElem?_cons_zero] at r0
    rw [hS] at hst
    have HST := Lib.hid hst
    have HDF := Lib.hid hDf
    clear hst hDf hS hb1 hb2 hb3 hb4 hBa hs4
    gi_wp2
    refine ⟨by simp, .inl ⟨_, _, rfl, run_takeDeferred ((Below.heap_setCell _ _ _ _ (by show D ≠ w.heap.size + 1; omega)).trans HDF.out), ?_⟩⟩
    have hne1 : w.heap.size + 1 ≠ D := by omega
    have hR2 : Blk ((W.setCell ⟨w.heap.size + 1, 0, none⟩ (.bool true)).putObj D (.deferred none)) (w.heap.size + 1) 4 #[.bool true] := (World.putObj_heap_other hne1).trans (show Blk _ _ _ _ from by simpa using hR.set 0 (.bool true))
    refine ⟨_, results_cellB rfl _ rfl (hR2.cell 0), by rw [HST.out], ?_, fun _ => ?_⟩
    · refine ⟨hT.os, hT.tape, hT.output, by simpa [World.setCell] using hT.size, fun k hk hs => ?_⟩
      rw [World.putObj_heap_other (by omega), Below.heap_setCell _ _ _ _ (by show k ≠ w.heap.size + 1; omega)]
      exact hT.block k hk hs
    · rw [HST.out]
      refine ⟨g, (World.putObj_heap_other (by omega)).trans ((Below.heap_setCell _ _ _ _ (by show sp ≠ w.heap.size + 1; omega)).trans hsW), ?_⟩
      refine (hgW.1.same fun k hk => ?_).less (by omega)
      have hkD : k ≠ D := fun e => by
        have := hgW.1.cells_at hk (e ▸ HDF.out)
        simp [Obj.isCells] at this
      exact (World.putObj_heap_other hkD).trans (Below.heap_setCell _ _ _ _ (by have := (hgW.1.lt hk).1; show k ≠ w.heap.size + 1; omega))
  case stop =>
    rintro D cx pre W hD hpre ⟨rfl, hfalse, hR, hT⟩ hDf
    have HDF := Lib.hid hDf
    have hall := rdAll_stop hpre hfalse
    have HA := Lib.hid hall
    clear hDf hall hfalse hb1 hb2 hb3 hb4 hBa hs4
    gi_wp2
    refine ⟨by simp, .inl ⟨_, _, rfl, run_takeDeferred HDF.out, ?_⟩⟩
    have hne1 : w.heap.size + 1 ≠ D := by omega
    have hR2 : Blk (W.putObj D (.deferred none)) (w.heap.size + 1) 4 #[.bool false] := (World.putObj_heap_other hne1).trans hR
    refine ⟨_, results_cellB rfl _ rfl (hR2.cell 0), by rw [HA.out], ?_, fun e => by rw [HA.out] at e; cases e⟩
    exact ⟨hT.os, hT.tape, hT.output, by simpa using hT.size, fun k hk hs => (World.putObj_heap_other (by omega)).trans (hT.block k hk hs)⟩
end Go.Proofs.Ytbhdojpgjmbogaa
