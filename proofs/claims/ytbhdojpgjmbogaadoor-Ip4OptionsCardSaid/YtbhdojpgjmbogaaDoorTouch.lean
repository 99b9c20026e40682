/- What a call may have turned; rows of bytes that are written; bytes as strings. -/
import Derived.Test.YtbhdojpgjmbogaaDoorCopy
import Derived.Laws.BytesString
import Derived.Deep.MidRow
import Derived.Lib.SlBytesConst
namespace Go.Proofs.YtbhdojpgjmbogaaDoor
open Go.RowKit Go.Shelf
/-- What a call may have turned. -/
structure Touch (S : Nat → Prop) (w w' : World) : Prop where
  os : w'.os = w.os
  tape : w'.tape = w.tape
  output : w'.output = w.output
  size : w.heap.size ≤ w'.heap.size
  block : ∀ k, k < w.heap.size → ¬ S k → w'.heap[k]? = w.heap[k]?
theorem Touch.refl (S : Nat → Prop) (w : World) : Touch S w w := ⟨rfl, rfl, rfl, Nat.le_refl _, fun _ _ _ => rfl⟩
theorem Touch.trans {S : Nat → Prop} {a b c : World} (h : Touch S a b) (k : Touch S b c) : Touch S a c :=
  ⟨k.os.trans h.os, k.tape.trans h.tape, k.output.trans h.output, Nat.le_trans h.size k.size, fun i hi hs => (k.block i (Nat.lt_of_lt_of_le hi h.size) hs).trans (h.block i hi hs)⟩
theorem Touch.grown {S : Nat → Prop} {w w' : World} {row : Option Nat} (h : w.grownBy w' row) (hr : ∀ r, row = some r → S r) : Touch S w w' :=
  ⟨h.os, h.tape, h.output, h.size, fun k hk hs => h.block k hk fun e => hs (hr k e.symm)⟩
theorem Touch.set {S : Nat → Prop} (w : World) {p : Addr} (hp : S p.block) (u : Value) : Touch S w (w.setCell p u) :=
  ⟨rfl, rfl, rfl, by simp [World.setCell], fun k _ hs => Below.heap_setCell w p u k fun e => hs (e ▸ hp)⟩
theorem Touch.drew {S : Nat → Prop} {w w' : World} (h : Touch S w w') : Touch S w w'.drew := ⟨h.os, h.tape, h.output, h.size, h.block⟩
theorem Touch.below {S : Nat → Prop} {w w' : World} {B : Nat} (h : Touch S w w') (hB : ∀ k, S k → B ≤ k) (hw : B ≤ w.heap.size) : Below B w w' :=
  ⟨h.os, h.tape, h.output, h.size, fun k hk => h.block k (Nat.lt_of_lt_of_le hk hw) fun hs => by have := hB k hs; omega⟩
theorem Touch.of_below {S : Nat → Prop} {w w' : World} (h : Below w.heap.size w w') : Touch S w w' := ⟨h.os, h.tape, h.output, h.size, fun k hk _ => h.block k hk⟩
theorem Touch.mono {S S' : Nat → Prop} {w w' : World} (h : Touch S w w') (hs : ∀ k, S k → S' k) : Touch S' w w' := ⟨h.os, h.tape, h.output, h.size, fun k hk hn => h.block k hk fun e => hn (hs k e)⟩
/-- What reads below B reads on where only blocks from B on have turned. -/
theorem Rd.far {w w0 w' : World} {v : Value} {l : List UInt8} (h : Rd w v l) (h0 : Below w.heap.size w w0) {S : Nat → Prop} (ht : Touch S w0 w') (hS : ∀ k, S k → w.heap.size ≤ k) : Rd w' v l :=
  h.mono (h0.trans (ht.below hS h0.size))
theorem Ow.touch {w w' : World} {base : Nat} {v : Value} {l : List UInt8} (h : Ow w base v l) {S : Nat → Prop} (ht : Touch S w w') (hS : ∀ k, S k → k < base) : Ow w' base v l :=
  owns_same h fun g hg => ht.block g (owns_block_lt h hg).2 fun hs => by have := hS g hs; have := (owns_block_lt h hg).1; omega
theorem ow_set {w : World} {base g n cap k : Nat} {l : List UInt8} (h : Ow w base (.slice (some ⟨g, 0, none⟩) n cap) l) (x : UInt8) :
    Ow (w.setCell ⟨g, k, none⟩ (.int .u8 x.toNat)) base (.slice (some ⟨g, 0, none⟩) n cap) (l.set k x) := by
  obtain ⟨cur, h1, h2, h3, h4, h5, h6, h7⟩ := ow_cur h
  unfold Ow
  rw [List.length_set]
  have e : (w.setCell ⟨g, k, none⟩ (.int .u8 x.toNat)).heap[g]? = some (.cells (cur.set k (bv x)).toArray 5 (0, 0)) := by
    simp [World.setCell, Array.getElem?_modify, h1, bv]
  refine ⟨by simp, .inr ⟨g, cap, _, by rw [h7], h6, e, h4, h5, by simp [h2], ?_⟩⟩
  rw [Nat.mul_one, List.toList_toArray, List.take_set, h3, List.map_set]
theorem ow_inc {w : World} {base g n cap k : Nat} {l : List UInt8} (h : Ow w base (.slice (some ⟨g, 0, none⟩) n cap) l) (x : UInt8) :
    Ow (w.setCell ⟨g, k, none⟩ (.int .u8 (((x.toNat : Int) + 1) % 256))) base (.slice (some ⟨g, 0, none⟩) n cap) (l.set k (x + 1)) := by
  have e : ((x.toNat : Int) + 1) % 256 = (((x + 1).toNat : Nat) : Int) := by
    rw [UInt8.toNat_add]
    simp
  rw [e]
  exact ow_set h (x + 1)
theorem ow_cells {w : World} {base g n cap : Nat} {l : List UInt8} (h : Ow w base (.slice (some ⟨g, 0, none⟩) n cap) l) (k : Nat) (hk : k < l.length) :
    w.cell? ⟨g, k, none⟩ = some (.int .u8 (l[k].toNat : Int)) ∧ w.frozen? ⟨g, k, none⟩ = false := by
  obtain ⟨cur, h1, h2, h3, h4, h5, h6, h7⟩ := ow_cur h
  obtain ⟨b, o, e, _, hc⟩ := h.rd.at_ k hk
  injection e with e
  injection e with e1 e2
  subst e1 e2
  have := hc k hk
  rw [Nat.zero_add] at this
  exact ⟨this, by simp [World.frozen?, h1]⟩
theorem Ow.farset {w : World} {base : Nat} {v : Value} {l : List UInt8} (h : Ow w base v l) (p : Addr) (hp : p.block < base) (u : Value) : Ow (w.setCell p u) base v l :=
  owns_same h fun g hg => Below.heap_setCell w p u g fun e => by have := (owns_block_lt h hg).1; omega
theorem Ow.off {w w' : World} {base : Nat} {v : Value} {l : List UInt8} (h : Ow w base v l) {S : Nat → Prop} (ht : Touch S w w') (hS : ∀ g, v.ownBlock = some g → ¬ S g) : Ow w' base v l :=
  owns_same h fun g hg => ht.block g (owns_block_lt h hg).2 (hS g hg)
theorem Blk.touch {w w' : World} {g : Nat} {t : TypeId} {cs : Array Value} (h : Blk w g t cs) {S : Nat → Prop} (ht : Touch S w w') (hS : ¬ S g) : Blk w' g t cs := (ht.block g h.lt hS).trans h
theorem ow_some {w : World} {base g n cap : Nat} {l : List UInt8} (h : Ow w base (.slice (some ⟨g, 0, none⟩) n cap) l) (k : Nat) (hk : k < l.length) : ∃ u, w.cell? ⟨g, k, none⟩ = some u ∧ w.frozen? ⟨g, k, none⟩ = false :=
  ⟨_, ow_cells h k hk⟩
/-- Bytes as a string. -/
def bstr (l : List UInt8) : ByteArray := ⟨l.toArray⟩
theorem bstr_inj {l m : List UInt8} (h : bstr l = bstr m) : l = m := by
  have h2 := congrArg ByteArray.data h
  simpa [bstr] using h2
theorem bstr_push (l : List UInt8) (x : UInt8) : (bstr l).push x = bstr (l ++ [x]) := by simp [bstr, ByteArray.push]
theorem foldl_push (l : List UInt8) : ∀ s : List UInt8, (l.map fun x => (x.toNat : Int)).foldl (fun (r : ByteArray) (n : Int) => r.push (UInt8.ofNat n.toNat)) (bstr s) = bstr (s ++ l) := by
  induction l with
  | nil => intro s; simp
  | cons x l ih =>
    intro s
    simp only [List.map_cons, List.foldl_cons, Int.toNat_natCast, UInt8.ofNat_toNat]
    rw [bstr_push, ih]
    simp
theorem run_str {w : World} {v : Value} {l : List UInt8} (h : Rd w v l) : (convert 24 9 v).run Tryd.prog w = .ok (.string (bstr l)) w := by
  obtain ⟨A, c, rfl, h1, h2, h3⟩ := h
  rw [run_convert_bytes_string w 24 9 5 A _ c und_bytes Tryd.underlying5 Tryd.underlying9]
  rcases h3 with h0 | ⟨b, o, rfl, hlt, hc⟩
  · have h0' : l = [] := by simpa using h0
    subst h0'
    cases A with
    | none => simp [Conv.bytesToString]; rfl
    | some ad => exact run_bytesToString w ad 0 c [] (run_loadCells_list (P := Tryd.prog) w ad [] (fun j u hu => by simp at hu))
  · rw [List.length_map]
    rw [run_bytesToString w ⟨b, o, none⟩ l.length c (l.map fun x => (x.toNat : Int))]
    · rw [show ByteArray.empty = bstr [] from rfl, foldl_push]
      rfl
    · have := run_loadCells_list (P := Tryd.prog) w ⟨b, o, none⟩ (l.map bv) (fun j u hu => by rw [add_lit]; exact hc j u hu)
      rw [List.length_map] at this
      rw [this, List.map_map]
      rfl
/-- The world behind the boxes of two addresses, under a name. -/
theorem box2 {w : World} {s d : IP} {motive : World → Prop}
    (h : ∀ X, Below w.heap.size w X → w.heap.size + 2 ≤ X.heap.size → Blk X w.heap.size 23 s.cells → Blk X (w.heap.size + 1) 23 d.cells → motive X) :
    motive ((w.alloc (.cells s.cells 23)).alloc (.cells d.cells 23)) :=
  h _ (((Below.refl w.heap.size w).alloc (Nat.le_refl _) _).alloc (by simp) _) (by simp) ((Blk.new w 23 s.cells _ rfl).alloc _) (Blk.new _ 23 d.cells _ (by simp))
theorem boxes_below (w : World) (x y : Obj) : Below w.heap.size w ((w.alloc x).alloc y) := ((Below.refl w.heap.size w).alloc (Nat.le_refl _) _).alloc (by simp) _
theorem ret_bool {a b : Bool} (h : a = b) : Ending.returned (.bool a) = .returned (.bool b) := by rw [h]
/-- The number in two bytes at a place. -/
def b16 (l : List UInt8) (k : Nat) : Int := be ((l.drop k).take 2)
theorem b16_bd (l : List UInt8) (k : Nat) : 0 ≤ b16 l k ∧ b16 l k ≤ 65535 := by
  have h0 := be_0 ((l.drop k).take 2)
  have h1 := be_2 ((l.drop k).take 2) (by simp; omega)
  unfold b16; omega
theorem at16' (v : Value) (l : List UInt8) (f : Int) (k : Nat) (hk : f = k) (w : World) (hr : Rd w v l) (h3 : k + 2 ≤ l.length) :
    Calls Tryd.prog 26 #[v, .int .i64 f] w fun e w' => e = .returned (.tuple #[.int .i64 (b16 l k), .int .i64 0]) ∧ w = w' := by
  subst hk
  have h := at16 v l k w hr (by omega) (by omega)
  simpa [b16] using h
theorem rat' (v : Value) (l : List UInt8) (f : Int) (k : Nat) (hk : f = k) (w : World) (hr : Rd w v l) (h3 : k + 2 ≤ l.length) (hl : l.length ≤ 140737488355328) :
    Calls Tryd.prog 28 #[v, .int .i64 f, .int .i64 2] w fun e w' => e = .returned (.int .i64 (b16 l k)) ∧ w = w' := by
  subst hk
  have h := rat v l k 2 w hr (by omega) (by omega) (by omega) (by omega) hl
  simpa [b16] using h
theorem rd_take {w : World} {A : Option Addr} {n c : Nat} {l : List UInt8} (h : Rd w (.slice A n c) l) (k : Nat) (hk : k ≤ l.length) : Rd w (.slice A k c) (l.take k) := by
  obtain ⟨A', c', e, h1, h2, h3⟩ := h
  injection e with e1 e2 e3
  subst e1 e3
  have hlen : ((l.take k).map bv).length = k := by simp; omega
  refine ⟨A, c, by rw [hlen], by rw [hlen]; rw [List.length_map] at h1; omega, h2, ?_⟩
  rcases h3 with h | ⟨b, o, ha, hlt, hc⟩
  · left; simp at h; subst h; simp
  · right
    refine ⟨b, o, ha, hlt, fun j u hu => hc j u ?_⟩
    rw [List.map_take, List.getElem?_take] at hu
    split at hu
    · exact hu
    · cases hu
/-- What a coder leaves: the bytes, its own, and an error. -/
def CEnd (w : World) (l : List UInt8) (n : Int) (e : Ending) (w' : World) : Prop := ∃ v, e = .returned (.tuple #[v, .int .i64 n]) ∧ Ow w' w.heap.size v l ∧ Below w.heap.size w w'
theorem p16_len (n : Int) : (p16 n).length = 2 := rfl
def InI (k : Int) : Prop := -9223372036854775808 ≤ k ∧ k ≤ 9223372036854775807
abbrev noS : Value := .slice none 0 0
/-- A whole variable that was boxed is stored into. -/
theorem wpList_storeB {ops : Array Oper} {rest : List Oper} {o : Oper} {a : Act} {w : World} {Q : Exit → Act → World → Prop} (hgd : o.guard = none) (ty : TypeId) (x y : Operand) (ho : o.op = .store ty x y) (hd : o.dst = none)
    {g : Nat} {t : TypeId} {old : Array Value} (hg : Blk w g t old) (cells : Array Value) (hx : a.eval x = .pointer (some ⟨g, 0, none⟩)) (hy : a.eval y = .agg cells) (hi : (Tryd.prog.info? ty).map (·.size) = some cells.size)
    (hold : old.size = cells.size) (h1 : cells.all (·.oneCell') = true)
    (h : wpList Tryd.prog ops Q rest a (w.setRow g cells)) : wpList Tryd.prog ops Q (o :: rest) a w :=
  wpList_store_row hgd ty x y ho g cells hx hy t old hg hi hold h1 (by rw [hd]; exact h)
theorem heap_setRow {w : World} {g : Nat} {t : TypeId} {old cells : Array Value} (hg : Blk w g t old) : Blk (w.setRow g cells) g t cells ∧ ∀ k, k ≠ g → (w.setRow g cells).heap[k]? = w.heap[k]? := by
  unfold Blk at *
  constructor
  · simp [World.setRow, Array.getElem?_modify, hg]
  · intro k hk
    simp [World.setRow, Array.getElem?_modify, Ne.symm hk]
theorem Blk.rowFar {w : World} {g k : Nat} {t t' : TypeId} {old cells cs : Array Value} (hg : Blk w g t old) (h : Blk w k t' cs) (hk : k ≠ g) : Blk (w.setRow g cells) k t' cs := ((heap_setRow hg).2 k hk).trans h
theorem below_setRow {B : Nat} {w w1 : World} {g : Nat} {t : TypeId} {old cells : Array Value} (h : Below B w w1) (hg : Blk w1 g t old) (hB : B ≤ g) : Below B w (w1.setRow g cells) :=
  h.trans ⟨rfl, rfl, rfl, by simp [World.setRow], fun k hk => (heap_setRow hg).2 k (by omega)⟩
/-- A flag of a number, taken by '&'. -/
theorem and_pow (x : Int) (i : Nat) (hi : i < 62) : bits .and .i64 x ((2 ^ i : Nat) : Int) = if x / ((2 ^ i : Nat) : Int) % 2 = 1 then ((2 ^ i : Nat) : Int) else 0 := by
  show IntKind.i64.wrap ((BitVec.ofInt 64 x &&& BitVec.ofInt 64 ((2 ^ i : Nat) : Int)).toNat : Int) = _
  have h2 : 2 ^ i < 2 ^ 62 := Nat.pow_lt_pow_right (by omega) hi
  have e1 : BitVec.ofInt 64 ((2 ^ i : Nat) : Int) = BitVec.twoPow 64 i := by
    rw [BitVec.ofInt_natCast]
    apply BitVec.eq_of_toNat_eq
    rw [BitVec.toNat_ofNat, BitVec.toNat_twoPow]
  rw [e1, BitVec.and_twoPow]
  have e2 : (BitVec.ofInt 64 x).getLsbD i = decide (x / ((2 ^ i : Nat) : Int) % 2 = 1) := by
    rw [BitVec.getLsbD, BitVec.toNat_ofInt, Nat.testBit_eq_decide_div_mod_eq]
    have hx : (((x % ((2 ^ 64 : Nat) : Int)).toNat / 2 ^ i % 2 : Nat) : Int) = x / ((2 ^ i : Nat) : Int) % 2 := by
      have h0 : 0 ≤ x % ((2 ^ 64 : Nat) : Int) := Int.emod_nonneg _ (by decide)
      rw [Int.natCast_emod, Int.natCast_ediv, Int.toNat_of_nonneg h0]
      have hs : ((2 ^ 64 : Nat) : Int) = ((2 ^ i : Nat) : Int) * (2 * ((2 ^ (63 - i) : Nat) : Int)) := by
        have : (2 : Nat) ^ 64 = 2 ^ i * (2 * 2 ^ (63 - i)) := by
          rw [← Nat.pow_succ', ← Nat.pow_add]
          congr 1
          omega
        rw [this]
        simp
      have hd := Int.emod_add_mul_ediv x ((2 ^ 64 : Nat) : Int)
      generalize x % ((2 ^ 64 : Nat) : Int) = r at *
      generalize x / ((2 ^ 64 : Nat) : Int) = q at *
      rw [hs] at hd
      have hp : ((2 ^ i : Nat) : Int) ≠ 0 := by have := Nat.two_pow_pos i; omega
      rw [← hd, Int.mul_assoc, Int.add_mul_ediv_left _ _ hp, Int.mul_assoc]
      omega
    have : ((x % ((2 ^ 64 : Nat) : Int)).toNat / 2 ^ i % 2 = 1) ↔ (x / ((2 ^ i : Nat) : Int) % 2 = 1) := by
      rw [← hx]; omega
    exact decide_eq_decide.2 this
  rw [e2]
  by_cases h : x / ((2 ^ i : Nat) : Int) % 2 = 1
  · rw [if_pos h, decide_eq_true h, if_pos rfl, BitVec.toNat_twoPow, IntKind.wrap_i64]
    have : 2 ^ i % 2 ^ 64 = 2 ^ i := Nat.mod_eq_of_lt (by omega)
    rw [this]
    omega
  · rw [if_neg h, decide_eq_false h, if_neg (by decide)]
    rfl
theorem Touch.rowB {g : Nat} {t : TypeId} {old cells : Array Value} (w : World) (hg : Blk w g t old) : Touch (fun k => k = g) w (w.setRow g cells) :=
  ⟨rfl, rfl, rfl, by simp [World.setRow], fun k _ hs => (heap_setRow hg).2 k hs⟩
theorem Blk.rangeP {w : World} {g : Nat} {t : TypeId} {cs : Array Value} (h : Blk w g t cs) : w.rangeAt g 0 cs.toList := by
  intro j v hv
  rw [Nat.zero_add, Blk.cell h, ← Array.getElem?_toList]
  exact hv
/-- An append of bytes as a step of a region that draws. -/
theorem step_app {ops : Array Oper} {o : Oper} {a : Act} {w : World} {K : Act → World → Prop} {Q : Exit → Act → World → Prop} {E : Prop} (hgd : o.guard = none) (s x : Operand)
    (ho : o.op = .call { callee := .builtin .append, args := #[s, x], argTypes := #[24, 24] })
    (base : Nat) {v u : Value} {l m : List UInt8} (hown : Ow w base v l) (hr : Rd w u m) (hs : a.eval s = v) (hx : a.eval x = u)
    (hbytes : l.length + m.length ≤ 140737488355328) (hbase : base ≤ w.heap.size)
    (h : ∀ v' w', Ow w' base v' (l ++ m) → Below base w w' → Grew w w' v v' → K (a.put o.dst v') w') : if Region.wanted o (yielded ops a.tmps) = true then Oper.wp Tryd.prog o a w K Q else E := by
  have hw : Region.wanted o (yielded ops a.tmps) = true := by simp [Region.wanted, hgd]
  rw [if_pos hw]
  exact wp_app s x ho base v u l m hown hr hs hx hbytes hbase h
theorem rd_atf (w : World) (xs : Array Value) (l : List UInt8) (fz : Nat × Nat) (n H : Nat) (hl : xs.toList = l.map bv) (hn : l.length = n) (hm : n ≤ 65536) (hH : w.heap.size = H) : Rd (w.alloc (.cells xs 5 fz)) (.slice (some ⟨H, 0, none⟩) n n) l := by
  subst hH
  subst hn
  have hs : xs.size = l.length := by rw [← Array.length_toList, hl, List.length_map]
  refine ⟨some ⟨w.heap.size, 0, none⟩, l.length, by rw [List.length_map], by rw [List.length_map]; exact Nat.le_refl _, by unfold maxLen; omega, .inr ⟨w.heap.size, 0, rfl, by simp, fun j u hu => ?_⟩⟩
  simp only [World.cell?, heap_alloc_new]
  rw [← hl] at hu
  simpa using hu
theorem run_conv_new (w : World) (H : Nat) (hH : w.heap.size = H) (C : Array Value) (n c : Nat) :
    (convert 24 24 (.slice (some ⟨H, 0, none⟩) n c)).run Tryd.prog (w.alloc (.cells C 5)) = .ok (.slice (some ⟨H, 0, none⟩) n c) (w.alloc (.cells C 5 (C.size, C.size + 1))) := by
  subst hH
  exact Lib.run_convert_bytes_const (P := Tryd.prog) w 24 5 C n c Tryd.underlying24 Tryd.underlying5
end Go.Proofs.YtbhdojpgjmbogaaDoor
