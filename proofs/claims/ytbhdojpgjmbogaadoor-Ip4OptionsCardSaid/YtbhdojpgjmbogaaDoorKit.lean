/- Words of memory for rows of bytes: what a slice reads, what a call owns, and the laws of append over them. -/
import Derived.Test.YtbhdojpgjmbogaaDoorProg
import Derived.WalkKit
import Derived.WalkSpells
import Derived.WalkLawsBesides
import Derived.Lib.SliceRun
import Derived.Maps.AppendAt
import Derived.Deep.AppendLies
import Derived.Deep.Draws
import Derived.Lib.Hide
import Derived.Deep.DeepCutAuto
namespace Go.Proofs.YtbhdojpgjmbogaaDoor
open Go.RowKit

theorem add_block (a : Addr) (n : Nat) : (a.add n).block = a.block := by unfold Addr.add; split <;> rfl
theorem add_add_eq (a : Addr) (i j : Nat) : (a.add i).add j = a.add (i + j) := by
  unfold Addr.add
  by_cases hi : i = 0 <;> by_cases hj : j = 0 <;> simp [hi, hj, Nat.add_assoc]

theorem add_lit (b o j : Nat) : (Addr.mk b o none).add j = ⟨b, o + j, none⟩ := by unfold Addr.add; split <;> simp_all
/-- One byte as a value. -/
def bv (x : UInt8) : Value := .int .u8 (x.toNat : Int)
/-- The cells of a row from an address on. -/
def Cells (w : World) (A : Option Addr) (xs : List Value) : Prop :=
  xs = [] ∨ ∃ b o, A = some ⟨b, o, none⟩ ∧ b < w.heap.size ∧ ∀ j u, xs[j]? = some u → w.cell? ⟨b, o + j, none⟩ = some u
/-- A slice value of one-cell elements reads as a list of values. -/
def RdV (w : World) (v : Value) (xs : List Value) : Prop :=
  ∃ A c, v = .slice A xs.length c ∧ xs.length ≤ c ∧ c ≤ maxLen ∧ Cells w A xs
/-- A slice value of bytes reads as a list. -/
def Rd (w : World) (v : Value) (l : List UInt8) : Prop := RdV w v (l.map bv)

theorem Cells.same {w w' : World} {A : Option Addr} {xs : List Value} (h : Cells w A xs) (hs : w.heap.size ≤ w'.heap.size)
    (hb : ∀ ad : Addr, A = some ad → ad.block < w.heap.size → w'.heap[ad.block]? = w.heap[ad.block]?) : Cells w' A xs := by
  rcases h with h | ⟨b, o, ha, hlt, hc⟩
  · exact .inl h
  · exact .inr ⟨b, o, ha, Nat.lt_of_lt_of_le hlt hs, fun j u hu => (World.cell?_of_block (w := w) (a := ⟨b, o + j, none⟩) (hb ⟨b, o, none⟩ ha hlt)).trans (hc j u hu)⟩
theorem Cells.mono {w w' : World} {A : Option Addr} {xs : List Value} (h : Cells w A xs) (hb : Below w.heap.size w w') : Cells w' A xs :=
  h.same hb.size fun ad _ hlt => hb.block ad.block hlt
theorem RdV.mono {w w' : World} {v : Value} {l : List Value} (h : RdV w v l) (hb : Below w.heap.size w w') : RdV w' v l := by
  obtain ⟨A, c, e, h1, h2, h3⟩ := h
  exact ⟨A, c, e, h1, h2, h3.mono hb⟩
theorem Rd.mono {w w' : World} {v : Value} {l : List UInt8} (h : Rd w v l) (hb : Below w.heap.size w w') : Rd w' v l := RdV.mono h hb
theorem RdV.nil (w : World) : RdV w (.slice none 0 0) [] := ⟨none, 0, rfl, Nat.le_refl _, Nat.zero_le _, .inl rfl⟩
theorem Rd.nil (w : World) : Rd w (.slice none 0 0) [] := RdV.nil w
theorem Rd.form {w : World} {v : Value} {l : List UInt8} (h : Rd w v l) : ∃ A c, v = .slice A l.length c ∧ l.length ≤ c ∧ c ≤ 9223372036854775807 := by
  obtain ⟨A, c, e, h1, h2, _⟩ := h
  rw [List.length_map] at e h1
  exact ⟨A, c, e, h1, by unfold maxLen at h2; omega⟩

theorem byte_info : (Tryd.prog.info? 5).map (fun i => (i.zero, i.size, i.bytes)) = some (some (.int .u8 0), 1, 1) := by kernel_rfl

theorem oneCell_bv : ∀ l : List UInt8, ∀ u ∈ l.map bv, u.oneCell' = true := by
  intro l u hu
  obtain ⟨x, _, rfl⟩ := List.mem_map.1 hu
  rfl
theorem bv_inj {x y : UInt8} (h : bv x = bv y) : x = y := by
  unfold bv at h
  injection h with _ h
  exact UInt8.toNat.inj (by omega)
theorem map_bv_inj {l m : List UInt8} (h : l.map bv = m.map bv) : l = m := by
  induction l generalizing m with
  | nil => cases m with
    | nil => rfl
    | cons => simp at h
  | cons x l ih => cases m with
    | nil => simp at h
    | cons y m =>
      simp only [List.map_cons, List.cons.injEq] at h
      rw [bv_inj h.1, ih h.2]

/-- A row of the call's own, of one-cell elements of type e. -/
def OwV (w : World) (base : Nat) (e : TypeId) (v : Value) (xs : List Value) : Prop := w.ownsRow base e 1 v xs.length xs
/-- An owned row of bytes. -/
def Ow (w : World) (base : Nat) (v : Value) (l : List UInt8) : Prop := w.ownsRow base 5 1 v l.length (l.map bv)

theorem owns_block_lt {w : World} {base : Nat} {e : TypeId} {size n : Nat} {v : Value} {xs : List Value} (h : w.ownsRow base e size v n xs) {g : Nat} (hg : v.ownBlock = some g) : base ≤ g ∧ g < w.heap.size :=
  h.lt g hg
theorem owns_same {w w' : World} {base : Nat} {e : TypeId} {size n : Nat} {v : Value} {xs : List Value} (h : w.ownsRow base e size v n xs)
    (hb : ∀ g, v.ownBlock = some g → w'.heap[g]? = w.heap[g]?) : w'.ownsRow base e size v n xs := by
  obtain ⟨h1, h2⟩ := h
  refine ⟨h1, ?_⟩
  rcases h2 with h2 | ⟨g, cap, cur, hv, hg, hh, r⟩
  · exact Or.inl h2
  · exact Or.inr ⟨g, cap, cur, hv, hg, by rw [hb g (by rw [hv]; rfl)]; exact hh, r⟩
theorem owns_mono {w w' : World} {base : Nat} {e : TypeId} {size n : Nat} {v : Value} {xs : List Value} (h : w.ownsRow base e size v n xs) (hb : Below w.heap.size w w') : w'.ownsRow base e size v n xs :=
  owns_same h fun g hg => hb.block g (owns_block_lt h hg).2
theorem Ow.mono {w w' : World} {base : Nat} {v : Value} {l : List UInt8} (h : Ow w base v l) (hb : Below w.heap.size w w') : Ow w' base v l := owns_mono h hb
theorem owns_base {w : World} {base base' : Nat} {e : TypeId} {size n : Nat} {v : Value} {xs : List Value} (h : w.ownsRow base e size v n xs) (hb : base' ≤ base) : w.ownsRow base' e size v n xs := by
  obtain ⟨h1, h2⟩ := h
  refine ⟨h1, ?_⟩
  rcases h2 with h2 | ⟨g, cap, cur, hv, hg, hh, r⟩
  · exact Or.inl h2
  · exact Or.inr ⟨g, cap, cur, hv, Nat.le_trans hb hg, hh, r⟩
theorem Ow.less {w : World} {base base' : Nat} {v : Value} {l : List UInt8} (h : Ow w base v l) (hb : base' ≤ base) : Ow w base' v l := owns_base h hb
theorem Ow.nil (w : World) (base : Nat) : Ow w base (.slice none 0 0) [] := World.ownsRow_nil w base _ 1

theorem owns_rdV {w : World} {base : Nat} {e : TypeId} {v : Value} {xs : List Value} (h : w.ownsRow base e 1 v xs.length xs) : RdV w v xs := by
  have hh := h
  obtain ⟨h1, h2⟩ := h
  rcases h2 with ⟨rfl, h0⟩ | ⟨g, cap, cur, rfl, hb, hg, hn, hcap, hs, ht⟩
  · exact ⟨none, 0, by rw [h0], by omega, Nat.zero_le _, .inl (List.eq_nil_of_length_eq_zero h0)⟩
  · exact ⟨some ⟨g, 0, none⟩, cap, rfl, hn, hcap, .inr ⟨g, 0, rfl, (owns_block_lt hh rfl).2, fun j u hu => by have := hh.cells (g := g) rfl j u hu; rwa [add_lit] at this⟩⟩
theorem Ow.rd {w : World} {base : Nat} {v : Value} {l : List UInt8} (h : Ow w base v l) : Rd w v l := by
  unfold Ow at h
  rw [← List.length_map (f := bv)] at h
  exact owns_rdV h

/-- One run of append: onto an owned row, from whatever reads. -/
theorem run_app {w : World} (T e : TypeId) (i : TypeInfo) (z : Value) (bytes : Nat) (ht : Tryd.prog.underlying T = some (.slice e)) (hi : Tryd.prog.info? e = some i) (hz : i.zero = some z) (hsz : i.size = 1)
    (hby : i.bytes = bytes) (hzs : z.cells.size = 1) (ty : TypeId) (base : Nat) (v u : Value) (xs ys : List Value) (hown : w.ownsRow base e 1 v xs.length xs) (hr : RdV w u ys) (h1 : ∀ y ∈ ys, y.oneCell' = true)
    (h63 : xs.length + ys.length ≤ maxLen) (hbytes : (xs.length + ys.length) * bytes ≤ 140737488355328) (hbase : base ≤ w.heap.size) :
    ∃ v' w', (Builtin.append_ #[T, T] ty #[v, u]).run Tryd.prog w = .ok v' w' ∧ w'.ownsRow base e 1 v' (xs ++ ys).length (xs ++ ys) ∧ w.grownBy w' v.ownBlock ∧ (v'.ownBlock = v.ownBlock ∨ v'.ownBlock = some w.heap.size) := by
  obtain ⟨A, c, rfl, hc1, hc2, hcell⟩ := hr
  have nilcase : ys = [] → A = none → ∃ v' w', (Builtin.append_ #[T, T] ty #[v, .slice A ys.length c]).run Tryd.prog w = .ok v' w' ∧ w'.ownsRow base e 1 v' (xs ++ ys).length (xs ++ ys) ∧ w.grownBy w' v.ownBlock ∧ (v'.ownBlock = v.ownBlock ∨ v'.ownBlock = some w.heap.size) := by
    rintro rfl rfl
    refine ⟨v, w, ?_, by simpa using hown, World.grownBy.refl w _, .inl rfl⟩
    rcases hown.2 with ⟨rfl, h0⟩ | ⟨g, cap, cur, rfl, _, _, hnc, _⟩
    · simp [Builtin.append_, run_underlying ht, sizeOf, typeInfo, hi, Builtin.lenOf, Builtin.firstCells]
    · simp [Builtin.append_, run_underlying ht, sizeOf, typeInfo, hi, Builtin.lenOf, Builtin.firstCells, hnc, storeCells]
  have go : ∀ ad, A = some ad → (∀ j y, ys[j]? = some y → w.cell? (ad.add j) = some y) → ∃ v' w', (Builtin.append_ #[T, T] ty #[v, .slice A ys.length c]).run Tryd.prog w = .ok v' w' ∧ w'.ownsRow base e 1 v' (xs ++ ys).length (xs ++ ys) ∧ w.grownBy w' v.ownBlock ∧ (v'.ownBlock = v.ownBlock ∨ v'.ownBlock = some w.heap.size) := by
    rintro ad rfl hcells
    obtain ⟨v', w', hrun, h2, h3, _, h5⟩ := run_append_own_at (P := Tryd.prog) w base T ty e i z 1 bytes ht hi hz hsz hby hzs (by decide) v xs.length xs hown ad ys.length c ys (by simp) hcells h1 h63 hbytes hbase
    exact ⟨v', w', hrun, by rw [List.length_append]; exact h2, h3, h5⟩
  rcases hcell with h0 | ⟨b, o, ha, _, hcs⟩
  · cases A with
    | none => exact nilcase h0 rfl
    | some ad => exact go ad rfl (by subst h0; simp)
  · exact go _ ha fun j y hy => by rw [add_lit]; exact hcs j y hy

theorem und_bytes : Tryd.prog.underlying 24 = some (.slice 5) := Tryd.underlying24

/-- What an append onto an owned row from B on leaves below B. -/
theorem below_app {w w' : World} {B base : Nat} {e : TypeId} {size n : Nat} {v : Value} {xs : List Value} (h : w.ownsRow base e size v n xs) (hg : w.grownBy w' v.ownBlock) (hB : B ≤ base) (hBw : B ≤ w.heap.size) : Below B w w' :=
  (Below.refl B w).grown hg hBw fun k hk => Nat.le_trans hB (h.lt k hk).1
/-- What an append has turned: the row of its own, and where the new one lies. -/
def Grew (w w' : World) (v v' : Value) : Prop := w.grownBy w' v.ownBlock ∧ (v'.ownBlock = v.ownBlock ∨ v'.ownBlock = some w.heap.size)
/-- append of bytes, at the operation. -/
theorem wp_app {o : Oper} {a : Act} {K : Act → World → Prop} {Q : Exit → Act → World → Prop} {w : World} (s x : Operand)
    (ho : o.op = .call { callee := .builtin .append, args := #[s, x], argTypes := #[24, 24] })
    (base : Nat) (v u : Value) (l m : List UInt8) (hown : Ow w base v l) (hr : Rd w u m) (hs : a.eval s = v) (hx : a.eval x = u)
    (hbytes : l.length + m.length ≤ 140737488355328) (hbase : base ≤ w.heap.size)
    (h : ∀ v' w', Ow w' base v' (l ++ m) → Below base w w' → Grew w w' v v' → K (a.put o.dst v') w') :
    o.wp Tryd.prog a w K Q := by
  obtain ⟨i, hi, hz, hz1, hz2⟩ := info_parts byte_info
  have hown0 := hown
  unfold Ow at hown
  rw [← List.length_map (f := bv)] at hown
  obtain ⟨v', w', hrun, h2, h3, h4⟩ := run_app 24 5 i _ 1 und_bytes hi hz hz1 hz2 rfl o.type base v u (l.map bv) (m.map bv) hown hr (oneCell_bv m) (by simp only [List.length_map, maxLen]; omega) (by simp only [List.length_map]; omega) hbase
  unfold Oper.wp execOp
  simp only [ho, resolve, invoke, builtin, Sem.run_bind, Sem.run_pure, Result.andThen_ok, List.map_toArray, List.map_cons, List.map_nil, hs, hx, hrun]
  refine h v' w' ?_ (below_app hown0 h3 (Nat.le_refl _) hbase) ⟨h3, h4⟩
  unfold Ow
  rw [← List.map_append, List.length_map] at h2
  exact h2
theorem wpList_app {ops : Array Oper} {rest : List Oper} {o : Oper} {a : Act} {Q : Exit → Act → World → Prop} {w : World} (hgd : o.guard = none) (s x : Operand)
    (ho : o.op = .call { callee := .builtin .append, args := #[s, x], argTypes := #[24, 24] })
    (base : Nat) {v u : Value} {l m : List UInt8} (hown : Ow w base v l) (hr : Rd w u m) (hs : a.eval s = v) (hx : a.eval x = u)
    (hbytes : l.length + m.length ≤ 140737488355328) (hbase : base ≤ w.heap.size)
    (h : ∀ v' w', Ow w' base v' (l ++ m) → Below base w w' → Grew w w' v v' → wpList Tryd.prog ops Q rest (a.put o.dst v') w') :
    wpList Tryd.prog ops Q (o :: rest) a w :=
  wpList_plain hgd fun _ hK => wp_app s x ho base v u l m hown hr hs hx hbytes hbase fun v' w' h1 h2 h3 => hK _ _ (h v' w' h1 h2 h3)

/-- The lowest eight bits. -/
def by8 (n : Int) : UInt8 := UInt8.ofNat (n % 256).toNat
theorem by8_toNat (n : Int) : ((by8 n).toNat : Int) = n % 256 := by
  unfold by8
  rw [UInt8.toNat_ofNat']
  omega
theorem bv_by8 (n : Int) : bv (by8 n) = .int .u8 (n % 256) := by unfold bv; rw [by8_toNat]
/-- A block that has just been made reads as its cells. -/
theorem rdV_new (w : World) (e : TypeId) (xs : Array Value) (n : Nat) (hn : xs.size = n) (hm : n ≤ maxLen) : RdV (w.alloc (.cells xs e)) (.slice (some ⟨w.heap.size, 0, none⟩) n n) xs.toList := by
  subst hn
  refine ⟨some ⟨w.heap.size, 0, none⟩, xs.size, by rw [Array.length_toList], by simp, hm, .inr ⟨w.heap.size, 0, rfl, by simp, fun j u hu => ?_⟩⟩
  simp only [World.cell?, heap_alloc_new]
  simpa using hu
theorem rd_new (w : World) (xs : Array Value) (l : List UInt8) (n : Nat) (hl : xs.toList = l.map bv) (hn : l.length = n) (hm : n ≤ 65536) : Rd (w.alloc (.cells xs 5)) (.slice (some ⟨w.heap.size, 0, none⟩) n n) l := by
  unfold Rd
  rw [← hl]
  exact rdV_new w _ xs n (by rw [← Array.length_toList, hl]; simp [hn]) (by unfold maxLen; omega)
theorem rd_at (w : World) (xs : Array Value) (l : List UInt8) (n H : Nat) (hl : xs.toList = l.map bv) (hn : l.length = n) (hm : n ≤ 65536) (hH : w.heap.size = H) : Rd (w.alloc (.cells xs 5)) (.slice (some ⟨H, 0, none⟩) n n) l := by
  subst hH
  exact rd_new w xs l n hl hn hm
theorem ow_made (w : World) (base : Nat) (h : base ≤ w.heap.size) : Ow (w.alloc (.cells #[] 5)) base (.slice (some ⟨w.heap.size, 0, none⟩) 0 0) [] :=
  World.ownsRow_made (base := base) (e := 5) (size := 1) w #[] 0 h (by simp [maxLen]) (by simp)
theorem below_alloc (w : World) (o : Obj) : Below w.heap.size w (w.alloc o) := (Below.refl _ _).alloc (Nat.le_refl _) _
/-- Behind what was kept from w on, what is kept from w1 on. -/
theorem below_step {B : Nat} {w w1 w2 : World} (h : Below B w w1) (hB : B ≤ w1.heap.size) (h2 : Below w1.heap.size w1 w2) : Below B w w2 := h.trans (h2.mono hB)

/-- What a bound of a slice expression is. -/
def IsBound (a : Act) (x : Option Operand) (dflt n : Int) : Prop := (x = none ∧ n = dflt) ∨ ∃ y k, x = some y ∧ a.eval y = .int k n
theorem IsBound.no {a : Act} {n : Int} : IsBound a none n n := .inl ⟨rfl, rfl⟩
theorem IsBound.yes {a : Act} {y : Operand} {k : IntKind} {d n m : Int} (h : a.eval y = .int k m) (hm : m = n) : IsBound a (some y) d n := .inr ⟨y, k, rfl, by rw [h, hm]⟩
theorem drop_map_add (A : Option Addr) (c l n : Nat) (w : World) (xs : List Value) (hA : Cells w A xs) (hn : n ≤ xs.length) (hc : xs.length ≤ c) :
    Cells w (if c = l then A else A.map (·.add (l * 1))) ((xs.take n).drop l) := by
  rcases hA with h | ⟨b, o, rfl, hlt, hcs⟩
  · left; subst h; simp
  · by_cases e : c = l
    · left
      apply List.eq_nil_of_length_eq_zero
      simp; omega
    · right
      rw [if_neg e]
      refine ⟨b, o + l, by simp [add_lit], hlt, fun j u hu => ?_⟩
      rw [Nat.add_assoc]
      refine hcs (l + j) u ?_
      rw [List.getElem?_drop, List.getElem?_take] at hu
      split at hu
      · exact hu
      · cases hu
theorem run_slice_rdV {w : World} (T e : TypeId) (i : TypeInfo) (ht : Tryd.prog.underlying T = some (.slice e)) (hi : Tryd.prog.info? e = some i) (hsz : i.size = 1) (v : Value) (xs : List Value) (hr : RdV w v xs)
    (a : Act) (lo hi' : Option Operand) (L H : Int) (hlo : IsBound a lo 0 L) (hhi : IsBound a hi' xs.length H) (h0 : 0 ≤ L) (h1 : L ≤ H) (h2 : H ≤ xs.length) :
    ∃ v', (Instr.sliceAt T v (lo.map a.eval) (hi'.map a.eval) none).run Tryd.prog w = .ok v' w ∧ RdV w v' ((xs.take H.toNat).drop L.toNat) := by
  obtain ⟨A, c, rfl, hc1, hc2, hcell⟩ := hr
  obtain ⟨l, rfl⟩ := Int.eq_ofNat_of_zero_le h0
  obtain ⟨h, rfl⟩ := Int.eq_ofNat_of_zero_le (Int.le_trans h0 h1)
  simp only [Int.toNat_natCast]
  have hlen : ((xs.take h).drop l).length = h - l := by simp; omega
  refine ⟨.slice (if c = l then A else A.map (·.add (l * 1))) ((xs.take h).drop l).length (c - l), ?_, ⟨_, _, rfl, by rw [hlen]; omega, by omega, drop_map_add A c l h w xs hcell (by omega) hc1⟩⟩
  rw [hlen]
  have hb : (Instr.sliceBounds true xs.length c (lo.map a.eval) (hi'.map a.eval) none).run Tryd.prog w = .ok (l, h, c) w := by
    rcases hlo with ⟨rfl, e1⟩ | ⟨y, k, rfl, e1⟩ <;> rcases hhi with ⟨rfl, e2⟩ | ⟨y', k', rfl, e2⟩
    · simp [Instr.sliceBounds]; omega
    · have hle : h ≤ c := by omega
      simp [Instr.sliceBounds, e2, Instr.sliceBound, asIntOf, hle]; omega
    · have hle : l ≤ xs.length := by omega
      simp [Instr.sliceBounds, e1, Instr.sliceBound, asIntOf, hle]; omega
    · have hle : h ≤ c := by omega
      have hle2 : l ≤ h := by omega
      simp [Instr.sliceBounds, e1, e2, Instr.sliceBound, asIntOf, hle, hle2]
  simp [Instr.sliceAt, Instr.slice, run_underlying ht, hb, sizeOf, typeInfo, hi, hsz]
theorem wpList_slice {ops : Array Oper} {rest : List Oper} {o : Oper} {a : Act} {Q : Exit → Act → World → Prop} {w : World} (hgd : o.guard = none) (x : Operand) (lo hi : Option Operand)
    (ho : o.op = .slice 24 x lo hi none) (v : Value) (l : List UInt8) (hx : a.eval x = v) (hr : Rd w v l) (L H : Int) (hlo : IsBound a lo 0 L) (hhi : IsBound a hi l.length H) (h0 : 0 ≤ L) (h1 : L ≤ H) (h2 : H ≤ l.length)
    (h : ∀ (m : List UInt8) (A : Option Addr) (c : Nat), Hid (m = (l.take H.toNat).drop L.toNat) → H - L ≤ m.length → m.length ≤ H - L → m.length ≤ c → c ≤ 9223372036854775807 → Rd w (.slice A m.length c) m → wpList Tryd.prog ops Q rest (a.put o.dst (.slice A m.length c)) w) :
    wpList Tryd.prog ops Q (o :: rest) a w := by
  obtain ⟨i, hi', hz, hz1, hz2⟩ := info_parts byte_info
  obtain ⟨v', hrun, hr'⟩ := run_slice_rdV 24 5 i und_bytes hi' hz1 v (l.map bv) hr a lo hi L H hlo (by rw [List.length_map]; exact hhi) h0 h1 (by rw [List.length_map]; exact h2)
  refine wpList_plain hgd fun K hK => ?_
  rw [← List.map_take, ← List.map_drop] at hr'
  obtain ⟨m, hm⟩ : ∃ m, m = (l.take H.toNat).drop L.toNat := ⟨_, rfl⟩
  have e3 : H - L ≤ m.length := by rw [hm]; simp; omega
  have e4 : m.length ≤ H - L := by rw [hm]; simp; omega
  rw [← hm] at hr'
  obtain ⟨A, c, rfl, e1, e2⟩ := Rd.form hr'
  unfold Oper.wp
  simp only [execOp, ho, hx, Option.map_none] at hrun ⊢
  simp [hrun, Result.andThen]
  exact hK _ _ (h m A c hm e3 e4 e1 e2 hr')
/-- A cell of a slice that reads. -/
theorem Rd.at_ {w : World} {A : Option Addr} {n c : Nat} {l : List UInt8} (h : Rd w (.slice A n c) l) (k : Nat) (hk : k < l.length) :
    ∃ b o, A = some ⟨b, o, none⟩ ∧ b < w.heap.size ∧ ∀ j, (hj : j < l.length) → w.cell? ⟨b, o + j, none⟩ = some (.int .u8 (l[j].toNat : Int)) := by
  obtain ⟨A', c', e, _, _, h3⟩ := h
  injection e with e1 e2 e3
  subst e1
  rcases h3 with h | ⟨b, o, ha, hlt, hc⟩
  · simp at h; subst h; simp at hk
  · refine ⟨b, o, ha, hlt, fun j hj => hc j _ ?_⟩
    rw [List.getElem?_map, List.getElem?_eq_getElem hj]
    rfl
/-- A block that is known whole: a variable that was boxed. -/
def Blk (w : World) (g : Nat) (t : TypeId) (cs : Array Value) : Prop := w.heap[g]? = some (.cells cs t (0, 0))
theorem Blk.lt {w : World} {g : Nat} {t : TypeId} {cs : Array Value} (h : Blk w g t cs) : g < w.heap.size := by
  rcases Nat.lt_or_ge g w.heap.size with hlt | hge
  · exact hlt
  · unfold Blk at h; rw [Array.getElem?_eq_none hge] at h; cases h
theorem Blk.new (w : World) (t : TypeId) (cs : Array Value) (g : Nat) (hg : w.heap.size = g) : Blk (w.alloc (.cells cs t)) g t cs := by subst hg; exact heap_alloc_new w _
theorem Blk.alloc {w : World} {g : Nat} {t : TypeId} {cs : Array Value} (h : Blk w g t cs) (o : Obj) : Blk (w.alloc o) g t cs := (Below.heap_alloc w o g h.lt).trans h
theorem Blk.keep {w w' : World} {B g : Nat} {t : TypeId} {cs : Array Value} (h : Blk w g t cs) (hb : Below B w w') (hg : g < B) : Blk w' g t cs := (hb.block g hg).trans h
theorem Blk.mono {w w' : World} {g : Nat} {t : TypeId} {cs : Array Value} (h : Blk w g t cs) (hb : Below w.heap.size w w') : Blk w' g t cs := h.keep hb h.lt
theorem Blk.drew {w : World} {g : Nat} {t : TypeId} {cs : Array Value} (h : Blk w g t cs) (n : Nat) : Blk (w.drewN n) g t cs := h
theorem Blk.cell {w : World} {g : Nat} {t : TypeId} {cs : Array Value} (h : Blk w g t cs) (i : Nat) : w.cell? ⟨g, i, none⟩ = cs[i]? := cell_of_row w g i cs t (0, 0) h
theorem Blk.free {w : World} {g : Nat} {t : TypeId} {cs : Array Value} (h : Blk w g t cs) (i : Nat) : w.frozen? ⟨g, i, none⟩ = false := by
  unfold Blk at h
  simp [World.frozen?, h]
theorem Blk.set {w : World} {g : Nat} {t : TypeId} {cs : Array Value} (h : Blk w g t cs) (i : Nat) (u : Value) : Blk (w.setCell ⟨g, i, none⟩ u) g t (cs.setIfInBounds i u) := by
  unfold Blk at h ⊢
  simp [World.setCell, Array.getElem?_modify, h]
theorem Blk.far {w : World} {g : Nat} {t : TypeId} {cs : Array Value} (h : Blk w g t cs) {p : Addr} (hp : g ≠ p.block) (u : Value) : Blk (w.setCell p u) g t cs := (Below.heap_setCell w p u g hp).trans h
def aggD (d : TypeDesc) : Bool := match d with | .struct _ | .array _ _ => true | _ => false
/-- A whole variable that was boxed is loaded. -/
theorem wpList_loadB {ops : Array Oper} {rest : List Oper} {o : Oper} {a : Act} {w : World} {Q : Exit → Act → World → Prop} (hgd : o.guard = none) (ty : TypeId) (x : Operand) (ho : o.op = .load ty x)
    {g : Nat} {t : TypeId} {cs : Array Value} (hg : Blk w g t cs) (hx : a.eval x = .pointer (some ⟨g, 0, none⟩)) {d : TypeDesc}
    (hu : Tryd.prog.underlying ty = some d) (hd : aggD d = true) (hi : (Tryd.prog.info? ty).map (·.size) = some cs.size)
    (h : wpList Tryd.prog ops Q rest (a.put o.dst (.agg cs)) w) : wpList Tryd.prog ops Q (o :: rest) a w :=
  wpList_load_row hgd ty x ho g hx t cs (0, 0) d hg hu (by unfold aggD at hd; cases d <;> simp_all) hi h
theorem RdV.drew {w : World} {v : Value} {l : List Value} (h : RdV w v l) : RdV w.drew v l := h
theorem Rd.drew {w : World} {v : Value} {l : List UInt8} (h : Rd w v l) : Rd w.drew v l := h
theorem Ow.drew {w : World} {b : Nat} {v : Value} {l : List UInt8} (h : Ow w b v l) : Ow w.drew b v l := h
theorem below4 (w : World) (a b c d : Obj) : Below w.heap.size w ((((w.alloc a).alloc b).alloc c).alloc d).drew :=
  (((((Below.refl w.heap.size w).alloc (Nat.le_refl _) a).alloc (by simp) b).alloc (by simp; omega) c).alloc (by simp; omega) d).drew
/-- A look at which slot the operation writes that stands next. -/
theorem at_slot {P : Program} {ops : Array Oper} {rest : List Oper} {op : Op} {ty : TypeId} {pos : String} {af : Array Edge} {g : Option (Nat × Bool)} {a : Act} {Q : Exit → Act → World → Prop} {w : World} (n : Nat)
    (h : wpList P ops Q (⟨some n, op, ty, pos, af, g⟩ :: rest) a w) : wpList P ops Q (⟨some n, op, ty, pos, af, g⟩ :: rest) a w := h
end Go.Proofs.YtbhdojpgjmbogaaDoor
