/- packhorseref13.Ports: who has which port, as a list. -/
import Derived.Test.YtbhdojpgjmbogaaFreeLaw
import Derived.Test.YtbhdojpgjmbogaaOps
namespace Go.Proofs.Ytbhdojpgjmbogaa
open Go.RowKit Go.Maps
/-- A list says what a map of ports says. -/
structure Book (f : Int → Option Int) (E : List (Int × Int)) : Prop where
  has : ∀ x ∈ E, f x.1 = some x.2
  all : ∀ k, InI k → (f k).isSome = true → k ∈ E.map Prod.fst
  nodup : (E.map Prod.fst).Nodup
  ini : ∀ x ∈ E, InI x.1
theorem Book.nil : Book (fun _ => none) [] := ⟨fun x h => by simp at h, fun k _ h => by simp at h, List.nodup_nil, fun x h => by simp at h⟩
theorem Book.bind {f : Int → Option Int} {E : List (Int × Int)} (h : Book f E) {m who : Int} (hm : f m = none) (hb : InI m) : Book (upd f m who) (E ++ [(m, who)]) := by
  have hne : ∀ x ∈ E, x.1 ≠ m := fun x hx e => by have := h.has x hx; rw [e, hm] at this; cases this
  refine ⟨fun x hx => ?_, fun k hk hs => ?_, ?_, fun x hx => by rcases List.mem_append.1 hx with hx | hx; exact h.ini x hx; simp at hx; subst hx; exact hb⟩
  · rcases List.mem_append.1 hx with hx | hx
    · simp only [upd, if_neg (hne x hx)]; exact h.has x hx
    · simp at hx; subst hx; simp [upd]
  · by_cases e : k = m
    · subst e; simp
    · simp only [upd, if_neg e] at hs
      have := h.all k hk hs
      simp only [List.map_append, List.mem_append]
      exact .inl this
  · rw [List.map_append]
    refine List.nodup_append.2 ⟨h.nodup, by simp, fun a ha b hb => ?_⟩
    obtain ⟨x, hx, rfl⟩ := List.mem_map.1 ha
    simp at hb
    subst hb
    exact hne x hx
theorem Book.free {f : Int → Option Int} {E : List (Int × Int)} (h : Book f E) (who : Int) : Book (freeP f who) (E.filter fun x => x.2 != who) := by
  refine ⟨fun x hx => ?_, fun k hk hs => ?_, ?_, fun x hx => h.ini x (List.mem_filter.1 hx).1⟩
  · obtain ⟨h1, h2⟩ := List.mem_filter.1 hx
    have h3 := h.has x h1
    have h4 : x.2 ≠ who := by simpa using h2
    simp [freeP, h3, h4]
  · unfold freeP at hs
    split at hs
    · cases hs
    · rename_i hne
      obtain ⟨x, hx, rfl⟩ := List.mem_map.1 (h.all k hk hs)
      exact List.mem_map.2 ⟨x, List.mem_filter.2 ⟨hx, by have := h.has x hx; simp; intro e; exact hne (by rw [this, e])⟩, rfl⟩
  · exact h.nodup.sublist ((List.filter_sublist).map _)
/-- The cells of ports and whose they are. -/
def pcells (E : List (Int × Int)) : List Value := E.flatMap fun x => [.int .i64 x.1, .int .i64 x.2]
theorem pcells_len (E : List (Int × Int)) : (pcells E).length = E.length * 2 := by
  induction E with
  | nil => rfl
  | cons x E ih =>
    have : pcells (x :: E) = [.int .i64 x.1, .int .i64 x.2] ++ pcells E := rfl
    rw [this, List.length_append, ih]
    simp
    omega
theorem pcells_at (E : List (Int × Int)) (j : Nat) (h : j < E.length) : (pcells E)[j * 2]? = some (.int .i64 E[j].1) ∧ (pcells E)[j * 2 + 1]? = some (.int .i64 E[j].2) := by
  induction E generalizing j with
  | nil => simp at h
  | cons x E ih =>
    have e : pcells (x :: E) = .int .i64 x.1 :: .int .i64 x.2 :: pcells E := rfl
    match j with
    | 0 => exact ⟨rfl, rfl⟩
    | j + 1 =>
      have := ih j (by simpa using h)
      rw [e]
      have e1 : (j + 1) * 2 = j * 2 + 2 := by omega
      rw [e1]
      exact this
/-- A row of ports that a call owns. -/
def OwP (w : World) (base : Nat) (v : Value) (E : List (Int × Int)) : Prop := w.ownsRow base 49 2 v E.length (pcells E)
theorem OwP.mono {w w' : World} {base : Nat} {v : Value} {E : List (Int × Int)} (h : OwP w base v E) (hb : Below w.heap.size w w') : OwP w' base v E := owns_mono h hb
theorem OwP.nil (w : World) (base : Nat) : OwP w base (.slice none 0 0) [] := World.ownsRow_nil w base _ 2
theorem OwP.same {w w' : World} {base : Nat} {v : Value} {E : List (Int × Int)} (h : OwP w base v E) (hb : ∀ g, v.ownBlock = some g → w'.heap[g]? = w.heap[g]?) : OwP w' base v E := owns_same h hb
theorem OwP.lt {w : World} {base : Nat} {v : Value} {E : List (Int × Int)} (h : OwP w base v E) {g : Nat} (hg : v.ownBlock = some g) : base ≤ g ∧ g < w.heap.size := owns_block_lt h hg
theorem OwP.less' {w : World} {base base' : Nat} {v : Value} {E : List (Int × Int)} (h : OwP w base v E) (hb : base' ≤ base) : OwP w base' v E := owns_base h hb
theorem Touch.of_below' {S : Nat → Prop} {w w' : World} (h : Below w.heap.size w w') : Touch S w w' := ⟨h.os, h.tape, h.output, h.size, fun k hk _ => h.block k hk⟩
theorem OwP.form {w : World} {base : Nat} {v : Value} {E : List (Int × Int)} (h : OwP w base v E) : ∃ A c, v = .slice A E.length c ∧ E.length ≤ c ∧ c ≤ 9223372036854775807 := by
  rcases h.2 with ⟨rfl, h0⟩ | ⟨g, cap, cur, rfl, _, _, hn, hc, _⟩
  · exact ⟨none, 0, by rw [h0], by omega, by omega⟩
  · exact ⟨_, cap, rfl, hn, hc⟩
theorem OwP.at_ {w : World} {base : Nat} {A : Option Addr} {n c : Nat} {E : List (Int × Int)} (h : OwP w base (.slice A n c) E) (k : Nat) (hk : k < E.length) :
    ∃ b, A = some ⟨b, 0, none⟩ ∧ w.cell? ⟨b, k * 2, none⟩ = some (.int .i64 E[k].1) ∧ w.cell? ⟨b, k * 2 + 1, none⟩ = some (.int .i64 E[k].2) := by
  have hh := h
  rcases h.2 with ⟨e, h0⟩ | ⟨g, cap, cur, e, _, _, _⟩
  · omega
  · injection e with e1 e2 e3
    subst e1
    obtain ⟨p0, p1⟩ := pcells_at E k hk
    have c0 := World.ownsRow.cells (g := g) hh rfl _ _ p0
    have c1 := World.ownsRow.cells (g := g) hh rfl _ _ p1
    rw [add_lit, Nat.zero_add] at c0 c1
    exact ⟨g, rfl, c0, c1⟩
set_option maxHeartbeats 1600000 in
theorem rwho (w : World) {rp base : Nat} {v : Value} {f : Int → Option Int} {E : List (Int × Int)} {nx : Int} (hB : Blk w rp 40 #[v, .int .i64 nx]) (ho : OwP w base v E) (hK : Book f E) (hl : E.length ≤ 300) (k : Int) (hk : InI k) :
    Calls Try.prog 27 #[.pointer (some ⟨rp, 0, none⟩), .int .i64 k] w fun e w' => e = .returned (.tuple #[.int .i64 ((f k).getD 0), .bool (f k).isSome]) ∧ w = w' := by
  have h0 := hB.cell 0
  simp only [List.getElem?_toArray, List.getElem?_cons_zero] at h0
  obtain ⟨A, c, rfl, hc1, hc2⟩ := ho.form
  go_enter Try.func27, Try.ntmps27
  have hl9 : E.length ≤ 9223372036854775807 := by omega
  have HK := Lib.hid hK
  clear hK
  go_wp2
  go_loopw [6] (fun i wr => ∃ j : Nat, i = .int .i64 j ∧ j ≤ E.length ∧ Hid (∀ t (_ : t < j) (h : t < E.length), E[t].1 ≠ k) ∧ wr = w) (fun i _ => E.length - (intOf i).toNat)
  case atStart => exact ⟨0, rfl, Nat.zero_le _, fun t h => by omega, rfl⟩
  case round =>
    obtain ⟨j, rfl, hj, hno, rfl⟩ := hrel
    by_cases hjl : j < E.length
    · obtain ⟨g, rfl, c0, c1⟩ := ho.at_ j hjl
      have hxy := HK.out.has E[j] (List.getElem_mem hjl)
      obtain ⟨⟨x, y⟩, hE1⟩ : ∃ e, e = E[j] := ⟨_, rfl⟩
      rw [← hE1] at c0 c1 hxy
      have HE1 := Lib.hid hE1
      clear hE1
      dsimp only at c0 c1 hxy
      by_cases hxk : x = k
      · subst hxk
        go_wp2
        go_ret2
        exact ⟨by rw [hxy]; rfl, rfl⟩
      · have gx : (x == k) = false := by simpa using hxk
        clear hxy
        go_wp2
        go_roundw
        case rel => exact ⟨j + 1, by go_num, by omega, fun t ht h => by
          rcases Nat.lt_or_ge t j with h1 | h1
          · exact hno.out t h1 h
          · obtain rfl : t = j := by omega
            rw [← HE1.out]
            exact hxk, trivial⟩
        case measure => simp [intOf]; omega
    · obtain rfl : j = E.length := by omega
      have hf : f k = none := by
        cases hfk : f k with
        | none => rfl
        | some y =>
          exfalso
          have hm := HK.out.all k hk (by rw [hfk]; rfl)
          obtain ⟨t, ht, e⟩ := List.mem_iff_getElem.1 hm
          have ht' : t < E.length := by simpa using ht
          rw [List.getElem_map] at e
          exact hno.out t ht' ht' e
      go_wp2
      go_ret2
      exact ⟨by rw [hf]; rfl, rfl⟩
theorem port_info : (Try.prog.info? 49).map (fun i => (i.zero, i.size, i.bytes)) = some (some (.agg #[.int .i64 0, .int .i64 0]), 2, 16) := by kernel_rfl
/-- append of one port. -/
theorem wpList_appP {ops : Array Oper} {rest : List Oper} {o : Oper} {a : Act} {Q : Exit → Act → World → Prop} {w : World} (hgd : o.guard = none) (s x : Operand)
    (ho : o.op = .call { callee := .builtin .append, args := #[s, x], argTypes := #[38, 38] })
    (base : Nat) {v : Value} {E : List (Int × Int)} {g : Nat} {y z : Int} (hown : OwP w base v E) (hs : a.eval s = v) (hx : a.eval x = .slice (some ⟨g, 0, none⟩) 1 1)
    (c0 : w.cell? ⟨g, 0, none⟩ = some (.int .i64 y)) (c1 : w.cell? ⟨g, 1, none⟩ = some (.int .i64 z))
    (hbytes : E.length ≤ 65536) (hbase : base ≤ w.heap.size)
    (h : ∀ v' w', OwP w' base v' (E ++ [(y, z)]) → Below base w w' → Grew w w' v v' → wpList Try.prog ops Q rest (a.put o.dst v') w') :
    wpList Try.prog ops Q (o :: rest) a w := by
  refine wpList_plain hgd fun K hK => ?_
  obtain ⟨i, hi, hz, hz1, hz2⟩ := info_parts port_info
  obtain ⟨v', w', hrun, h2, h3, _, h5⟩ := run_append_own_at (P := Try.prog) w base 38 o.type 49 i _ 2 16 Try.underlying38 hi hz hz1 hz2 rfl (by decide) v E.length (pcells E) hown ⟨g, 0, none⟩ 1 1 [.int .i64 y, .int .i64 z] rfl
    (fun j u hu => by
      match j with
      | 0 => rw [add_lit]; simp at hu; subst hu; exact c0
      | 1 => rw [add_lit]; simp at hu; subst hu; exact c1
      | j + 2 => simp at hu) (by simp [Value.oneCell']) (by unfold maxLen; omega) (by omega) hbase
  unfold Oper.wp execOp
  simp only [ho, resolve, invoke, builtin, Sem.run_bind, Sem.run_pure, Result.andThen_ok, List.map_toArray, List.map_cons, List.map_nil, hs, hx, hrun]
  refine hK _ _ (h v' w' ?_ (below_app hown h3 (Nat.le_refl _) hbase) ⟨h3, h5⟩)
  unfold OwP
  have e : pcells (E ++ [(y, z)]) = pcells E ++ [.int .i64 y, .int .i64 z] := by simp [pcells]
  rw [e, List.length_append]
  exact h2
/-- Where the reference's ports lie. -/
def RAt (w : World) (base rp : Nat) (E : List (Int × Int)) (nx : Int) : Prop :=
  ∃ v, Blk w rp 40 #[v, .int .i64 nx] ∧ OwP w base v E ∧ (∀ g, v.ownBlock = some g → g ≠ rp)
set_option maxHeartbeats 3200000 in
theorem rfree (w : World) {rp base : Nat} {E : List (Int × Int)} {nx : Int} (h : RAt w base rp E nx) (hl : E.length ≤ 300) (hb : base ≤ w.heap.size) (who : Int) :
    Calls Try.prog 23 #[.pointer (some ⟨rp, 0, none⟩), .int .i64 who] w fun e w' => (∃ v, e = .returned v) ∧ RAt w' base rp (E.filter fun x => x.2 != who) nx ∧ Touch (fun k => k = rp ∨ base ≤ k) w w' := by
  obtain ⟨v, hB, ho, hne⟩ := h
  have hl9 : E.length ≤ 9223372036854775807 := by omega
  have hpl := hB.lt
  obtain ⟨A, c, rfl, hc1, hc2⟩ := ho.form
  go_enter Try.func23, Try.ntmps23
  have hO0 := OwP.nil w w.heap.size
  go_wp2
  go_loopw [4, 5] (fun u i ws => ∃ j : Nat, i = .int .i64 j ∧ j ≤ E.length ∧ OwP ws w.heap.size u ((E.take j).filter fun x => x.2 != who) ∧ Below w.heap.size w ws) (fun _ i _ => E.length - (intOf i).toNat)
  case atStart => exact ⟨0, rfl, Nat.zero_le _, hO0, Below.refl _ _⟩
  case round =>
    obtain ⟨j, rfl, hj, hou, hBs⟩ := hrel
    clear hO0
    have hBw := hB.keep hBs hpl
    have p0 := hBw.cell 0
    simp only [List.getElem?_toArray, List.getElem?_cons_zero] at p0
    by_cases hjl : j < E.length
    · obtain ⟨g, rfl, c0, c1⟩ := (ho.mono hBs).at_ j hjl
      have htk : E.take (j + 1) = E.take j ++ [E[j]] := List.take_succ_eq_append_getElem hjl
      have HTK := Lib.hid htk
      obtain ⟨⟨x, y⟩, hE1⟩ : ∃ e, e = E[j] := ⟨_, rfl⟩
      rw [← hE1] at c0 c1
      have HE1 := Lib.hid hE1
      clear htk hE1
      dsimp only at c0 c1
      by_cases hyq : y = who
      · subst hyq
        go_wp2
        go_roundw
        case rel => exact ⟨j + 1, by go_num, by omega, by rw [HTK.out, List.filter_append, ← HE1.out]; simpa using hou, hBs⟩
        case measure => simp [intOf]; omega
      · have gy : (y != who) = true := by simpa using hyq
        have hlen : ((E.take j).filter fun x => x.2 != who).length ≤ 300 := Nat.le_trans (List.length_filter_le _ _) (by simp; omega)
        have hBA := below_alloc wr (.cells #[.int .i64 x, .int .i64 y] 49)
        have hou1 := hou.mono hBA
        have hN : Blk (wr.alloc (.cells #[.int .i64 x, .int .i64 y] 49)) wr.heap.size 49 #[.int .i64 x, .int .i64 y] := Blk.new _ _ _ _ rfl
        have d0 := hN.cell 0
        have d1 := hN.cell 1
        have zs := hBs.size
        simp only [List.getElem?_toArray, List.getElem?_cons_zero, List.getElem?_cons_succ] at d0 d1
        have HN := Lib.hid (And.intro d0 d1)
        clear d0 d1 hN
        go_wp2_with ((with_reducible refine at_slot 34 ?_); refine wpList_appP rfl (.tmp 25) (.tmp 33) rfl w.heap.size hou1 rfl rfl HN.out.1 HN.out.2 (by omega) (by simp; omega) ?_; intro v5 w5 ho5 hb5 hg5; clear hg5)
        have hB5 := (hBs.trans (hBA.mono zs)).trans hb5
        go_roundw
        case rel => exact ⟨j + 1, by go_num, by omega, by rw [HTK.out, List.filter_append, ← HE1.out]; simpa [hyq] using ho5, hB5⟩
        case measure => simp [intOf]; omega
    · obtain rfl : j = E.length := by omega
      rw [List.take_length] at hou
      have f0 := hBw.free 0
      obtain ⟨A4, c4, e4, _, _⟩ := hou.form
      subst e4
      go_wp2
      go_end0
      have hZ := hBw.set 0 (.slice A4 (E.filter fun x => x.2 != who).length c4)
      refine ⟨⟨_, rfl⟩, ⟨_, by simpa using hZ, (hou.same fun g hg => ?_).less' hb, fun g hg => ?_⟩, ?_⟩
      · have := hou.lt hg
        exact Below.heap_setCell _ _ _ _ (by show g ≠ rp; omega)
      · have := hou.lt hg
        omega
      · exact (Touch.of_below' hBs).trans (Touch.set wr (.inl rfl) _)
end Go.Proofs.Ytbhdojpgjmbogaa
