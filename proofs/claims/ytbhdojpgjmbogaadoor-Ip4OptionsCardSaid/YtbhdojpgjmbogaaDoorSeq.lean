/- A range over a function whose iterator turns one variable that it has caught: what the iterator promises, and the law of the walk. -/
import Derived.RangeFuncWrites
import Derived.Test.YtbhdojpgjmbogaaDoorWSum
namespace Go.Proofs.YtbhdojpgjmbogaaDoor
open Go.RowKit Go.Shelf
/-- What an iterator promises that turns the block C besides: it tells things of G, one by one, keeping what J says; it ends when all have come, or when somebody has said 'no more'. -/
def SeqCap {α : Type} (F : Fence) (n : Nat) (P : Program) (g : Nat) (lb : Array Value) (encs : α → Array Value) (G : α → Prop) (Kp : World → World → Prop) (S Sp : List α → Prop) (C : Nat) (w0 : World) : Prop :=
  ∀ (l : Nat) (J Jx : List α → World → Prop) (W : World), w0.heap.size ≤ l → w0.heap.size ≤ W.heap.size → (∀ k, k < w0.heap.size → W.heap[k]? = w0.heap[k]?) →
    (∀ pre W1 u, J pre W1 → J pre (W1.setCell ⟨C, 0, none⟩ u)) → (∀ pre W1 k, J pre W1 → J pre (W1.drewN k)) →
    (∀ pre x W1, J pre W1 → G x → YieldAt F (n - 1) P l (encs x) W1 fun e W' => (e = .returned (.bool true) ∧ J (pre ++ [x]) W' ∧ Kp W1 W') ∨ (e = .returned (.bool false) ∧ Jx (pre ++ [x]) W')) →
    J [] W → CallsIn F n P g (#[.func (.yield l) #[] #[]] ++ lb) W fun e W' => (∃ v, e = .returned v) ∧ ((∃ xs, S xs ∧ J xs W') ∨ (∃ pre, Sp pre ∧ Jx pre W'))
/-- How a round's body may be left. -/
def capPost {α : Type} (B : Nat) (Kp : World → World → Prop) (I : List α → World → Prop) (Ix : Code → List α → World → Prop) (xs : List α) (W : World) : Exit → Act → World → Prop := ownPostG B Kp I Ix xs W
variable {F : Fence} {n : Nat} {P : Program}
theorem wpIn_rangeFunc_cap {α : Type} {g : Operand} {ps : Array Tmp} {assign body : Code} {Q : Exit → Act → World → Prop} {a : Act} {w : World}
    (hro : F.round = none) (h1 : 1 ≤ n) {gf : Nat} {lb : Array Value} (hg : a.eval g = .func (.func gf) #[] lb) (hFg : F.fn gf) (eg : ∀ args w, (callFunc gf args).run P w = .ok (.enter gf args) w)
    {encs : α → Array Value} {G : α → Prop} {Kp : World → World → Prop} {S Sp : List α → Prop} {C : Nat} (hC : C < w.heap.size) (hseq : SeqCap F (n - 1) P gf lb encs G Kp S Sp C w)
    (hKt : ∀ {A B C : World}, Kp A B → Kp B C → Kp A C) (hKb : ∀ (W : World) (l : Nat) (o : Obj), w.heap.size ≤ l → Kp W (W.putObj l o)) (hps : ∀ x, (encs x).size = ps.size)
    (I : List α → World → Prop) (Ix : Code → List α → World → Prop) (hI : OwnFrom w.heap.size I) (hIx : ∀ c, OwnFrom w.heap.size (Ix c)) (hIC : ∀ pre W1 u, I pre W1 → I pre (W1.setCell ⟨C, 0, none⟩ u)) (hID : ∀ pre W1 k, I pre W1 → I pre (W1.drewN k)) (h0 : I [] w) (a₁ : α → Act)
    (hassign : ∀ (l : Nat) (x : α) (W : World) (K : Act → World → Prop), K (a₁ x) W →
      assign.wpIn (F.inRound l) (n - 1 - 1) P (Exit.then K (fun _ _ _ => False)) { tmps := (ps.zip (encs x)).foldl (fun t (p, v) => t.setIfInBounds p v) a.tmps, defers := [] } W)
    (hbody : ∀ (l : Nat) (pre : List α) (x : α) (W : World), I pre W → G x → body.wpIn (F.inRound l) (n - 1 - 1) P (capPost w.heap.size Kp I Ix (pre ++ [x]) W) (a₁ x) W)
    (hdone : ∀ (D : Nat) (xs : List α) (W : World), w.heap.size ≤ D → S xs → I xs W → W.heap[D]? = some (.deferred (some [])) → Q .normal { a with defers := { target := .collected D, args := #[] } :: a.defers } W)
    (hstop : ∀ (D : Nat) (c : Code) (pre : List α) (W : World), w.heap.size ≤ D → Sp pre → Ix c pre W → W.heap[D]? = some (.deferred (some [])) → c.wpIn F n P Q { a with defers := { target := .collected D, args := #[] } :: a.defers } W) :
    (Code.rangeFunc g ps assign body).wpIn F n P Q a w := by
  refine wpIn_rangeFunc fun fn hfn => ?_
  rw [hro]
  obtain ⟨rec, hrec⟩ : ∃ rec : LoopState → Option Code → Loop, rec = fun st pe => { state := st, pending := pe, fn, tmps := a.tmps, params := ps, assign, body, defers := w.heap.size } := ⟨_, rfl⟩
  obtain ⟨B, hB⟩ : ∃ B, B = w.heap.size := ⟨_, rfl⟩
  obtain ⟨W1, hW1⟩ : ∃ W1, W1 = (w.alloc (.deferred (some []))).alloc (.loop (rec .ready none)) := ⟨_, rfl⟩
  have z1 : W1.heap.size = B + 1 + 1 := by rw [hW1, hB]; simp
  have old1 : ∀ k, k < B → W1.heap[k]? = w.heap[k]? := fun k hk => by
    rw [hW1, Below.heap_alloc _ _ _ (by simp; omega), Below.heap_alloc _ _ _ (by omega)]
  have rec1 : W1.heap[B + 1]? = some (.loop (rec .ready none)) := by
    rw [hW1, hB]
    have := World.alloc_heap_new (w.alloc (.deferred (some []))) (.loop (rec .ready none))
    rwa [World.size_alloc] at this
  have def1 : W1.heap[B]? = some (.deferred (some [])) := by
    rw [hW1, Below.heap_alloc _ _ _ (by simp; omega), hB]
    exact World.alloc_heap_new w _
  have inv1 : I [] W1 := by rw [hW1]; exact hI.alloc _ (hI.alloc _ h0)
  rw [← hB] at hI hIx hKb hbody hdone hstop hC
  refine ⟨B + 1, [{ target := .collected B, args := #[] }], W1, { target := .fn (.func gf) lb, args := #[.func (.yield (B + 1)) #[] #[]] }, W1, gf, #[.func (.yield (B + 1)) #[] #[]] ++ lb, W1, ?_, ?_, ?_, ?_, fun _ => h1, ?_⟩
  · rw [hW1, hrec, hB]; exact run_enterLoop_outer _ _ _ _ _
  · simp only [resolve, hg]; simp [go_sem]
  · intro f' hf'; simp [Target.leads] at hf'; subst hf'; exact hFg
  · simp [invoke, go_sem, eg]
  refine (hseq (B + 1) (fun pre W => I pre W ∧ W.heap[B + 1]? = some (.loop (rec .ready none)) ∧ W.heap[B]? = some (.deferred (some [])))
    (fun pre W => ∃ c, Ix c pre W ∧ W.heap[B + 1]? = some (.loop (rec .done (some c))) ∧ W.heap[B]? = some (.deferred (some []))) W1 (by omega) (by omega) (by rw [← hB]; exact old1)
    (fun pre W u h => ⟨hIC pre W u h.1, (Below.heap_setCell W ⟨C, 0, none⟩ u _ (by show B + 1 ≠ C; omega)).trans h.2.1, (Below.heap_setCell W ⟨C, 0, none⟩ u _ (by show B ≠ C; omega)).trans h.2.2⟩)
    (fun pre W k h => ⟨hID pre W k h.1, h.2.1, h.2.2⟩) ?_ ⟨inv1, rec1, def1⟩).mono ?_
  · rintro pre x W ⟨hi, hl, hk⟩ hG
    have hlt : B + 1 < W.heap.size := (Array.getElem?_eq_some_iff.1 hl).1
    have hy := run_yield (P := P) (args := encs x) hl (by rw [hrec]; exact hps x)
    rw [hrec] at hy
    refine ⟨fn, _, assign, body, hy, roundIn_of_wpIn hfn (hassign _ x W _ ⟨_, run_beginRound hl (by rw [hrec]), ?_⟩)⟩
    obtain ⟨V, hV⟩ : ∃ V, V = W.putObj (B + 1) (.loop { rec .ready none with state := .busy }) := ⟨_, rfl⟩
    have busy : V.heap[B + 1]? = some (.loop { rec .ready none with state := .busy }) := by rw [hV]; exact World.putObj_heap_same hlt
    have defV : V.heap[B]? = some (.deferred (some [])) := by rw [hV]; exact (World.putObj_heap_other (by omega)).trans hk
    have keepV : Kp W V := by rw [hV]; exact hKb _ _ _ (by omega)
    have invV : I pre V := by rw [hV]; exact hI.putObj _ hi (by omega) hl rfl
    rw [← hV]
    refine wpIn_mono (hbody _ pre x V invV hG) ?_
    have ends : ∀ (jump : Option Code) (Z : World), KeepsFrom B V Z →
        ∃ Z', (Instr.endRound (B + 1) jump).run P Z = .ok (.bool jump.isNone) Z' ∧ Z' = Z.putObj (B + 1) (.loop (rec (if jump.isNone then .ready else .done) jump)) ∧ Z.heap[B + 1]? = some (.loop { rec .ready none with state := .busy }) ∧
          Z'.heap[B + 1]? = some (.loop (rec (if jump.isNone then .ready else .done) jump)) ∧ Z'.heap[B]? = some (.deferred (some [])) := fun jump Z hkeep => by
      have hz := hkeep.same _ _ (by omega) busy rfl
      have hr := run_endRound (P := P) jump hz
      rw [hrec] at hr hz ⊢
      exact ⟨_, hr, rfl, hz, World.putObj_heap_same (Array.getElem?_eq_some_iff.1 hz).1, (World.putObj_heap_other (by omega)).trans (hkeep.same _ _ (Nat.le_refl _) defV rfl)⟩
    rintro e a3 Z hp
    cases e with
    | normal =>
      obtain ⟨hk3, hkp, hi3⟩ := hp
      obtain ⟨Z', hr, e', hz, hl4, hk4⟩ := ends none Z hk3
      exact ⟨_, _, hr, .inl ⟨rfl, ⟨by rw [e']; exact hI.putObj _ hi3 (by omega) hz rfl, hl4, hk4⟩, by rw [e']; exact hKt (hKt keepV hkp) (hKb _ _ _ (by omega))⟩⟩
    | ret =>
      obtain ⟨hk3, hi3⟩ := hp
      obtain ⟨Z', hr, e', hz, hl4, hk4⟩ := ends (some .ret) Z hk3
      exact ⟨_, _, hr, .inr ⟨rfl, .ret, by rw [e']; exact (hIx _).putObj _ hi3 (by omega) hz rfl, hl4, hk4⟩⟩
    | exit id =>
      obtain ⟨hk3, hi3⟩ := hp
      obtain ⟨Z', hr, e', hz, hl4, hk4⟩ := ends (some (.exit id)) Z hk3
      exact ⟨_, _, hr, .inr ⟨rfl, .exit id, by rw [e']; exact (hIx _).putObj _ hi3 (by omega) hz rfl, hl4, hk4⟩⟩
    | goto t =>
      obtain ⟨hk3, hi3⟩ := hp
      obtain ⟨Z', hr, e', hz, hl4, hk4⟩ := ends (some (.goto t)) Z hk3
      exact ⟨_, _, hr, .inr ⟨rfl, .goto t, by rw [e']; exact (hIx _).putObj _ hi3 (by omega) hz rfl, hl4, hk4⟩⟩
    | panic ch => exact hp.elim
    | outgrown => exact hp.elim
  · rintro e W2 ⟨⟨v, rfl⟩, (⟨xs, hS, hi, hl, hk⟩ | ⟨pre, hSp, c, hi, hl, hk⟩)⟩
    · have hr := run_endLoop (P := P) hl (by rw [hrec]; simp)
      rw [hrec] at hr
      exact ⟨none, _, hr, hdone _ xs _ (Nat.le_refl _) hS (hI.putObj _ hi (by omega) hl rfl) ((World.putObj_heap_other (by omega)).trans hk)⟩
    · have hr := run_endLoop (P := P) hl (by rw [hrec]; simp)
      rw [hrec] at hr
      exact ⟨some c, _, hr, hstop _ c pre _ (Nat.le_refl _) hSp ((hIx c).putObj _ hi (by omega) hl rfl) ((World.putObj_heap_other (by omega)).trans hk)⟩
/-- A piece of a slice, taken in one world, of a slice that reads in another. -/
theorem run_slice_any {w w' : World} (T e : TypeId) (i : TypeInfo) (ht : Tryd.prog.underlying T = some (.slice e)) (hi : Tryd.prog.info? e = some i) (hsz : i.size = 1) (v : Value) (xs : List Value) (hr : RdV w v xs)
    (a : Act) (lo hi' : Option Operand) (L H : Int) (hlo : IsBound a lo 0 L) (hhi : IsBound a hi' xs.length H) (h0 : 0 ≤ L) (h1 : L ≤ H) (h2 : H ≤ xs.length) :
    ∃ v', (Instr.sliceAt T v (lo.map a.eval) (hi'.map a.eval) none).run Tryd.prog w' = .ok v' w' ∧ RdV w v' ((xs.take H.toNat).drop L.toNat) := by
  obtain ⟨A, c, rfl, hc1, hc2, hcell⟩ := hr
  obtain ⟨l, rfl⟩ := Int.eq_ofNat_of_zero_le h0
  obtain ⟨h, rfl⟩ := Int.eq_ofNat_of_zero_le (Int.le_trans h0 h1)
  simp only [Int.toNat_natCast]
  have hlen : ((xs.take h).drop l).length = h - l := by simp; omega
  refine ⟨.slice (if c = l then A else A.map (·.add (l * 1))) ((xs.take h).drop l).length (c - l), ?_, ⟨_, _, rfl, by rw [hlen]; omega, by omega, drop_map_add A c l h w xs hcell (by omega) hc1⟩⟩
  rw [hlen]
  have hb : (Instr.sliceBounds true xs.length c (lo.map a.eval) (hi'.map a.eval) none).run Tryd.prog w' = .ok (l, h, c) w' := by
    rcases hlo with ⟨rfl, e1⟩ | ⟨y, k, rfl, e1⟩ <;> rcases hhi with ⟨rfl, e2⟩ | ⟨y', k', rfl, e2⟩
    · simp [Instr.sliceBounds]; omega
    · have hle : h ≤ c := by omega
      simp [Instr.sliceBounds, e2, Instr.sliceBound, asIntOf, hle]; omega
    · have hle : l ≤ xs.length := by omega
      simp [Instr.sliceBounds, e1, Instr.sliceBound, asIntOf, hle]; omega
    · have hle : h ≤ c := by omega
      have hle2 : l ≤ h := by omega
      simp [Instr.sliceBounds, e1, e2, Instr.sliceBound, asIntOf, hle, hle2]
  simp [Instr.sliceAt, Instr.slice, run_underlying ht, hb, sizeOf, typeInfo, hi, hsz]
/-- A step of a walk inside a fence: a piece of a slice of bytes is taken; the slice reads in an elder world. -/
theorem wpListIn_slice {ops : Array Oper} {rest : List Oper} {o : Oper} {a : Act} {Q : Exit → Act → World → Prop} {w Wd : World} (hgd : o.guard = none) (x : Operand) (lo hi : Option Operand)
    (ho : o.op = .slice 24 x lo hi none) {v : Value} {l : List UInt8} (hr : Rd Wd v l) (hx : a.eval x = v) (L H : Int) (hlo : IsBound a lo 0 L) (hhi : IsBound a hi l.length H) (h0 : 0 ≤ L) (h1 : L ≤ H) (h2 : H ≤ l.length)
    (h : ∀ (m : List UInt8) (A : Option Addr) (c : Nat), Hid (m = (l.take H.toNat).drop L.toNat) → H - L ≤ m.length → m.length ≤ H - L → m.length ≤ c → c ≤ 9223372036854775807 → Rd Wd (.slice A m.length c) m → wpListIn F n Tryd.prog ops Q rest (a.put o.dst (.slice A m.length c)) w) :
    wpListIn F n Tryd.prog ops Q (o :: rest) a w := by
  obtain ⟨i, hi', hz, hz1, hz2⟩ := info_parts byte_info
  obtain ⟨v', hrun, hr'⟩ := run_slice_any (w' := w) 24 5 i und_bytes hi' hz1 v (l.map bv) hr a lo hi L H hlo (by rw [List.length_map]; exact hhi) h0 h1 (by rw [List.length_map]; exact h2)
  refine wpListIn_plain hgd fun K hK => ?_
  rw [← List.map_take, ← List.map_drop] at hr'
  obtain ⟨m, hm⟩ : ∃ m, m = (l.take H.toNat).drop L.toNat := ⟨_, rfl⟩
  have e3 : H - L ≤ m.length := by rw [hm]; simp; omega
  have e4 : m.length ≤ H - L := by rw [hm]; simp; omega
  rw [← hm] at hr'
  obtain ⟨A, c, rfl, e1, e2⟩ := Rd.form hr'
  unfold Oper.wpIn
  refine ⟨by simp [Oper.about, ho], ?_⟩
  rw [Oper.semAt_plain F _ _ (by rw [ho]; intro c hc'; cases hc')]
  simp only [execOp, ho, hx, Option.map_none] at hrun ⊢
  simp [hrun, Result.andThen]
  exact hK _ _ (h m A c hm e3 e4 e1 e2 hr')
end Go.Proofs.YtbhdojpgjmbogaaDoor
