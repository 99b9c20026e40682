/- WheelDoes: what the law keeps: the wheel and the reference's. -/
import Derived.Test.YtcnfcohfogbfhaaRfV
namespace Go.Proofs.Ytcnfcohfogbfhaa
open Go.RowKit Go.Shelf
theorem NextP.one {S : Tm → Prop} {n1 n2 : Int} {b1 b2 : Bool} (h1 : NextP S n1 b1) (h2 : NextP S n2 b2) : n1 = n2 ∧ b1 = b2 := by
  rcases h1 with ⟨a1, a2, a3⟩ | ⟨a1, ⟨t, ht, a2⟩, a3⟩
  · rcases h2 with ⟨c1, c2, c3⟩ | ⟨c1, ⟨u, hu, c2⟩, c3⟩
    · exact ⟨by omega, by rw [a1, c1]⟩
    · exact absurd hu (a3 u)
  · rcases h2 with ⟨c1, c2, c3⟩ | ⟨c1, ⟨u, hu, c2⟩, c3⟩
    · exact absurd ht (c3 t)
    · have := a3 u hu
      have := c3 t ht
      exact ⟨by omega, by rw [a1, c1]⟩
/-- The wheel, and the reference's. -/
structure BothAt (w wr : World) (p q : Nat) (V : Nat → Value) (rv : Value) (n1 n2 : Int) (A1 A2 : List Tm) (ord : Int) : Prop where
  at1 : WAt wr w.heap.size p V n1 A1 ord
  at2 : RfAt wr w.heap.size q rv n2 (A2.map ctl)
  dis : ∀ k, Ft p V k → ¬ Rf q rv k
  below : Below w.heap.size w wr
section
variable {w wr w2 : World} {p q : Nat} {V : Nat → Value} {rv : Value} {n1 n2 : Int} {A1 A2 : List Tm} {ord : Int}
theorem BothAt.mono (h : BothAt w wr p q V rv n1 n2 A1 A2 ord) (hb : Below wr.heap.size wr w2) : BothAt w w2 p q V rv n1 n2 A1 A2 ord :=
  ⟨h.at1.mono hb, h.at2.mono hb, h.dis, below_step h.below h.below.size hb⟩
theorem BothAt.off (h : BothAt w wr p q V rv n1 n2 A1 A2 ord) {S : Nat → Prop} (ht : Touch S wr w2) (h1 : ∀ k, S k → ¬ Ft p V k) (h2 : ∀ k, S k → ¬ Rf q rv k) (hB : ∀ k, S k → w.heap.size ≤ k) : BothAt w w2 p q V rv n1 n2 A1 A2 ord :=
  ⟨h.at1.touch ht (fun k hk e => h1 k e hk), h.at2.touch ht (fun k hk e => h2 k e hk), h.dis, h.below.trans (ht.below hB h.below.size)⟩
theorem BothAt.drew (h : BothAt w wr p q V rv n1 n2 A1 A2 ord) : BothAt w wr.drew p q V rv n1 n2 A1 A2 ord :=
  h.off (S := fun _ => False) ⟨rfl, rfl, rfl, Nat.le_refl _, fun _ _ _ => rfl⟩ (fun _ e => e.elim) (fun _ e => e.elim) (fun _ e => e.elim)
theorem BothAt.drewN (h : BothAt w wr p q V rv n1 n2 A1 A2 ord) (n : Nat) : BothAt w (wr.drewN n) p q V rv n1 n2 A1 A2 ord :=
  h.off (S := fun _ => False) ⟨rfl, rfl, rfl, Nat.le_refl _, fun _ _ _ => rfl⟩ (fun _ e => e.elim) (fun _ e => e.elim) (fun _ e => e.elim)
theorem BothAt.one (h : BothAt w wr p q V rv n1 n2 A1 A2 ord) {V' : Nat → Value} {n' : Int} {A' : List Tm} {o' : Int} (h2 : WAt w2 w.heap.size p V' n' A' o') (ht : Touch (Ft p V) wr w2) (hf : ∀ k, Ft p V' k → Ft p V k ∨ wr.heap.size ≤ k) :
    BothAt w w2 p q V' rv n' n2 A' A2 o' := by
  refine ⟨h2, h.at2.touch ht (fun k hk e => h.dis k e hk), fun k hk h3 => ?_, h.below.trans (h.at1.keep ht)⟩
  rcases hf k hk with e | e
  · exact h.dis k e h3
  · have := (h.at2.lt h3).2; omega
theorem BothAt.two (h : BothAt w wr p q V rv n1 n2 A1 A2 ord) {rv' : Value} {n' : Int} {A' : List Tm} (h2 : RfAt w2 w.heap.size q rv' n' (A'.map ctl)) (ht : Touch (Rf q rv) wr w2) (hf : ∀ k, Rf q rv' k → Rf q rv k ∨ wr.heap.size ≤ k) :
    BothAt w w2 p q V rv' n1 n' A1 A' ord := by
  refine ⟨h.at1.touch ht (fun k hk e => h.dis k hk e), h2, fun k h3 hk => ?_, h.below.trans (h.at2.keep ht)⟩
  rcases hf k hk with e | e
  · exact h.dis k h3 e
  · have := (h.at1.lt h3).2; omega
theorem BothAt.qnow (h : BothAt w wr p q V rv n1 n2 A1 A2 ord) (n : Nat) : Calls Try.prog 23 #[.pointer (some ⟨p, 0, none⟩)] (wr.drewN n) fun e w' => e = .returned (.int .i64 n1) ∧ ∃ m, w' = wr.drewN m :=
  (tnow (h.drewN n).at1).mono fun _ _ ⟨e, hw⟩ => ⟨e, n, hw.symm⟩
theorem BothAt.qlen (h : BothAt w wr p q V rv n1 n2 A1 A2 ord) (n : Nat) : Calls Try.prog 12 #[.pointer (some ⟨p, 0, none⟩)] (wr.drewN n) fun e w' => e = .returned (.int .i64 A1.length) ∧ ∃ m, w' = wr.drewN m :=
  (tlen (h.drewN n).at1).mono fun _ _ ⟨e, hw⟩ => ⟨e, n, hw.symm⟩
end
end Go.Proofs.Ytcnfcohfogbfhaa
