/- Plain laws of TcpUnknown: an option that nobody knows, put ahead of a segment's own, changes nothing of what is read. -/
import Derived.Test.YtbhdojpgjmbogaaTBackLaw
namespace Go.Proofs.Ytbhdojpgjmbogaa
open Go.RowKit
/-- An option that nobody knows, filled up to fours. -/
def unkB (kind : UInt8) (n : Nat) : List UInt8 := kind :: by8 n :: List.replicate (n - 2) 0
def unkL (kind : UInt8) (n : Nat) : List UInt8 := padL (unkB kind n)
theorem unkB_len (kind : UInt8) (n : Nat) (h1 : 2 ≤ n) : (unkB kind n).length = n := by simp [unkB]; omega
theorem unkL_len (kind : UInt8) (n : Nat) (h1 : 2 ≤ n) (h2 : n ≤ 9) : (unkL kind n).length ≤ 12 ∧ (unkL kind n).length % 4 = 0 ∧ 4 ≤ (unkL kind n).length := by
  unfold unkL padL
  rw [List.length_append, List.length_replicate, unkB_len kind n h1]
  omega
theorem opts_pad' (k : Nat) (o : List UInt8) : optsOf (List.replicate k 1 ++ o) = List.replicate k [1] ++ optsOf o := by
  induction k with
  | zero => rfl
  | succ k ih => rw [List.replicate_succ, List.replicate_succ, List.cons_append, optsOf_one (by decide), ih]; rfl
theorem rd_pad' (syn : Bool) (k : Nat) (st : OSt) (r : List (List UInt8)) : rdAll syn st (List.replicate k [1] ++ r) = rdAll syn st r := by
  rw [rdAll_append, rd_pad]
  simp
theorem unk_read (kind : UInt8) (hk : 9 ≤ kind.toNat) (n : Nat) (h1 : 2 ≤ n) (h2 : n ≤ 9) (o : List UInt8) (syn : Bool) (st : OSt) : rdAll syn st (optsOf (unkL kind n ++ o)) = rdAll syn st (optsOf o) := by
  unfold unkL padL
  generalize (4 - (unkB kind n).length % 4) % 4 = k
  have hx : (by8 (n : Int)).toNat = n := by
    have := by8_toNat n
    omega
  have e : unkB kind n ++ List.replicate k 1 ++ o = kind :: by8 n :: (List.replicate (n - 2) 0 ++ (List.replicate k 1 ++ o)) := by simp [unkB]
  rw [e, optsOf_more (by omega) (by rw [hx]; exact h1) (by rw [hx]; simp; omega), hx]
  have e2 : kind :: by8 (n : Int) :: (List.replicate (n - 2) 0 ++ (List.replicate k 1 ++ o)) = unkB kind n ++ (List.replicate k 1 ++ o) := by simp [unkB]
  have hl := unkB_len kind n h1
  have e3 : (unkB kind n ++ (List.replicate k 1 ++ o)).take n = unkB kind n := by
    conv => lhs; arg 1; rw [← hl]
    exact List.take_left
  have e4 : (unkB kind n ++ (List.replicate k 1 ++ o)).drop n = List.replicate k 1 ++ o := by
    conv => lhs; arg 1; rw [← hl]
    exact List.drop_left
  rw [e2, e3, e4, opts_pad', rdAll, if_neg (by simp [unkB])]
  have hst : optStep syn st (unkB kind n) = st := by
    have hh : ((unkB kind n).headD 0).toNat = kind.toNat := rfl
    unfold optStep
    rw [if_neg (fun h => by have := h.1; omega), if_neg (fun h => by have := h.1; omega), if_neg (fun h => by have := h.1; omega)]
  rw [hst, rd_pad']
/-- A segment with its bytes, an option put in between, the length of its head and its sum laid anew. -/
theorem unk_laid (g : SG) (O o b : List UInt8) (S : Int) (H : Nat) (hH : H = 20 + o.length) :
    (((((segL g o b S).take 20 ++ O ++ (segL g o b S).drop 20).set 12 (by8 (((H : Int) + (O.length : Int)) / 4 * 16))).set 16 0).set 17 0) = segL g (O ++ o) b 0 := by
  subst hH
  have e : ((((20 + o.length : Nat) : Int)) + (O.length : Int)) = 20 + (((O ++ o).length : Nat) : Int) := by rw [List.length_append]; omega
  rw [e]
  have e1 : (segL g o b S).take 20 = headL g o.length ++ p16 S ++ [0, 0] := rfl
  have e2 : (segL g o b S).drop 20 = o ++ b := rfl
  rw [e1, e2]
  unfold segL
  rw [show headL g (O ++ o).length ++ p16 0 ++ [0, 0] ++ (O ++ o) ++ b = headL g (O ++ o).length ++ p16 0 ++ [0, 0] ++ O ++ (o ++ b) by simp only [List.append_assoc]]
  generalize o ++ b = t
  unfold headL
  generalize (20 + (((O ++ o).length : Nat) : Int)) / 4 * 16 = q
  rfl
theorem unk_sum (g : SG) (o b : List UInt8) (S : Int) : ((segL g o b 0).set 16 (by8 (S / 256))).set 17 (by8 S) = segL g o b S := rfl
end Go.Proofs.Ytbhdojpgjmbogaa
