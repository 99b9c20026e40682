/- What a sum over what a packet carries begins with: the reference's (packhorseref09). -/
import Derived.Test.YtbhdojpgjmbogaaDoorRef1
namespace Go.Proofs.YtbhdojpgjmbogaaDoor
open Go.RowKit
/-- An address. -/
structure IP where
  a : UInt8
  b : UInt8
  c : UInt8
  d : UInt8
/-- Its bytes. -/
def IP.l (i : IP) : List UInt8 := [i.a, i.b, i.c, i.d]
/-- An address as a value. -/
@[reducible] def IP.v (i : IP) : Value := .agg #[.int .u8 i.a.toNat, .int .u8 i.b.toNat, .int .u8 i.c.toNat, .int .u8 i.d.toNat]
set_option maxHeartbeats 400000 in
theorem rip (v : Value) (l : List UInt8) (i : IP) (w : World) (base : Nat) (hb : base ≤ w.heap.size) (ho : Ow w base v l) (hl : l.length ≤ 140737488355324) :
    Calls Tryd.prog 30 #[v, i.v] w fun e w' => ∃ v', e = .returned v' ∧ Ow w' base v' (l ++ i.l) ∧ Below base w w' := by
  go_enter Tryd.func30, Tryd.ntmps30
  go_wp2_with ((with_reducible refine at_slot 15 ?_); refine wpList_app rfl (.tmp 5) (.tmp 14) rfl base ((ho.mono (below_alloc w _)).mono (below_alloc _ _)) (rd_at _ _ i.l 4 _ rfl rfl (by omega) (by simp)) rfl rfl (by simp [IP.l]; omega) (by simp; omega) ?_; intro v2 w2 ho2 hb2 hg2; clear hg2)
  go_ret
  exact ⟨_, rfl, ho2, (((Below.refl base w).alloc hb _).alloc (by simp; omega) _).trans hb2⟩
/-- What a sum over what a packet carries begins with. -/
def psl (s d : IP) (proto size : Int) : List UInt8 := s.l ++ d.l ++ [0, by8 proto] ++ p16 size
theorem by8_eq (n m : Int) (h : n % 256 = m % 256) : by8 n = by8 m := by unfold by8; rw [h]
theorem p16_mod (n : Int) : p16 (n % 65536) = p16 n := by
  unfold p16
  rw [by8_eq (n % 65536 / 256) (n / 256) (by omega), by8_eq (n % 65536) n (by omega)]
theorem IP.info : (Tryd.prog.info? 23).map (·.size) = some 4 := by kernel_rfl
/-- A boxed address. -/
def IP.cells (i : IP) : Array Value := #[.int .u8 i.a.toNat, .int .u8 i.b.toNat, .int .u8 i.c.toNat, .int .u8 i.d.toNat]
set_option maxHeartbeats 400000 in
theorem rpseudo (s d : IP) (p n : Int) (w : World) :
    Calls Tryd.prog 17 #[s.v, d.v, .int .i64 p, .int .i64 n] w fun e w' => ∃ v', e = .returned v' ∧ Ow w' w.heap.size v' (psl s d p n) ∧ Below w.heap.size w w' := by
  go_enter Tryd.func17, Tryd.ntmps17
  go_wp2_with fail
  refine (rip _ [] s _ (w.heap.size + 2) (by simp) (Ow.nil _ _) (by simp)).mono ?_
  rintro e w1 ⟨v1, rfl, ho1, hb1⟩
  have hd := (Blk.new _ 23 d.cells (w.heap.size + 1) (by simp)).keep hb1 (by omega)
  have hB : Below w.heap.size w w1 := (((Below.refl w.heap.size w).alloc (Nat.le_refl _) _).alloc (by simp) _).trans (hb1.mono (by omega))
  have hz1 := hb1.size
  simp only [World.size_alloc] at hz1
  clear hb1
  go_wp2_with ((with_reducible refine at_slot 13 ?_); refine wpList_loadB rfl 23 (.tmp 5) rfl hd rfl Tryd.underlying23 rfl IP.info ?_)
  refine (rip _ _ d _ (w.heap.size + 2) (by omega) ho1 (by simp [IP.l])).mono ?_
  rintro e w2 ⟨v2, rfl, ho2, hb2⟩
  have hB2 := hB.trans (hb2.mono (by omega))
  have hz2 := hb2.size
  clear hb2
  go_wp2_with fail
  refine (rlow _ _).mono ?_
  rintro e w1 ⟨rfl, rfl⟩
  go_wp2_with ((with_reducible refine at_slot 21 ?_); refine wpList_app rfl (.tmp 15) (.tmp 20) rfl (w.heap.size + 2) (ho2.mono (below_alloc w2 _)) (rd_new _ _ [0, by8 p] 2 (by simp [bv_by8]; rfl) rfl (by omega)) rfl rfl (by simp [IP.l]) (by simp; omega) ?_; intro v3 w3 ho3 hb3 hg3; clear hg3)
  have hB3 := (hB2.trans (((Below.refl w2.heap.size w2).alloc (Nat.le_refl _) _).mono (by omega))).trans (hb3.mono (by omega))
  have hz3 := hb3.size
  clear hb3
  go_wp2_with fail
  refine (rlow _ _).mono ?_
  rintro e w4 ⟨rfl, rfl⟩
  go_wp2_with fail
  refine (rput2 _ _ _ _ ho3.rd (by simp [IP.l]) (by omega) (by omega)).mono ?_
  rintro e w5 ⟨v5, rfl, ho5, hb5⟩
  go_wp2
  go_ret
  refine ⟨_, rfl, ?_, hB3.trans (hb5.mono (by simp at hz3; omega))⟩
  rw [p16_mod, List.nil_append] at ho5
  exact ho5.less (by simp at hz3; omega)
end Go.Proofs.YtbhdojpgjmbogaaDoor
