/- tcp.options where there are no spans and no SACK. -/
import Derived.Test.YtbhdojpgjmbogaaTcp2
namespace Go.Proofs.Ytbhdojpgjmbogaa
open Go.RowKit Go.Shelf
/-- An append of bytes as a step of a region that draws. -/
theorem step_app {ops : Array Oper} {o : Oper} {a : Act} {w : World} {K : Act → World → Prop} {Q : Exit → Act → World → Prop} {E : Prop} (hgd : o.guard = none) (s x : Operand)
    (ho : o.op = .call { callee := .builtin .append, args := #[s, x], argTypes := #[24, 24] })
    (base : Nat) {v u : Value} {l m : List UInt8} (hown : Ow w base v l) (hr : Rd w u m) (hs : a.eval s = v) (hx : a.eval x = u)
    (hbytes : l.length + m.length ≤ 140737488355328) (hbase : base ≤ w.heap.size)
    (h : ∀ v' w', Ow w' base v' (l ++ m) → Below base w w' → Grew w w' v v' → K (a.put o.dst v') w') : if Region.wanted o (yielded ops a.tmps) = true then Oper.wp Try.prog o a w K Q else E := by
  have hw : Region.wanted o (yielded ops a.tmps) = true := by simp [Region.wanted, hgd]
  rw [if_pos hw]
  exact wp_app s x ho base v u l m hown hr hs hx hbytes hbase h
/-- What options makes. -/
def OEnd (w : World) (o : List UInt8) (e : Ending) (w' : World) : Prop := ∃ v, e = .returned v ∧ Ow w' w.heap.size v o ∧ Below w.heap.size w w'
set_option maxHeartbeats 1600000 in
theorem topts_mss (s : SG) (A : Option Addr) (c : Nat) (hm : s.ms ≠ 0) (hk : s.sk = false) (hg : s.gt = .slice A 0 c) (w : World) :
    Calls Try.prog 64 #[s.v] w (OEnd w ([2, 4] ++ p16 s.ms)) := by
  have g0 : (s.ms != 0) = true := by simpa using hm
  have Hk := Lib.hid hk
  have Hg := Lib.hid hg
  clear hk hg hm
  go_enter Try.func64, Try.ntmps64
  go_upto_region 1 with (fail)
  refine box1 (s := s) (motive := fun X => Code.wp Try.prog _ _ _ X) ?_
  intro X hB hX hs
  obtain ⟨_, _, _, _, _, _, c6, c7, c8, _⟩ := hs.sg
  rw [Hk.out] at c7
  rw [Hg.out] at c8
  go_upto_region 3 with (fail)
  have hl : Rd (X.alloc (.cells #[.int .u8 2, .int .u8 4] 5)) (.slice (some ⟨X.heap.size, 0, none⟩) 2 2) [2, 4] := rd_at X _ [2, 4] 2 _ rfl rfl (by omega) rfl
  have q6 := (hs.alloc (.cells #[.int .u8 2, .int .u8 4] 5)).sg.2.2.2.2.2.2.1
  go_region_law (first | (refine step_app rfl (.tmp 9) (.tmp 10) rfl X.heap.size (Ow.nil _ _) hl.drew rfl rfl (by simp) (by simp) ?_; intro v1 w1 ho1 hb1 hg1; clear hg1; have c6' := ((hs.alloc _).drw.keep hb1 hs.lt).sg.2.2.2.2.2.2.1) | (refine step_call rfl rfl (enters_of Try.func52 (by kernel_rfl) rfl) (put16 _ _ s.ms _ ho1.rd (by simp)) rfl ?_; rintro e w2 ⟨v2, rfl, ho2, hb2⟩; refine ⟨_, rfl, ?_⟩))
  all_goals
    have hB1 := below_step hB hB.size (((Below.refl X.heap.size X).alloc (Nat.le_refl _) (.cells #[.int .u8 2, .int .u8 4] 5)).drew.trans hb1)
    have hB2 := below_step hB1 hB1.size hb2
    have hs2 := (((hs.alloc (.cells #[.int .u8 2, .int .u8 4] 5)).drw.keep hb1 hs.lt)).mono hb2
    have d7 := hs2.sg.2.2.2.2.2.2.2.1
    have d8 := hs2.sg.2.2.2.2.2.2.2.2.1
    rw [Hk.out] at d7
    rw [Hg.out] at d8
    rw [List.nil_append] at ho2
    have hL : ([2, 4] ++ p16 s.ms).length = 4 := rfl
    clear c6 c6' q6 c7 c8 hl ho1 hb1 hb2 hs2 hs
    obtain ⟨A2, c2, rfl, _, _⟩ := ho2.rd.form
    rw [hL] at ho2 ⊢
    go_wp2
    refine wp_loop_rounds 1 ?_
    rw [rounds_succ]
    go_wp2
    go_ret
    exact ⟨_, rfl, ho2.less hB1.size, hB2⟩
end Go.Proofs.Ytbhdojpgjmbogaa
