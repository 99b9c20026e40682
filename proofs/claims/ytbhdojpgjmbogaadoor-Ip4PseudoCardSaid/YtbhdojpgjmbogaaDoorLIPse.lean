/- Ip4Pseudo: the walk: it answers true. -/
import Derived.Test.YtbhdojpgjmbogaaDoorIAwake
import Derived.Test.YtbhdojpgjmbogaaDoorMoves
namespace Go.Proofs.YtbhdojpgjmbogaaDoor
open Go.RowKit Go.Shelf
theorem fits_cases (i : IP) : (decide (1 ≤ (i.a.toNat : Int)) = true ∧ decide ((i.a.toNat : Int) ≤ 223) = true ∧ ((i.a.toNat : Int) != 127) = fitsB i) ∨ (decide (1 ≤ (i.a.toNat : Int)) = true ∧ decide ((i.a.toNat : Int) ≤ 223) = false ∧ fitsB i = false) ∨ (decide (1 ≤ (i.a.toNat : Int)) = false ∧ fitsB i = false) := by
  by_cases h1 : 1 ≤ i.a.toNat
  · by_cases h2 : i.a.toNat ≤ 223
    · refine .inl ⟨by simp; omega, by simp; omega, ?_⟩
      by_cases h3 : i.a.toNat = 127
      · simp [fitsB, h3]
      · have e : ((i.a.toNat : Int) != 127) = true := by simp; omega
        rw [e]
        simp [fitsB, h1, h2, h3]
    · exact .inr (.inl ⟨by simp; omega, by simp; omega, by simp [fitsB, h2]⟩)
  · exact .inr (.inr ⟨by simp; omega, by simp [fitsB, h1]⟩)
set_option maxRecDepth 100000 in
set_option maxHeartbeats 8000000 in
theorem law_ipse (s d : IP) (p n : Int) (w : World) :
    Calls Tryd.prog 8 #[s.v, d.v, .int .i64 p, .int .i64 n] w fun e w' => e = .returned (.bool true) ∧ Below w.heap.size w w' := by
  have D1 := Lib.hid (fun W => pseudo s d p n W)
  have D2 := Lib.hid (fun W => rpseudo s d p n W)
  have D3 := Lib.hid (fun W => ifits s (fitsB s) rfl W)
  go_enter Tryd.func8, Tryd.ntmps8
  go_upto_region 1 with (fail)
  refine box2 (s := s) (d := d) (motive := fun X => Code.wp Tryd.prog _ _ _ X) ?_
  intro X hBX hX hbs hbd
  go_wp2_with fail
  refine (iawake _).mono ?_
  rintro e w1 ⟨rfl, hb1⟩
  have hbs1 := hbs.mono hb1
  have hbd1 := hbd.mono hb1
  have hB1 := below_step hBX hBX.size hb1
  clear hbs hbd hBX hb1
  obtain ⟨s0, s1, s2, s3⟩ := hbs1.ip4
  obtain ⟨d0, d1, d2, d3⟩ := hbd1.ip4
  have hK : ∀ wx, Below w1.heap.size w1 wx → wx.cell? ⟨w.heap.size, 0, none⟩ = some (.int .u8 s.a.toNat) ∧ wx.cell? ⟨w.heap.size, 1, none⟩ = some (.int .u8 s.b.toNat) ∧ wx.cell? ⟨w.heap.size, 2, none⟩ = some (.int .u8 s.c.toNat) ∧ wx.cell? ⟨w.heap.size, 3, none⟩ = some (.int .u8 s.d.toNat) ∧
      wx.cell? ⟨w.heap.size + 1, 0, none⟩ = some (.int .u8 d.a.toNat) ∧ wx.cell? ⟨w.heap.size + 1, 1, none⟩ = some (.int .u8 d.b.toNat) ∧ wx.cell? ⟨w.heap.size + 1, 2, none⟩ = some (.int .u8 d.c.toNat) ∧ wx.cell? ⟨w.heap.size + 1, 3, none⟩ = some (.int .u8 d.d.toNat) := fun wx h => by
    obtain ⟨a0, a1, a2, a3⟩ := (hbs1.mono h).ip4
    obtain ⟨b0, b1, b2, b3⟩ := (hbd1.mono h).ip4
    exact ⟨a0, a1, a2, a3, b0, b1, b2, b3⟩
  have HK := Lib.hid hK
  clear hK
  obtain ⟨F, hF⟩ : ∃ F, F = fitsB s := ⟨_, rfl⟩
  rw [← hF] at D3
  have HF := Lib.hid (fits_cases s)
  rw [← hF] at HF
  go_upto_region 2 with (fail)
  go_cut [10] from 12 to 24 (fun v wx => v = .bool F ∧ w1 = wx)
  case first =>
    rcases HF.out with ⟨g1, g2, g3⟩ | ⟨g1, g2, rfl⟩ | ⟨g1, rfl⟩
    all_goals
      clear hF
      go_wp2
      go_meet
      exact ⟨rfl, rfl⟩
  case rest =>
  obtain ⟨rfl, rfl⟩ := hcut
  clear hF HF
  go_upto_region 3 with (fail)
  -- region 3
  rename_i K3 hK3
  have b0 : Below w1.heap.size w1 w1.drew := (Below.refl w1.heap.size w1).drew
  have hS0 := HK.out w1.drew b0
  refine wp_region_any (by kernel_rfl) (wpAny_of_G (n := 22) (S := fun w' => w'.cell? ⟨w.heap.size, 0, none⟩ = some (.int .u8 s.a.toNat) ∧ w'.cell? ⟨w.heap.size, 1, none⟩ = some (.int .u8 s.b.toNat) ∧ w'.cell? ⟨w.heap.size, 2, none⟩ = some (.int .u8 s.c.toNat) ∧ w'.cell? ⟨w.heap.size, 3, none⟩ = some (.int .u8 s.d.toNat) ∧ w'.cell? ⟨w.heap.size + 1, 0, none⟩ = some (.int .u8 d.a.toNat) ∧ w'.cell? ⟨w.heap.size + 1, 1, none⟩ = some (.int .u8 d.b.toNat) ∧ w'.cell? ⟨w.heap.size + 1, 2, none⟩ = some (.int .u8 d.c.toNat) ∧ w'.cell? ⟨w.heap.size + 1, 3, none⟩ = some (.int .u8 d.d.toNat)) _ _ _ _ ?_)
  refine G.pure' (i := 0) (v := .bool true) rfl (by kernel_rfl) (fun _ _ _ h => h) (.inl ⟨rfl, fun w' _ => ?_⟩) (fun _ => hS0) ?_
  · simp [execOp, Act.eval, go_sem]
  simp only [Act.put, List.getElem_toArray, List.getElem_cons_zero, List.setIfInBounds_toArray, List.set_cons_zero, List.set_cons_succ]
  refine G.pure' (i := 1) (v := .bool true) rfl (by kernel_rfl) (fun _ _ _ h => h) (.inl ⟨rfl, fun w' _ => ?_⟩) (fun _ => hS0) ?_
  · simp [execOp, Act.eval, go_sem]
  simp only [Act.put, List.getElem_toArray, List.getElem_cons_zero, List.getElem_cons_succ, List.setIfInBounds_toArray, List.set_cons_zero, List.set_cons_succ]
  refine G.load (i := 2) (v := s.v) rfl (by kernel_rfl) (fun _ _ _ h => h) (.inl ⟨rfl, fun w' hS => ?_⟩) (hS0) ?_
  · simp [execOp, Act.eval, hS, go_sem]
  simp only [Act.put, List.getElem_toArray, List.getElem_cons_zero, List.getElem_cons_succ, List.setIfInBounds_toArray, List.set_cons_zero, List.set_cons_succ]
  refine G.load (i := 3) (v := d.v) rfl (by kernel_rfl) (fun _ _ _ h => h) (.inl ⟨rfl, fun w' hS => ?_⟩) (hS0) ?_
  · simp [execOp, Act.eval, hS, go_sem]
  simp only [Act.put, List.getElem_toArray, List.getElem_cons_zero, List.getElem_cons_succ, List.setIfInBounds_toArray, List.set_cons_zero, List.set_cons_succ]
  refine G.pure' (i := 4) (v := .int .i64 p) rfl (by kernel_rfl) (fun _ _ _ h => h) (.inl ⟨rfl, fun w' _ => ?_⟩) (fun _ => hS0) ?_
  · simp [execOp, Act.eval, go_sem]
  simp only [Act.put, List.getElem_toArray, List.getElem_cons_zero, List.getElem_cons_succ, List.setIfInBounds_toArray, List.set_cons_zero, List.set_cons_succ]
  refine G.pure' (i := 5) (v := .int .i64 n) rfl (by kernel_rfl) (fun _ _ _ h => h) (.inl ⟨rfl, fun w' _ => ?_⟩) (fun _ => hS0) ?_
  · simp [execOp, Act.eval, go_sem]
  simp only [Act.put, List.getElem_toArray, List.getElem_cons_zero, List.getElem_cons_succ, List.setIfInBounds_toArray, List.set_cons_zero, List.set_cons_succ]
  refine G.load (i := 8) (v := s.v) rfl (by kernel_rfl) (fun _ _ _ h => h) (.inl ⟨rfl, fun w' hS => ?_⟩) (hS0) ?_
  · simp [execOp, Act.eval, hS, go_sem]
  simp only [Act.put, List.getElem_toArray, List.getElem_cons_zero, List.getElem_cons_succ, List.setIfInBounds_toArray, List.set_cons_zero, List.set_cons_succ]
  refine G.load (i := 9) (v := d.v) rfl (by kernel_rfl) (fun _ _ _ h => h) (.inl ⟨rfl, fun w' hS => ?_⟩) (hS0) ?_
  · simp [execOp, Act.eval, hS, go_sem]
  simp only [Act.put, List.getElem_toArray, List.getElem_cons_zero, List.getElem_cons_succ, List.setIfInBounds_toArray, List.set_cons_zero, List.set_cons_succ]
  refine G.pure' (i := 10) (v := .int .i64 p) rfl (by kernel_rfl) (fun _ _ _ h => h) (.inl ⟨rfl, fun w' _ => ?_⟩) (fun _ => hS0) ?_
  · simp [execOp, Act.eval, go_sem]
  simp only [Act.put, List.getElem_toArray, List.getElem_cons_zero, List.getElem_cons_succ, List.setIfInBounds_toArray, List.set_cons_zero, List.set_cons_succ]
  refine G.pure' (i := 11) (v := .int .i64 n) rfl (by kernel_rfl) (fun _ _ _ h => h) (.inl ⟨rfl, fun w' _ => ?_⟩) (fun _ => hS0) ?_
  · simp [execOp, Act.eval, go_sem]
  simp only [Act.put, List.getElem_toArray, List.getElem_cons_zero, List.getElem_cons_succ, List.setIfInBounds_toArray, List.set_cons_zero, List.set_cons_succ]
  refine G.only' (i := 6) ?r6 rfl ?o6
  case r6 => kernel_rfl
  intro K hK
  refine step_callG rfl rfl (enters_of Tryd.func16 (by kernel_rfl) rfl) (D1.out _) rfl ?_
  rintro e w2 ⟨v2, rfl, ho2, hb2⟩
  have b2 := b0.trans hb2
  have hS2 := HK.out w2 b2
  obtain ⟨A2, c2, rfl, _, _⟩ := ho2.rd.form
  refine ⟨_, rfl, hK _ _ (fun _ => hS2) ?_⟩
  clear hK K
  simp only [Act.put, List.getElem_toArray, List.getElem_cons_zero, List.getElem_cons_succ, List.setIfInBounds_toArray, List.set_cons_zero, List.set_cons_succ]
  refine G.more (T := fun w' => (w'.cell? ⟨w.heap.size, 0, none⟩ = some (.int .u8 s.a.toNat) ∧ w'.cell? ⟨w.heap.size, 1, none⟩ = some (.int .u8 s.b.toNat) ∧ w'.cell? ⟨w.heap.size, 2, none⟩ = some (.int .u8 s.c.toNat) ∧ w'.cell? ⟨w.heap.size, 3, none⟩ = some (.int .u8 s.d.toNat) ∧ w'.cell? ⟨w.heap.size + 1, 0, none⟩ = some (.int .u8 d.a.toNat) ∧ w'.cell? ⟨w.heap.size + 1, 1, none⟩ = some (.int .u8 d.b.toNat) ∧ w'.cell? ⟨w.heap.size + 1, 2, none⟩ = some (.int .u8 d.c.toNat) ∧ w'.cell? ⟨w.heap.size + 1, 3, none⟩ = some (.int .u8 d.d.toNat)) ∧ Below w2.heap.size w2 w') (fun _ h => h.1) ?_
  have hT2 := And.intro hS2 (Below.refl w2.heap.size w2)
  have hr2 := fun w' h => run_str (ho2.rd.mono (w' := w') h)
  refine G.load (i := 7) (v := .string (bstr (psl s d p n))) rfl (by kernel_rfl) (fun _ _ _ h => h) (.inl ⟨rfl, fun w' hS => ?_⟩) hT2 ?_
  · simp [execOp, Act.eval, hr2 w' hS.2, go_sem]
  simp only [Act.put, List.getElem_toArray, List.getElem_cons_zero, List.getElem_cons_succ, List.setIfInBounds_toArray, List.set_cons_zero, List.set_cons_succ]
  refine G.only' (i := 12) ?r12 rfl ?o12
  case r12 => kernel_rfl
  intro K hK
  refine step_callG rfl rfl (enters_of Tryd.func17 (by kernel_rfl) rfl) (D2.out _) rfl ?_
  rintro e w3 ⟨v3, rfl, ho3, hb3⟩
  have b3 := b2.trans (hb3.mono hb2.size)
  have hS3 := HK.out w3 b3
  obtain ⟨A3, c3, rfl, _, _⟩ := ho3.rd.form
  refine ⟨_, rfl, hK _ _ (fun _ => ⟨hS3, hb3⟩) ?_⟩
  clear hK K
  simp only [Act.put, List.getElem_toArray, List.getElem_cons_zero, List.getElem_cons_succ, List.setIfInBounds_toArray, List.set_cons_zero, List.set_cons_succ]
  refine G.more (T := fun w' => (w'.cell? ⟨w.heap.size, 0, none⟩ = some (.int .u8 s.a.toNat) ∧ w'.cell? ⟨w.heap.size, 1, none⟩ = some (.int .u8 s.b.toNat) ∧ w'.cell? ⟨w.heap.size, 2, none⟩ = some (.int .u8 s.c.toNat) ∧ w'.cell? ⟨w.heap.size, 3, none⟩ = some (.int .u8 s.d.toNat) ∧ w'.cell? ⟨w.heap.size + 1, 0, none⟩ = some (.int .u8 d.a.toNat) ∧ w'.cell? ⟨w.heap.size + 1, 1, none⟩ = some (.int .u8 d.b.toNat) ∧ w'.cell? ⟨w.heap.size + 1, 2, none⟩ = some (.int .u8 d.c.toNat) ∧ w'.cell? ⟨w.heap.size + 1, 3, none⟩ = some (.int .u8 d.d.toNat)) ∧ Below w3.heap.size w3 w') (fun _ h => ⟨h.1, hb3.trans (h.2.mono hb3.size)⟩) ?_
  have hT3 := And.intro hS3 (Below.refl w3.heap.size w3)
  have hr3 := fun w' h => run_str (ho3.rd.mono (w' := w') h)
  refine G.load (i := 13) (v := .string (bstr (psl s d p n))) rfl (by kernel_rfl) (fun _ _ _ h => h) (.inl ⟨rfl, fun w' hS => ?_⟩) hT3 ?_
  · simp [execOp, Act.eval, hr3 w' hS.2, go_sem]
  simp only [Act.put, List.getElem_toArray, List.getElem_cons_zero, List.getElem_cons_succ, List.setIfInBounds_toArray, List.set_cons_zero, List.set_cons_succ]
  refine G.pure' (i := 14) (v := .bool true) rfl (by kernel_rfl) (fun _ _ _ h => h) (.inl ⟨rfl, fun w' _ => ?_⟩) (fun _ => hT3) ?_
  · simp [execOp, Act.eval, go_sem]
  simp only [Act.put, List.getElem_toArray, List.getElem_cons_zero, List.getElem_cons_succ, List.setIfInBounds_toArray, List.set_cons_zero, List.set_cons_succ]
  refine G.pure' (i := 15) (v := .bool true) rfl (by kernel_rfl) (fun _ _ _ h => h) (.inl ⟨rfl, fun w' _ => ?_⟩) (fun _ => hT3) ?_
  · simp [execOp, Act.eval, go_sem]
  simp only [Act.put, List.getElem_toArray, List.getElem_cons_zero, List.getElem_cons_succ, List.setIfInBounds_toArray, List.set_cons_zero, List.set_cons_succ]
  refine G.pure' (i := 16) (v := .bool true) rfl (by kernel_rfl) (fun _ _ _ h => h) (.inl ⟨rfl, fun w' _ => ?_⟩) (fun _ => hT3) ?_
  · simp [execOp, Act.eval, go_sem]
  simp only [Act.put, List.getElem_toArray, List.getElem_cons_zero, List.getElem_cons_succ, List.setIfInBounds_toArray, List.set_cons_zero, List.set_cons_succ]
  refine G.load (i := 17) (v := s.v) rfl (by kernel_rfl) (fun _ _ _ h => h) (.inl ⟨rfl, fun w' hS => ?_⟩) (hT3) ?_
  · simp [execOp, Act.eval, hS, go_sem]
  simp only [Act.put, List.getElem_toArray, List.getElem_cons_zero, List.getElem_cons_succ, List.setIfInBounds_toArray, List.set_cons_zero, List.set_cons_succ]
  refine G.pure' (i := 19) (v := .bool F) rfl (by kernel_rfl) (fun _ _ _ h => h) (.inl ⟨rfl, fun w' _ => ?_⟩) (fun _ => hT3) ?_
  · simp [execOp, Act.eval, go_sem]
  simp only [Act.put, List.getElem_toArray, List.getElem_cons_zero, List.getElem_cons_succ, List.setIfInBounds_toArray, List.set_cons_zero, List.set_cons_succ]
  refine G.only' (i := 18) ?r18 rfl ?o18
  case r18 => kernel_rfl
  intro K hK
  refine step_callG rfl rfl (enters_of Tryd.func18 (by kernel_rfl) rfl) (D3.out _) rfl ?_
  rintro e w4 ⟨rfl, hb4⟩
  have b4 := b3.trans (hb4.mono (Nat.le_trans hb2.size hb3.size))
  have hT4 := And.intro (HK.out w4 b4) hb4
  refine ⟨_, rfl, hK _ _ (fun _ => hT4) ?_⟩
  clear hK K
  simp only [Act.put, List.getElem_toArray, List.getElem_cons_zero, List.getElem_cons_succ, List.setIfInBounds_toArray, List.set_cons_zero, List.set_cons_succ]
  refine G.pure' (i := 20) (v := .bool true) rfl (by kernel_rfl) (fun _ _ _ h => h) (.inl ⟨rfl, fun w' _ => ?_⟩) (fun _ => hT4) ?_
  · simp [execOp, Act.eval, go_sem]
  simp only [Act.put, List.getElem_toArray, List.getElem_cons_zero, List.getElem_cons_succ, List.setIfInBounds_toArray, List.set_cons_zero, List.set_cons_succ]
  refine G.pure' (i := 21) (v := .bool true) rfl (by kernel_rfl) (fun _ _ _ h => h) (.inl ⟨rfl, fun w' _ => ?_⟩) (fun _ => hT4) ?_
  · simp [execOp, Act.eval, go_sem]
  simp only [Act.put, List.getElem_toArray, List.getElem_cons_zero, List.getElem_cons_succ, List.setIfInBounds_toArray, List.set_cons_zero, List.set_cons_succ]
  refine G.lastPure (i := 22) (v := .bool true) (by kernel_rfl) (by kernel_rfl) rfl (.inl ⟨rfl, fun w' _ => ?_⟩) (fun e => Bool.noConfusion (show true = false from e)) ?_
  · simp [execOp, Act.eval, go_sem]
  simp only [Act.put, List.getElem_toArray, List.getElem_cons_zero, List.getElem_cons_succ, List.setIfInBounds_toArray, List.set_cons_zero, List.set_cons_succ]
  simp only [Exit.then]
  refine hK3 _ _ ?_
  clear hK3
  have hB4 := below_step hB1 hB1.size b4
  go_wp2
  go_ret
  exact ⟨rfl, hB4⟩
end Go.Proofs.YtbhdojpgjmbogaaDoor
