/- The reference's Decode, where the sum is right. -/
import Derived.Test.YtbhdojpgjmbogaaRDec
import Derived.Test.YtbhdojpgjmbogaaDrawn3
namespace Go.Proofs.Ytbhdojpgjmbogaa
open Go.RowKit Go.Shelf
/-- What the reference's Decode tells where the sum is right. -/
def RDEnd (w : World) (L : List UInt8) (hd : Nat) (syn : Bool) (e : Ending) (w' : World) : Prop :=
  if be ((L.drop 0).take 2) = 0 ∨ be ((L.drop 2).take 2) = 0 then ZEnd w 1 e w' else if (rdAll syn ⟨0, false, []⟩ (optsOf ((L.take hd).drop 20))).1 = false then ZEnd w 140 e w' else
        ∃ g' v', e = .returned (.tuple #[(decSG L (rdAll syn ⟨0, false, []⟩ (optsOf ((L.take hd).drop 20))).2 g' v').v, .int .i64 0]) ∧ Rd w' v' (L.drop hd) ∧ OwS w' w.heap.size g' (rdAll syn ⟨0, false, []⟩ (optsOf ((L.take hd).drop 20))).2.got ∧ Below w.heap.size w w'
set_option maxRecDepth 100000 in
set_option maxHeartbeats 20000000 in
theorem r14dec (s d : IP) (L : List UInt8) (v : Value) (w : World) (hr : Rd w v L) (hmax : L.length ≤ 140737488355000) (h20 : 20 ≤ L.length) (hd : Nat) (x : UInt8) (hx : L[12]'(by omega) = x) (hhd : hd = x.toNat / 16 * 4) (h1 : 20 ≤ hd) (h2 : hd ≤ L.length)
    (hsum : csum 6 s d L = 0) (h3 : L.length - hd ≤ 1024) (syn : Bool) (hsyn : ((L.getD 13 0).toNat : Int) % 32 / 2 % 2 = if syn then 1 else 0) :
    Calls Try.prog 45 #[s.v, d.v, v] w (RDEnd w L hd syn) := by
  obtain ⟨A, c, rfl, hc1, hc2⟩ := hr.form
  obtain ⟨n, hn⟩ : ∃ n, n = L.length := ⟨_, rfl⟩
  obtain ⟨bb, oo, rfl, hbl, hcs⟩ := hr.at_ 0 (by omega)
  have d12 := hcs 12 (by omega)
  have d13 := hcs 13 (by omega)
  rw [hx] at d12
  obtain ⟨y, hy⟩ : ∃ y, y = L[13]'(by omega) := ⟨_, rfl⟩
  rw [← hy] at d13
  have hy2 : L.getD 13 0 = y := by rw [hy, List.getD_eq_getElem?_getD, List.getElem?_eq_getElem (by omega)]; rfl
  have Hy := Lib.hid hy2
  clear hy2 hy
  have HN := Lib.hid hn
  have HSUM := Lib.hid hsum
  have HHD := Lib.hid hhd
  rw [← hn] at hr hc1 hmax h20 h2 h3 ⊢
  have HSYN := Lib.hid hsyn
  have g1 : decide ((n : Int) < 20) = false := by simp; omega
  have i12 : (12 : Int) < (n : Int) := by omega
  have i13 : (13 : Int) < (n : Int) := by omega
  clear hcs hn hsum hsyn hx hhd
  have hxl := UInt8.toNat_lt x
  have hyl := UInt8.toNat_lt y
  go_enter Try.func45, Try.ntmps45
  go_upto_region 1 with (fail)
  refine box5 (s := s) (d := d) (g := SG.zero) (motive := fun X => Code.wp Try.prog _ _ _ X) ?_
  intro X hB hX hbs hbd hz
  have hrX := hr.mono hB
  have e12 := (hB.cell (p := ⟨bb, oo + 12, none⟩) hbl).trans d12
  clear d12
  go_upto_region 4 with (fail)
  have hh : (x.toNat : Int) / 16 * 4 = (hd : Int) := by rw [HHD.out]; omega
  rw [hh]
  clear hh e12
  have gA : decide ((hd : Int) < 20) = false := by simp; omega
  have gA2 : decide (hd < 20) = false := by simp; omega
  have gB : decide (n < hd) = false := by simp; omega
  go_wp2_with (first | ((with_reducible refine at_slot 30 ?_); refine wpList_loadB rfl 23 (.tmp 3) rfl hbs rfl Try.underlying23 rfl IP.info ?_) | ((with_reducible refine at_slot 31 ?_); refine wpList_loadB rfl 23 (.tmp 4) rfl hbd rfl Try.underlying23 rfl IP.info ?_))
  refine (rsum14 s d _ L _ hrX (by rw [← HN.out]; exact hmax)).mono ?_
  rintro e w2 ⟨rfl, hb2⟩
  rw [HSUM.out]
  have gC : decide ((1024 : Int) < (n : Int) - (hd : Int)) = false := by simp; omega
  have hB2 := below_step hB hB.size hb2
  have hz2 := hz.mono hb2
  have hr2 := hrX.mono hb2
  have e13 := (hB2.cell (p := ⟨bb, oo + 13, none⟩) hbl).trans d13
  have z2 := hb2.size
  clear hbs hbd hb2 hz hrX hB d13
  go_upto_region 10 with (fail)
  have hdn0 : (0 : Int) ≤ (hd : Int) := by omega
  have hdn : (hd : Int) ≤ (n : Int) := by omega
  have hdc : (hd : Int) ≤ (c : Int) := by omega
  have htm : ((y.toNat : Int)).tmod 32 = (y.toNat : Int) % 32 := Int.tmod_eq_emod_of_nonneg (by omega)
  have hwy : IntKind.i64.wrap (y.toNat : Int) = (y.toNat : Int) := by rw [IntKind.wrap_i64]; omega
  have hw31 : IntKind.i64.wrap ((y.toNat : Int) % 32) = (y.toNat : Int) % 32 := by rw [IntKind.wrap_i64]; omega
  obtain ⟨F0, hF0⟩ : ∃ F, F = be ((L.drop 0).take 2) := ⟨_, rfl⟩
  obtain ⟨F1, hF1⟩ : ∃ F, F = be ((L.drop 2).take 2) := ⟨_, rfl⟩
  obtain ⟨F2, hF2⟩ : ∃ F, F = be ((L.drop 4).take 4) := ⟨_, rfl⟩
  obtain ⟨F3, hF3⟩ : ∃ F, F = be ((L.drop 8).take 4) := ⟨_, rfl⟩
  obtain ⟨F4, hF4⟩ : ∃ F, F = be ((L.drop 14).take 2) := ⟨_, rfl⟩
  have hwF2 : IntKind.u32.wrap F2 = F2 := by
    have h0 : 0 ≤ F2 := by rw [hF2]; exact be_0 _
    have h1 : F2 < 4294967296 := by rw [hF2]; exact be_4 _ (by simp; omega)
    rw [IntKind.wrap_u32]; omega
  have hwF3 : IntKind.u32.wrap F3 = F3 := by
    have h0 : 0 ≤ F3 := by rw [hF3]; exact be_0 _
    have h1 : F3 < 4294967296 := by rw [hF3]; exact be_4 _ (by simp; omega)
    rw [IntKind.wrap_u32]; omega
  have hat : ∀ (W : World) (f k : Nat) (F : Int), F = be ((L.drop f).take k) → Rd W (.slice (some ⟨bb, oo, none⟩) n c) L → f + k ≤ 20 → k ≤ 4 → Calls Try.prog 58 #[.slice (some ⟨bb, oo, none⟩) n c, .int .i64 (f : Int), .int .i64 (k : Int)] W fun e w' => e = .returned (.int .i64 F) ∧ W = w' := by
    intro W f k F hF hR hfk hk4
    have := rat _ L (f : Int) (k : Int) W hR (by omega) (by omega) (by omega) (by rw [← HN.out]; omega) (by rw [← HN.out]; omega)
    rw [hF]
    simpa using this
  have hatF0 := fun W (h : Rd W (.slice (some ⟨bb, oo, none⟩) n c) L) => hat W 0 2 F0 hF0 h (by omega) (by omega)
  have hatF1 := fun W (h : Rd W (.slice (some ⟨bb, oo, none⟩) n c) L) => hat W 2 2 F1 hF1 h (by omega) (by omega)
  have hatF2 := fun W (h : Rd W (.slice (some ⟨bb, oo, none⟩) n c) L) => hat W 4 4 F2 hF2 h (by omega) (by omega)
  have hatF3 := fun W (h : Rd W (.slice (some ⟨bb, oo, none⟩) n c) L) => hat W 8 4 F3 hF3 h (by omega) (by omega)
  have hatF4 := fun W (h : Rd W (.slice (some ⟨bb, oo, none⟩) n c) L) => hat W 14 2 F4 hF4 h (by omega) (by omega)
  have HF := Lib.hid (And.intro hF0 (And.intro hF1 (And.intro hF2 (And.intro hF3 hF4))))
  have hvd : Rd w (.slice (if c = hd then some ⟨bb, oo, none⟩ else some ⟨bb, oo + hd, none⟩) (n - hd) (c - hd)) (L.drop hd) := by
    have := hr.dropAt hd (by rw [← HN.out]; exact h2)
    simpa [Addr.add_lit] using this
  clear hF0 hF1 hF2 hF3 hF4 hat
  go_cut [9] from 42 to 62 (fun v9 wx => v9 = .pointer (some ⟨w2.heap.size, 0, none⟩) ∧ Blk wx w2.heap.size 67 (SG.cells ⟨F0, F1, F2, F3, (y.toNat : Int) % 32, F4, 0, false, noS, .slice (if c = hd then some ⟨bb, oo, none⟩ else some ⟨bb, oo + hd, none⟩) (n - hd) (c - hd)⟩) ∧ Below w2.heap.size w2 wx)
  case first =>
    have hrD : Rd w2.drew (.slice (some ⟨bb, oo, none⟩) n c) L := hr2.drew
    have hrA : Rd (w2.drew.alloc (.cells SG.zero.cells 67)) (.slice (some ⟨bb, oo, none⟩) n c) L := hrD.mono (below_alloc _ _)
    have hS0 : (fun w' : World => w'.cell? ⟨bb, oo + 13, none⟩ = some (.int .u8 (y.toNat : Int))) w2.drew := e13
    have hS1 : (fun w' : World => w'.cell? ⟨bb, oo + 13, none⟩ = some (.int .u8 (y.toNat : Int))) (w2.drew.alloc (.cells SG.zero.cells 67)) := ((below_alloc w2.drew _).cell (p := ⟨bb, oo + 13, none⟩) (by show bb < w2.heap.size; omega)).trans e13
    have hnew : Blk (w2.drew.alloc (.cells SG.zero.cells 67)) w2.heap.size 67 SG.zero.cells := Blk.new w2.drew 67 _ _ rfl
    have hfin : Blk ((w2.drew.alloc (.cells SG.zero.cells 67)).setRow w2.heap.size (SG.cells ⟨F0, F1, F2, F3, (y.toNat : Int) % 32, F4, 0, false, noS, .slice (if c = hd then some ⟨bb, oo, none⟩ else some ⟨bb, oo + hd, none⟩) (n - hd) (c - hd)⟩)) w2.heap.size 67 (SG.cells ⟨F0, F1, F2, F3, (y.toNat : Int) % 32, F4, 0, false, noS, .slice (if c = hd then some ⟨bb, oo, none⟩ else some ⟨bb, oo + hd, none⟩) (n - hd) (c - hd)⟩) ∧ Below w2.heap.size w2 ((w2.drew.alloc (.cells SG.zero.cells 67)).setRow w2.heap.size (SG.cells ⟨F0, F1, F2, F3, (y.toNat : Int) % 32, F4, 0, false, noS, .slice (if c = hd then some ⟨bb, oo, none⟩ else some ⟨bb, oo + hd, none⟩) (n - hd) (c - hd)⟩)) :=
      ⟨(heap_setRow hnew).1, below_setRow (((Below.refl w2.heap.size w2).drew).alloc (Nat.le_refl _) _) hnew (Nat.le_refl _)⟩
    have HFIN := Lib.hid hfin
    clear hfin
    rename_i hK10
    refine wp_region_any (by kernel_rfl) (wpAny_of_G (n := 22) (S := fun w' => w'.cell? ⟨bb, oo + 13, none⟩ = some (.int .u8 (y.toNat : Int))) _ _ _ _ ?_)
    refine G.pure' (i := 0) (v := .slice (some ⟨bb, oo, none⟩) n c) rfl (by kernel_rfl) (fun _ _ _ h => h) (.inl ⟨rfl, fun w' _ => ?_⟩) (fun _ => hS0) ?_
    · simp [execOp, Act.eval, go_sem]
    simp only [Act.put, List.getElem_toArray, List.getElem_cons_zero, List.setIfInBounds_toArray, List.set_cons_zero, List.set_cons_succ]
    refine G.pure' (i := 2) (v := .slice (some ⟨bb, oo, none⟩) n c) rfl (by kernel_rfl) (fun _ _ _ h => h) (.inl ⟨rfl, fun w' _ => ?_⟩) (fun _ => hS0) ?_
    · simp [execOp, Act.eval, go_sem]
    simp only [Act.put, List.getElem_toArray, List.getElem_cons_zero, List.getElem_cons_succ, List.setIfInBounds_toArray, List.set_cons_zero, List.set_cons_succ]
    refine G.pure' (i := 4) (v := .slice (some ⟨bb, oo, none⟩) n c) rfl (by kernel_rfl) (fun _ _ _ h => h) (.inl ⟨rfl, fun w' _ => ?_⟩) (fun _ => hS0) ?_
    · simp [execOp, Act.eval, go_sem]
    simp only [Act.put, List.getElem_toArray, List.getElem_cons_zero, List.getElem_cons_succ, List.setIfInBounds_toArray, List.set_cons_zero, List.set_cons_succ]
    refine G.pure' (i := 7) (v := .slice (some ⟨bb, oo, none⟩) n c) rfl (by kernel_rfl) (fun _ _ _ h => h) (.inl ⟨rfl, fun w' _ => ?_⟩) (fun _ => hS0) ?_
    · simp [execOp, Act.eval, go_sem]
    simp only [Act.put, List.getElem_toArray, List.getElem_cons_zero, List.getElem_cons_succ, List.setIfInBounds_toArray, List.set_cons_zero, List.set_cons_succ]
    refine G.pure' (i := 10) (v := .slice (some ⟨bb, oo, none⟩) n c) rfl (by kernel_rfl) (fun _ _ _ h => h) (.inl ⟨rfl, fun w' _ => ?_⟩) (fun _ => hS0) ?_
    · simp [execOp, Act.eval, go_sem]
    simp only [Act.put, List.getElem_toArray, List.getElem_cons_zero, List.getElem_cons_succ, List.setIfInBounds_toArray, List.set_cons_zero, List.set_cons_succ]
    refine G.pure' (i := 11) (v := .pointer (some ⟨bb, oo + 13, none⟩)) rfl (by kernel_rfl) (fun _ _ _ h => h) (.inl ⟨rfl, fun w' _ => ?_⟩) (fun _ => hS0) ?_
    · simp [execOp, Act.eval, go_sem, i13]
    simp only [Act.put, List.getElem_toArray, List.getElem_cons_zero, List.getElem_cons_succ, List.setIfInBounds_toArray, List.set_cons_zero, List.set_cons_succ]
    refine G.load (i := 12) (v := .int .u8 (y.toNat : Int)) rfl (by kernel_rfl) (fun _ _ _ h => h) (.inl ⟨rfl, fun w' hS => ?_⟩) (hS0) ?_
    · simp [execOp, Act.eval, hS, go_sem]
    simp only [Act.put, List.getElem_toArray, List.getElem_cons_zero, List.getElem_cons_succ, List.setIfInBounds_toArray, List.set_cons_zero, List.set_cons_succ]
    refine G.pure' (i := 13) (v := .int .i64 (y.toNat : Int)) rfl (by kernel_rfl) (fun _ _ _ h => h) (.inl ⟨rfl, fun w' _ => ?_⟩) (fun _ => hS0) ?_
    · simp [execOp, Act.eval, go_sem, hwy]
    simp only [Act.put, List.getElem_toArray, List.getElem_cons_zero, List.getElem_cons_succ, List.setIfInBounds_toArray, List.set_cons_zero, List.set_cons_succ]
    refine G.pure' (i := 14) (v := .int .i64 ((y.toNat : Int) % 32)) rfl (by kernel_rfl) (fun _ _ _ h => h) (.inl ⟨rfl, fun w' _ => ?_⟩) (fun _ => hS0) ?_
    · simp [execOp, Act.eval, go_sem, htm]
    simp only [Act.put, List.getElem_toArray, List.getElem_cons_zero, List.getElem_cons_succ, List.setIfInBounds_toArray, List.set_cons_zero, List.set_cons_succ]
    refine G.pure' (i := 15) (v := .slice (some ⟨bb, oo, none⟩) n c) rfl (by kernel_rfl) (fun _ _ _ h => h) (.inl ⟨rfl, fun w' _ => ?_⟩) (fun _ => hS0) ?_
    · simp [execOp, Act.eval, go_sem]
    simp only [Act.put, List.getElem_toArray, List.getElem_cons_zero, List.getElem_cons_succ, List.setIfInBounds_toArray, List.set_cons_zero, List.set_cons_succ]
    refine G.pure' (i := 17) (v := .slice (some ⟨bb, oo, none⟩) n c) rfl (by kernel_rfl) (fun _ _ _ h => h) (.inl ⟨rfl, fun w' _ => ?_⟩) (fun _ => hS0) ?_
    · simp [execOp, Act.eval, go_sem]
    simp only [Act.put, List.getElem_toArray, List.getElem_cons_zero, List.getElem_cons_succ, List.setIfInBounds_toArray, List.set_cons_zero, List.set_cons_succ]
    refine G.pure' (i := 18) (v := .int .i64 (hd : Int)) rfl (by kernel_rfl) (fun _ _ _ h => h) (.inl ⟨rfl, fun w' _ => ?_⟩) (fun _ => hS0) ?_
    · simp [execOp, Act.eval, go_sem]
    simp only [Act.put, List.getElem_toArray, List.getElem_cons_zero, List.getElem_cons_succ, List.setIfInBounds_toArray, List.set_cons_zero, List.set_cons_succ]
    refine G.pure' (i := 19) (v := .slice (if c = hd then some ⟨bb, oo, none⟩ else some ⟨bb, oo + hd, none⟩) (n - hd) (c - hd)) rfl (by kernel_rfl) (fun _ _ _ h => h) (.inl ⟨rfl, fun w' _ => ?_⟩) (fun _ => hS0) ?_
    · simp [execOp, Act.eval, go_sem, hdn, hdn0]
    simp only [Act.put, List.getElem_toArray, List.getElem_cons_zero, List.getElem_cons_succ, List.setIfInBounds_toArray, List.set_cons_zero, List.set_cons_succ]
    refine G.two (i := 1) (j := 21) ?rt1 rfl rfl ?at1 ?bt1
    case rt1 => kernel_rfl
    case at1 =>
      intro K hK
      refine step_call rfl rfl (enters_of Try.func58 (by kernel_rfl) rfl) (hatF0 _ hrD) rfl ?_
      rintro e w' ⟨rfl, rfl⟩
      refine ⟨_, rfl, hK _ _ (fun _ => hS0) ?_⟩
      clear hK K
      simp only [Act.put, List.getElem_toArray, List.getElem_cons_zero, List.getElem_cons_succ, List.setIfInBounds_toArray, List.set_cons_zero, List.set_cons_succ]
      refine G.two (i := 3) (j := 21) ?rt2 rfl rfl ?at2 ?bt2
      case rt2 => kernel_rfl
      case at2 =>
        intro K hK
        refine step_call rfl rfl (enters_of Try.func58 (by kernel_rfl) rfl) (hatF1 _ hrD) rfl ?_
        rintro e w' ⟨rfl, rfl⟩
        refine ⟨_, rfl, hK _ _ (fun _ => hS0) ?_⟩
        clear hK K
        simp only [Act.put, List.getElem_toArray, List.getElem_cons_zero, List.getElem_cons_succ, List.setIfInBounds_toArray, List.set_cons_zero, List.set_cons_succ]
        refine G.two (i := 5) (j := 21) ?rt3 rfl rfl ?at3 ?bt3
        case rt3 => kernel_rfl
        case at3 =>
          intro K hK
          refine step_call rfl rfl (enters_of Try.func58 (by kernel_rfl) rfl) (hatF2 _ hrD) rfl ?_
          rintro e w' ⟨rfl, rfl⟩
          refine ⟨_, rfl, hK _ _ (fun _ => hS0) ?_⟩
          clear hK K
          simp only [Act.put, List.getElem_toArray, List.getElem_cons_zero, List.getElem_cons_succ, List.setIfInBounds_toArray, List.set_cons_zero, List.set_cons_succ]
          refine G.pure' (i := 6) (v := .int .u32 F2) rfl (by kernel_rfl) (fun _ _ _ h => h) (.inl ⟨rfl, fun w' _ => ?_⟩) (fun _ => hS0) ?_
          · simp [execOp, Act.eval, go_sem, hwF2]
          simp only [Act.put, List.getElem_toArray, List.getElem_cons_zero, List.getElem_cons_succ, List.setIfInBounds_toArray, List.set_cons_zero, List.set_cons_succ]
          refine G.two (i := 8) (j := 21) ?rt4 rfl rfl ?at4 ?bt4
          case rt4 => kernel_rfl
          case at4 =>
            intro K hK
            refine step_call rfl rfl (enters_of Try.func58 (by kernel_rfl) rfl) (hatF3 _ hrD) rfl ?_
            rintro e w' ⟨rfl, rfl⟩
            refine ⟨_, rfl, hK _ _ (fun _ => hS0) ?_⟩
            clear hK K
            simp only [Act.put, List.getElem_toArray, List.getElem_cons_zero, List.getElem_cons_succ, List.setIfInBounds_toArray, List.set_cons_zero, List.set_cons_succ]
            refine G.pure' (i := 9) (v := .int .u32 F3) rfl (by kernel_rfl) (fun _ _ _ h => h) (.inl ⟨rfl, fun w' _ => ?_⟩) (fun _ => hS0) ?_
            · simp [execOp, Act.eval, go_sem, hwF3]
            simp only [Act.put, List.getElem_toArray, List.getElem_cons_zero, List.getElem_cons_succ, List.setIfInBounds_toArray, List.set_cons_zero, List.set_cons_succ]
            refine G.two (i := 16) (j := 21) ?rt5 rfl rfl ?at5 ?bt5
            case rt5 => kernel_rfl
            case at5 =>
              intro K hK
              refine step_call rfl rfl (enters_of Try.func58 (by kernel_rfl) rfl) (hatF4 _ hrD) rfl ?_
              rintro e w' ⟨rfl, rfl⟩
              refine ⟨_, rfl, hK _ _ (fun _ => hS0) ?_⟩
              clear hK K
              simp only [Act.put, List.getElem_toArray, List.getElem_cons_zero, List.getElem_cons_succ, List.setIfInBounds_toArray, List.set_cons_zero, List.set_cons_succ]
              refine G.pure' (i := 20) (v := .agg (SG.cells ⟨F0, F1, F2, F3, (y.toNat : Int) % 32, F4, 0, false, noS, .slice (if c = hd then some ⟨bb, oo, none⟩ else some ⟨bb, oo + hd, none⟩) (n - hd) (c - hd)⟩)) rfl (by kernel_rfl) (fun _ _ _ h => h) (.inl ⟨rfl, fun w' _ => ?_⟩) (fun _ => hS0) ?_
              · simp [execOp, Act.eval, go_sem]
              simp only [Act.put, List.getElem_toArray, List.getElem_cons_zero, List.getElem_cons_succ, List.setIfInBounds_toArray, List.set_cons_zero, List.set_cons_succ]
              refine G.only' (i := 21) ?r21t6 rfl ?o21t6
              case r21t6 => kernel_rfl
              intro K hK
              refine step_allocSeg rfl rfl ?_
              refine hK _ _ (fun _ => hS1) ?_
              clear hK K
              simp only [Act.put, List.getElem_toArray, List.getElem_cons_zero, List.getElem_cons_succ]
              refine G.only' (i := 22) ?r22t7 rfl ?o22t7
              case r22t7 => kernel_rfl
              intro K hK
              refine step_storeSeg rfl (.tmp 9) (.tmp 62) rfl hnew ⟨F0, F1, F2, F3, (y.toNat : Int) % 32, F4, 0, false, noS, .slice (if c = hd then some ⟨bb, oo, none⟩ else some ⟨bb, oo + hd, none⟩) (n - hd) (c - hd)⟩ rfl rfl ?xt7 ?yt7 ?_
              case xt7 => simp [Act.eval]
              case yt7 => simp [Act.eval]
              refine hK _ _ (fun e => Bool.noConfusion (show true = false from e)) (G.done (by kernel_rfl) ?_)
              clear hK K
              simp only [Act.put, List.getElem_toArray, List.getElem_cons_zero, List.getElem_cons_succ]
              simp only [Exit.then, List.setIfInBounds_toArray, List.set_cons_zero, List.set_cons_succ]
              refine hK10 _ _ ?_
              go_meet
              exact ⟨rfl, HFIN.out.1, HFIN.out.2⟩
            case bt5 =>
              intro K hK
              refine step_allocSeg rfl rfl ?_
              refine hK _ _ (fun _ => hS1) ?_
              clear hK K
              simp only [Act.put, List.getElem_toArray, List.getElem_cons_zero, List.getElem_cons_succ, List.setIfInBounds_toArray, List.set_cons_zero, List.set_cons_succ]
              refine G.only' (i := 16) ?r16t8 rfl ?o16t8
              case r16t8 => kernel_rfl
              intro K hK
              refine step_call rfl rfl (enters_of Try.func58 (by kernel_rfl) rfl) (hatF4 _ hrA) rfl ?_
              rintro e w' ⟨rfl, rfl⟩
              refine ⟨_, rfl, hK _ _ (fun _ => hS1) ?_⟩
              clear hK K
              simp only [Act.put, List.getElem_toArray, List.getElem_cons_zero, List.getElem_cons_succ, List.setIfInBounds_toArray, List.set_cons_zero, List.set_cons_succ]
              refine G.pure' (i := 20) (v := .agg (SG.cells ⟨F0, F1, F2, F3, (y.toNat : Int) % 32, F4, 0, false, noS, .slice (if c = hd then some ⟨bb, oo, none⟩ else some ⟨bb, oo + hd, none⟩) (n - hd) (c - hd)⟩)) rfl (by kernel_rfl) (fun _ _ _ h => h) (.inl ⟨rfl, fun w' _ => ?_⟩) (fun _ => hS1) ?_
              · simp [execOp, Act.eval, go_sem]
              simp only [Act.put, List.getElem_toArray, List.getElem_cons_zero, List.getElem_cons_succ, List.setIfInBounds_toArray, List.set_cons_zero, List.set_cons_succ]
              refine G.only' (i := 22) ?r22t9 rfl ?o22t9
              case r22t9 => kernel_rfl
              intro K hK
              refine step_storeSeg rfl (.tmp 9) (.tmp 62) rfl hnew ⟨F0, F1, F2, F3, (y.toNat : Int) % 32, F4, 0, false, noS, .slice (if c = hd then some ⟨bb, oo, none⟩ else some ⟨bb, oo + hd, none⟩) (n - hd) (c - hd)⟩ rfl rfl ?xt9 ?yt9 ?_
              case xt9 => simp [Act.eval]
              case yt9 => simp [Act.eval]
              refine hK _ _ (fun e => Bool.noConfusion (show true = false from e)) (G.done (by kernel_rfl) ?_)
              clear hK K
              simp only [Act.put, List.getElem_toArray, List.getElem_cons_zero, List.getElem_cons_succ]
              simp only [Exit.then]
              refine hK10 _ _ ?_
              go_meet
              exact ⟨rfl, HFIN.out.1, HFIN.out.2⟩
          case bt4 =>
            intro K hK
            refine step_allocSeg rfl rfl ?_
            refine hK _ _ (fun _ => hS1) ?_
            clear hK K
            simp only [Act.put, List.getElem_toArray, List.getElem_cons_zero, List.getElem_cons_succ, List.setIfInBounds_toArray, List.set_cons_zero, List.set_cons_succ]
            refine G.only' (i := 8) ?r8t10 rfl ?o8t10
            case r8t10 => kernel_rfl
            intro K hK
            refine step_call rfl rfl (enters_of Try.func58 (by kernel_rfl) rfl) (hatF3 _ hrA) rfl ?_
            rintro e w' ⟨rfl, rfl⟩
            refine ⟨_, rfl, hK _ _ (fun _ => hS1) ?_⟩
            clear hK K
            simp only [Act.put, List.getElem_toArray, List.getElem_cons_zero, List.getElem_cons_succ, List.setIfInBounds_toArray, List.set_cons_zero, List.set_cons_succ]
            refine G.pure' (i := 9) (v := .int .u32 F3) rfl (by kernel_rfl) (fun _ _ _ h => h) (.inl ⟨rfl, fun w' _ => ?_⟩) (fun _ => hS1) ?_
            · simp [execOp, Act.eval, go_sem, hwF3]
            simp only [Act.put, List.getElem_toArray, List.getElem_cons_zero, List.getElem_cons_succ, List.setIfInBounds_toArray, List.set_cons_zero, List.set_cons_succ]
            refine G.only' (i := 16) ?r16t11 rfl ?o16t11
            case r16t11 => kernel_rfl
            intro K hK
            refine step_call rfl rfl (enters_of Try.func58 (by kernel_rfl) rfl) (hatF4 _ hrA) rfl ?_
            rintro e w' ⟨rfl, rfl⟩
            refine ⟨_, rfl, hK _ _ (fun _ => hS1) ?_⟩
            clear hK K
            simp only [Act.put, List.getElem_toArray, List.getElem_cons_zero, List.getElem_cons_succ, List.setIfInBounds_toArray, List.set_cons_zero, List.set_cons_succ]
            refine G.pure' (i := 20) (v := .agg (SG.cells ⟨F0, F1, F2, F3, (y.toNat : Int) % 32, F4, 0, false, noS, .slice (if c = hd then some ⟨bb, oo, none⟩ else some ⟨bb, oo + hd, none⟩) (n - hd) (c - hd)⟩)) rfl (by kernel_rfl) (fun _ _ _ h => h) (.inl ⟨rfl, fun w' _ => ?_⟩) (fun _ => hS1) ?_
            · simp [execOp, Act.eval, go_sem]
            simp only [Act.put, List.getElem_toArray, List.getElem_cons_zero, List.getElem_cons_succ, List.setIfInBounds_toArray, List.set_cons_zero, List.set_cons_succ]
            refine G.only' (i := 22) ?r22t12 rfl ?o22t12
            case r22t12 => kernel_rfl
            intro K hK
            refine step_storeSeg rfl (.tmp 9) (.tmp 62) rfl hnew ⟨F0, F1, F2, F3, (y.toNat : Int) % 32, F4, 0, false, noS, .slice (if c = hd then some ⟨bb, oo, none⟩ else some ⟨bb, oo + hd, none⟩) (n - hd) (c - hd)⟩ rfl rfl ?xt12 ?yt12 ?_
            case xt12 => simp [Act.eval]
            case yt12 => simp [Act.eval]
            refine hK _ _ (fun e => Bool.noConfusion (show true = false from e)) (G.done (by kernel_rfl) ?_)
            clear hK K
            simp only [Act.put, List.getElem_toArray, List.getElem_cons_zero, List.getElem_cons_succ]
            simp only [Exit.then]
            refine hK10 _ _ ?_
            go_meet
            exact ⟨rfl, HFIN.out.1, HFIN.out.2⟩
        case bt3 =>
          intro K hK
          refine step_allocSeg rfl rfl ?_
          refine hK _ _ (fun _ => hS1) ?_
          clear hK K
          simp only [Act.put, List.getElem_toArray, List.getElem_cons_zero, List.getElem_cons_succ, List.setIfInBounds_toArray, List.set_cons_zero, List.set_cons_succ]
          refine G.only' (i := 5) ?r5t13 rfl ?o5t13
          case r5t13 => kernel_rfl
          intro K hK
          refine step_call rfl rfl (enters_of Try.func58 (by kernel_rfl) rfl) (hatF2 _ hrA) rfl ?_
          rintro e w' ⟨rfl, rfl⟩
          refine ⟨_, rfl, hK _ _ (fun _ => hS1) ?_⟩
          clear hK K
          simp only [Act.put, List.getElem_toArray, List.getElem_cons_zero, List.getElem_cons_succ, List.setIfInBounds_toArray, List.set_cons_zero, List.set_cons_succ]
          refine G.pure' (i := 6) (v := .int .u32 F2) rfl (by kernel_rfl) (fun _ _ _ h => h) (.inl ⟨rfl, fun w' _ => ?_⟩) (fun _ => hS1) ?_
          · simp [execOp, Act.eval, go_sem, hwF2]
          simp only [Act.put, List.getElem_toArray, List.getElem_cons_zero, List.getElem_cons_succ, List.setIfInBounds_toArray, List.set_cons_zero, List.set_cons_succ]
          refine G.only' (i := 8) ?r8t14 rfl ?o8t14
          case r8t14 => kernel_rfl
          intro K hK
          refine step_call rfl rfl (enters_of Try.func58 (by kernel_rfl) rfl) (hatF3 _ hrA) rfl ?_
          rintro e w' ⟨rfl, rfl⟩
          refine ⟨_, rfl, hK _ _ (fun _ => hS1) ?_⟩
          clear hK K
          simp only [Act.put, List.getElem_toArray, List.getElem_cons_zero, List.getElem_cons_succ, List.setIfInBounds_toArray, List.set_cons_zero, List.set_cons_succ]
          refine G.pure' (i := 9) (v := .int .u32 F3) rfl (by kernel_rfl) (fun _ _ _ h => h) (.inl ⟨rfl, fun w' _ => ?_⟩) (fun _ => hS1) ?_
          · simp [execOp, Act.eval, go_sem, hwF3]
          simp only [Act.put, List.getElem_toArray, List.getElem_cons_zero, List.getElem_cons_succ, List.setIfInBounds_toArray, List.set_cons_zero, List.set_cons_succ]
          refine G.only' (i := 16) ?r16t15 rfl ?o16t15
          case r16t15 => kernel_rfl
          intro K hK
          refine step_call rfl rfl (enters_of Try.func58 (by kernel_rfl) rfl) (hatF4 _ hrA) rfl ?_
          rintro e w' ⟨rfl, rfl⟩
          refine ⟨_, rfl, hK _ _ (fun _ => hS1) ?_⟩
          clear hK K
          simp only [Act.put, List.getElem_toArray, List.getElem_cons_zero, List.getElem_cons_succ, List.setIfInBounds_toArray, List.set_cons_zero, List.set_cons_succ]
          refine G.pure' (i := 20) (v := .agg (SG.cells ⟨F0, F1, F2, F3, (y.toNat : Int) % 32, F4, 0, false, noS, .slice (if c = hd then some ⟨bb, oo, none⟩ else some ⟨bb, oo + hd, none⟩) (n - hd) (c - hd)⟩)) rfl (by kernel_rfl) (fun _ _ _ h => h) (.inl ⟨rfl, fun w' _ => ?_⟩) (fun _ => hS1) ?_
          · simp [execOp, Act.eval, go_sem]
          simp only [Act.put, List.getElem_toArray, List.getElem_cons_zero, List.getElem_cons_succ, List.setIfInBounds_toArray, List.set_cons_zero, List.set_cons_succ]
          refine G.only' (i := 22) ?r22t16 rfl ?o22t16
          case r22t16 => kernel_rfl
          intro K hK
          refine step_storeSeg rfl (.tmp 9) (.tmp 62) rfl hnew ⟨F0, F1, F2, F3, (y.toNat : Int) % 32, F4, 0, false, noS, .slice (if c = hd then some ⟨bb, oo, none⟩ else some ⟨bb, oo + hd, none⟩) (n - hd) (c - hd)⟩ rfl rfl ?xt16 ?yt16 ?_
          case xt16 => simp [Act.eval]
          case yt16 => simp [Act.eval]
          refine hK _ _ (fun e => Bool.noConfusion (show true = false from e)) (G.done (by kernel_rfl) ?_)
          clear hK K
          simp only [Act.put, List.getElem_toArray, List.getElem_cons_zero, List.getElem_cons_succ]
          simp only [Exit.then]
          refine hK10 _ _ ?_
          go_meet
          exact ⟨rfl, HFIN.out.1, HFIN.out.2⟩
      case bt2 =>
        intro K hK
        refine step_allocSeg rfl rfl ?_
        refine hK _ _ (fun _ => hS1) ?_
        clear hK K
        simp only [Act.put, List.getElem_toArray, List.getElem_cons_zero, List.getElem_cons_succ, List.setIfInBounds_toArray, List.set_cons_zero, List.set_cons_succ]
        refine G.only' (i := 3) ?r3t17 rfl ?o3t17
        case r3t17 => kernel_rfl
        intro K hK
        refine step_call rfl rfl (enters_of Try.func58 (by kernel_rfl) rfl) (hatF1 _ hrA) rfl ?_
        rintro e w' ⟨rfl, rfl⟩
        refine ⟨_, rfl, hK _ _ (fun _ => hS1) ?_⟩
        clear hK K
        simp only [Act.put, List.getElem_toArray, List.getElem_cons_zero, List.getElem_cons_succ, List.setIfInBounds_toArray, List.set_cons_zero, List.set_cons_succ]
        refine G.only' (i := 5) ?r5t18 rfl ?o5t18
        case r5t18 => kernel_rfl
        intro K hK
        refine step_call rfl rfl (enters_of Try.func58 (by kernel_rfl) rfl) (hatF2 _ hrA) rfl ?_
        rintro e w' ⟨rfl, rfl⟩
        refine ⟨_, rfl, hK _ _ (fun _ => hS1) ?_⟩
        clear hK K
        simp only [Act.put, List.getElem_toArray, List.getElem_cons_zero, List.getElem_cons_succ, List.setIfInBounds_toArray, List.set_cons_zero, List.set_cons_succ]
        refine G.pure' (i := 6) (v := .int .u32 F2) rfl (by kernel_rfl) (fun _ _ _ h => h) (.inl ⟨rfl, fun w' _ => ?_⟩) (fun _ => hS1) ?_
        · simp [execOp, Act.eval, go_sem, hwF2]
        simp only [Act.put, List.getElem_toArray, List.getElem_cons_zero, List.getElem_cons_succ, List.setIfInBounds_toArray, List.set_cons_zero, List.set_cons_succ]
        refine G.only' (i := 8) ?r8t19 rfl ?o8t19
        case r8t19 => kernel_rfl
        intro K hK
        refine step_call rfl rfl (enters_of Try.func58 (by kernel_rfl) rfl) (hatF3 _ hrA) rfl ?_
        rintro e w' ⟨rfl, rfl⟩
        refine ⟨_, rfl, hK _ _ (fun _ => hS1) ?_⟩
        clear hK K
        simp only [Act.put, List.getElem_toArray, List.getElem_cons_zero, List.getElem_cons_succ, List.setIfInBounds_toArray, List.set_cons_zero, List.set_cons_succ]
        refine G.pure' (i := 9) (v := .int .u32 F3) rfl (by kernel_rfl) (fun _ _ _ h => h) (.inl ⟨rfl, fun w' _ => ?_⟩) (fun _ => hS1) ?_
        · simp [execOp, Act.eval, go_sem, hwF3]
        simp only [Act.put, List.getElem_toArray, List.getElem_cons_zero, List.getElem_cons_succ, List.setIfInBounds_toArray, List.set_cons_zero, List.set_cons_succ]
        refine G.only' (i := 16) ?r16t20 rfl ?o16t20
        case r16t20 => kernel_rfl
        intro K hK
        refine step_call rfl rfl (enters_of Try.func58 (by kernel_rfl) rfl) (hatF4 _ hrA) rfl ?_
        rintro e w' ⟨rfl, rfl⟩
        refine ⟨_, rfl, hK _ _ (fun _ => hS1) ?_⟩
        clear hK K
        simp only [Act.put, List.getElem_toArray, List.getElem_cons_zero, List.getElem_cons_succ, List.setIfInBounds_toArray, List.set_cons_zero, List.set_cons_succ]
        refine G.pure' (i := 20) (v := .agg (SG.cells ⟨F0, F1, F2, F3, (y.toNat : Int) % 32, F4, 0, false, noS, .slice (if c = hd then some ⟨bb, oo, none⟩ else some ⟨bb, oo + hd, none⟩) (n - hd) (c - hd)⟩)) rfl (by kernel_rfl) (fun _ _ _ h => h) (.inl ⟨rfl, fun w' _ => ?_⟩) (fun _ => hS1) ?_
        · simp [execOp, Act.eval, go_sem]
        simp only [Act.put, List.getElem_toArray, List.getElem_cons_zero, List.getElem_cons_succ, List.setIfInBounds_toArray, List.set_cons_zero, List.set_cons_succ]
        refine G.only' (i := 22) ?r22t21 rfl ?o22t21
        case r22t21 => kernel_rfl
        intro K hK
        refine step_storeSeg rfl (.tmp 9) (.tmp 62) rfl hnew ⟨F0, F1, F2, F3, (y.toNat : Int) % 32, F4, 0, false, noS, .slice (if c = hd then some ⟨bb, oo, none⟩ else some ⟨bb, oo + hd, none⟩) (n - hd) (c - hd)⟩ rfl rfl ?xt21 ?yt21 ?_
        case xt21 => simp [Act.eval]
        case yt21 => simp [Act.eval]
        refine hK _ _ (fun e => Bool.noConfusion (show true = false from e)) (G.done (by kernel_rfl) ?_)
        clear hK K
        simp only [Act.put, List.getElem_toArray, List.getElem_cons_zero, List.getElem_cons_succ]
        simp only [Exit.then]
        refine hK10 _ _ ?_
        go_meet
        exact ⟨rfl, HFIN.out.1, HFIN.out.2⟩
    case bt1 =>
      intro K hK
      refine step_allocSeg rfl rfl ?_
      refine hK _ _ (fun _ => hS1) ?_
      clear hK K
      simp only [Act.put, List.getElem_toArray, List.getElem_cons_zero, List.getElem_cons_succ, List.setIfInBounds_toArray, List.set_cons_zero, List.set_cons_succ]
      refine G.only' (i := 1) ?r1t22 rfl ?o1t22
      case r1t22 => kernel_rfl
      intro K hK
      refine step_call rfl rfl (enters_of Try.func58 (by kernel_rfl) rfl) (hatF0 _ hrA) rfl ?_
      rintro e w' ⟨rfl, rfl⟩
      refine ⟨_, rfl, hK _ _ (fun _ => hS1) ?_⟩
      clear hK K
      simp only [Act.put, List.getElem_toArray, List.getElem_cons_zero, List.getElem_cons_succ, List.setIfInBounds_toArray, List.set_cons_zero, List.set_cons_succ]
      refine G.only' (i := 3) ?r3t23 rfl ?o3t23
      case r3t23 => kernel_rfl
      intro K hK
      refine step_call rfl rfl (enters_of Try.func58 (by kernel_rfl) rfl) (hatF1 _ hrA) rfl ?_
      rintro e w' ⟨rfl, rfl⟩
      refine ⟨_, rfl, hK _ _ (fun _ => hS1) ?_⟩
      clear hK K
      simp only [Act.put, List.getElem_toArray, List.getElem_cons_zero, List.getElem_cons_succ, List.setIfInBounds_toArray, List.set_cons_zero, List.set_cons_succ]
      refine G.only' (i := 5) ?r5t24 rfl ?o5t24
      case r5t24 => kernel_rfl
      intro K hK
      refine step_call rfl rfl (enters_of Try.func58 (by kernel_rfl) rfl) (hatF2 _ hrA) rfl ?_
      rintro e w' ⟨rfl, rfl⟩
      refine ⟨_, rfl, hK _ _ (fun _ => hS1) ?_⟩
      clear hK K
      simp only [Act.put, List.getElem_toArray, List.getElem_cons_zero, List.getElem_cons_succ, List.setIfInBounds_toArray, List.set_cons_zero, List.set_cons_succ]
      refine G.pure' (i := 6) (v := .int .u32 F2) rfl (by kernel_rfl) (fun _ _ _ h => h) (.inl ⟨rfl, fun w' _ => ?_⟩) (fun _ => hS1) ?_
      · simp [execOp, Act.eval, go_sem, hwF2]
      simp only [Act.put, List.getElem_toArray, List.getElem_cons_zero, List.getElem_cons_succ, List.setIfInBounds_toArray, List.set_cons_zero, List.set_cons_succ]
      refine G.only' (i := 8) ?r8t25 rfl ?o8t25
      case r8t25 => kernel_rfl
      intro K hK
      refine step_call rfl rfl (enters_of Try.func58 (by kernel_rfl) rfl) (hatF3 _ hrA) rfl ?_
      rintro e w' ⟨rfl, rfl⟩
      refine ⟨_, rfl, hK _ _ (fun _ => hS1) ?_⟩
      clear hK K
      simp only [Act.put, List.getElem_toArray, List.getElem_cons_zero, List.getElem_cons_succ, List.setIfInBounds_toArray, List.set_cons_zero, List.set_cons_succ]
      refine G.pure' (i := 9) (v := .int .u32 F3) rfl (by kernel_rfl) (fun _ _ _ h => h) (.inl ⟨rfl, fun w' _ => ?_⟩) (fun _ => hS1) ?_
      · simp [execOp, Act.eval, go_sem, hwF3]
      simp only [Act.put, List.getElem_toArray, List.getElem_cons_zero, List.getElem_cons_succ, List.setIfInBounds_toArray, List.set_cons_zero, List.set_cons_succ]
      refine G.only' (i := 16) ?r16t26 rfl ?o16t26
      case r16t26 => kernel_rfl
      intro K hK
      refine step_call rfl rfl (enters_of Try.func58 (by kernel_rfl) rfl) (hatF4 _ hrA) rfl ?_
      rintro e w' ⟨rfl, rfl⟩
      refine ⟨_, rfl, hK _ _ (fun _ => hS1) ?_⟩
      clear hK K
      simp only [Act.put, List.getElem_toArray, List.getElem_cons_zero, List.getElem_cons_succ, List.setIfInBounds_toArray, List.set_cons_zero, List.set_cons_succ]
      refine G.pure' (i := 20) (v := .agg (SG.cells ⟨F0, F1, F2, F3, (y.toNat : Int) % 32, F4, 0, false, noS, .slice (if c = hd then some ⟨bb, oo, none⟩ else some ⟨bb, oo + hd, none⟩) (n - hd) (c - hd)⟩)) rfl (by kernel_rfl) (fun _ _ _ h => h) (.inl ⟨rfl, fun w' _ => ?_⟩) (fun _ => hS1) ?_
      · simp [execOp, Act.eval, go_sem]
      simp only [Act.put, List.getElem_toArray, List.getElem_cons_zero, List.getElem_cons_succ, List.setIfInBounds_toArray, List.set_cons_zero, List.set_cons_succ]
      refine G.only' (i := 22) ?r22t27 rfl ?o22t27
      case r22t27 => kernel_rfl
      intro K hK
      refine step_storeSeg rfl (.tmp 9) (.tmp 62) rfl hnew ⟨F0, F1, F2, F3, (y.toNat : Int) % 32, F4, 0, false, noS, .slice (if c = hd then some ⟨bb, oo, none⟩ else some ⟨bb, oo + hd, none⟩) (n - hd) (c - hd)⟩ rfl rfl ?xt27 ?yt27 ?_
      case xt27 => simp [Act.eval]
      case yt27 => simp [Act.eval]
      refine hK _ _ (fun e => Bool.noConfusion (show true = false from e)) (G.done (by kernel_rfl) ?_)
      clear hK K
      simp only [Act.put, List.getElem_toArray, List.getElem_cons_zero, List.getElem_cons_succ]
      simp only [Exit.then]
      refine hK10 _ _ ?_
      go_meet
      exact ⟨rfl, HFIN.out.1, HFIN.out.2⟩
  case rest =>
    obtain ⟨rfl, hsg, hB3⟩ := hcut
    obtain ⟨w3, hw3⟩ : ∃ w3, w3 = wc := ⟨_, rfl⟩
    rw [← hw3] at hsg hB3 ⊢
    clear hw3
    have e6 := hsg.sg.1
    have e7 := hsg.sg.2.1
    have hz3 := hz2.mono hB3
    have hBw3 := below_step hB2 hB2.size hB3
    have HZ := Lib.hid hz3
    have HSG := Lib.hid hsg
    have zlt := hz2.lt
    have z3 := hB3.size
    have zg := hsg.lt
    clear hatF0 hatF1 hatF2 hatF3 hatF4 hwF2 hwF3 hwy htm hw31 e13 hz2 hsg
    by_cases hp : F0 = 0 ∨ F1 = 0
    · have HP := Lib.hid (show be ((L.drop 0).take 2) = 0 ∨ be ((L.drop 2).take 2) = 0 by rw [← HF.out.1, ← HF.out.2.1]; exact hp)
      have hz3 := HZ.out
      by_cases hp0 : F0 = 0
      · have gF : (F0 == 0) = true := by simpa using hp0
        clear hp hp0
        go_wp2_with (refine wpList_storeB rfl 67 (.tmp 6) (.tmp 71) rfl rfl hz3 SG.zero.cells rfl rfl SG.info rfl (SG.one (s := SG.zero) rfl rfl) ?_)
        (try simp only [Exit.inBlock, Exit.then])
        have hz4 := (heap_setRow (cells := SG.zero.cells) hz3).1
        refine bodyPost_ret (by exact ret_seg rfl _ _ rfl hz4 rfl) (by rfl) ?_
        unfold RDEnd
        rw [if_pos HP.out]
        exact ⟨rfl, below_setRow hBw3 hz3 (by omega)⟩
      · have gF : (F0 == 0) = false := by simpa using hp0
        have gT : (F1 == 0) = true := by simpa [hp0] using hp
        clear hp hp0
        go_wp2_with (refine wpList_storeB rfl 67 (.tmp 6) (.tmp 71) rfl rfl hz3 SG.zero.cells rfl rfl SG.info rfl (SG.one (s := SG.zero) rfl rfl) ?_)
        (try simp only [Exit.inBlock, Exit.then])
        have hz4 := (heap_setRow (cells := SG.zero.cells) hz3).1
        refine bodyPost_ret (by exact ret_seg rfl _ _ rfl hz4 rfl) (by rfl) ?_
        unfold RDEnd
        rw [if_pos HP.out]
        exact ⟨rfl, below_setRow hBw3 hz3 (by omega)⟩
    · have HP := Lib.hid (show ¬ (be ((L.drop 0).take 2) = 0 ∨ be ((L.drop 2).take 2) = 0) by rw [← HF.out.1, ← HF.out.2.1]; exact hp)
      have gF : (F0 == 0) = false := by simp; omega
      have gT : (F1 == 0) = false := by simp; omega
      clear hp
      go_wp2_with ((with_reducible refine at_slot 74 ?_); refine wpList_slice2 rfl (.tmp 72) (some (.const (.int .i64 20))) (some (.tmp 73)) rfl hr2 rfl 20 (hd : Int) (.yes rfl rfl) (.yes rfl rfl) (by omega) (by omega) (by rw [← HN.out]; omega) ?_; intro m Am cm hm hm3 hm4 hrm)
      have hmm : m = (L.take hd).drop 20 := by rw [hm.out, Int.toNat_natCast]; rfl
      have hml : m.length ≤ 40 := by
        rw [hmm, List.length_drop, List.length_take]
        have := HHD.out
        omega
      refine (rread w2.heap.size ⟨F0, F1, F2, F3, (y.toNat : Int) % 32, F4, 0, false, noS, .slice (if c = hd then some ⟨bb, oo, none⟩ else some ⟨bb, oo + hd, none⟩) (n - hd) (c - hd)⟩ _ m syn (by show 0 ≤ (y.toNat : Int) % 32; omega) (by show (y.toNat : Int) % 32 ≤ 31; omega) (by have := HSYN.out; rw [Hy.out] at this; exact this) w2 w3 (Nat.le_refl _) HSG.out hrm hB3.size (fun k hk => hB3.block k hk) rfl hml).mono ?_
      rintro e w6 ⟨rfl, hT6, hseg⟩
      rw [hmm] at hseg
      rw [hmm]
      have z6 := hT6.size
      have hz6 : Blk w6 (w.heap.size + 1 + 1) 67 SG.zero.cells := (hT6.block _ (by omega) (by show ¬ w.heap.size + 1 + 1 = w2.heap.size; omega)).trans HZ.out
      have hB6 := below_step hB2 hB2.size (hB3.trans (hT6.below (fun k hk => by have : k = w2.heap.size := hk; omega) z3))
      obtain ⟨R, hR⟩ : ∃ R, R = rdAll syn ⟨0, false, []⟩ (optsOf ((L.take hd).drop 20)) := ⟨_, rfl⟩
      rw [← hR] at hseg
      have HRR := Lib.hid hR
      have hR1 : (rdAll syn ⟨0, false, []⟩ (optsOf ((L.take hd).drop 20))).1 = R.1 := by rw [hR]
      rw [show (rdAll syn ⟨(SG.mk F0 F1 F2 F3 ((y.toNat : Int) % 32) F4 0 false noS (.slice (if c = hd then some ⟨bb, oo, none⟩ else some ⟨bb, oo + hd, none⟩) (n - hd) (c - hd))).ms, (SG.mk F0 F1 F2 F3 ((y.toNat : Int) % 32) F4 0 false noS (.slice (if c = hd then some ⟨bb, oo, none⟩ else some ⟨bb, oo + hd, none⟩) (n - hd) (c - hd))).sk, []⟩ (optsOf ((L.take hd).drop 20))).1 = R.1 from hR1]
      clear hR1
      clear hR hT6 hrm hm hmm e6 e7
      obtain ⟨R1, R2⟩ := R
      cases R1 with
      | false =>
        clear hseg
        go_wp2_with (refine wpList_storeB rfl 67 (.tmp 6) (.tmp 78) rfl rfl hz6 SG.zero.cells rfl rfl SG.info rfl (SG.one (s := SG.zero) rfl rfl) ?_)
        (try simp only [Exit.inBlock, Exit.then])
        have hz7 := (heap_setRow (cells := SG.zero.cells) hz6).1
        refine bodyPost_ret (by exact ret_seg rfl _ _ rfl hz7 rfl) (by rfl) ?_
        unfold RDEnd
        rw [if_neg HP.out, ← HRR.out, if_pos rfl]
        exact ⟨rfl, below_setRow hB6 hz6 (by omega)⟩
      | true =>
        obtain ⟨gv, hs6, hgv⟩ := hseg rfl
        obtain ⟨Ag, cg, eg, _, _⟩ := hgv.form
        subst eg
        obtain ⟨vd, hvdE⟩ : ∃ vd, vd = (if c = hd then some (⟨bb, oo, none⟩ : Addr) else some ⟨bb, oo + hd, none⟩) := ⟨_, rfl⟩
        rw [← hvdE] at hs6 hvd
        have hfin : SG.opt ⟨F0, F1, F2, F3, (y.toNat : Int) % 32, F4, 0, false, noS, .slice vd (n - hd) (c - hd)⟩ R2 (.slice Ag R2.got.length cg) = decSG L R2 (.slice Ag R2.got.length cg) (.slice vd (n - hd) (c - hd)) := by
          unfold SG.opt decSG
          rw [Hy.out, HF.out.1, HF.out.2.1, HF.out.2.2.1, HF.out.2.2.2.1, HF.out.2.2.2.2]
        rw [hfin] at hs6
        clear hfin hseg hvdE
        go_wp2_with (first | ((with_reducible refine at_slot 79 ?_); refine wpList_loadB rfl 67 (.tmp 9) rfl hs6 rfl Try.underlying67 rfl SG.info ?_) | (refine wpList_storeB rfl 67 (.tmp 6) (.tmp 79) rfl rfl hz6 (SG.cells (decSG L R2 (.slice Ag R2.got.length cg) (.slice vd (n - hd) (c - hd)))) rfl rfl SG.info rfl (SG.one (s := decSG L R2 (.slice Ag R2.got.length cg) (.slice vd (n - hd) (c - hd))) rfl rfl) ?_))
        (try simp only [Exit.inBlock, Exit.then])
        have hz7 := (heap_setRow (cells := SG.cells (decSG L R2 (.slice Ag R2.got.length cg) (.slice vd (n - hd) (c - hd)))) hz6)
        refine bodyPost_ret (by exact ret_seg rfl _ _ rfl hz7.1 rfl) (by rfl) ?_
        unfold RDEnd
        rw [if_neg HP.out, ← HRR.out, if_neg (by simp)]
        refine ⟨_, _, rfl, hvd.mono (below_setRow hB6 hz6 (by omega)), (hgv.less (by have := hB2.size; omega)).same fun k hk => hz7.2 k (by have := (hgv.lt hk).1; omega), below_setRow hB6 hz6 (by omega)⟩
end Go.Proofs.Ytbhdojpgjmbogaa
