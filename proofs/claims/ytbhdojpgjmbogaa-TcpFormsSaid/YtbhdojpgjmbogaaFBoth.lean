/- Encode and Decode of both: the program's and the reference's. -/
import Derived.Test.YtbhdojpgjmbogaaRDec2
import Derived.Test.YtbhdojpgjmbogaaREnc2
import Derived.Test.YtbhdojpgjmbogaaTOpt
import Derived.Test.YtbhdojpgjmbogaaTcp7
import Derived.Test.YtbhdojpgjmbogaaTDec3
namespace Go.Proofs.Ytbhdojpgjmbogaa
open Go.RowKit Go.Shelf
@[reducible] def SG.own (g : SG) (vg vd : Value) : SG := ⟨g.fr, g.too, g.sq, g.ak, g.fl, g.wn, g.ms, g.sk, vg, vd⟩
theorem segL_own (g : SG) (vg vd : Value) (o b : List UInt8) (S : Int) : segL (g.own vg vd) o b S = segL g o b S := rfl
theorem enc_both (s d : IP) (g : SG) (E : List (Int × Int)) (b : List UInt8) (hq : U32 g.sq) (ha : U32 g.ak) (hf : InI g.fr) (ht : InI g.too) (hU : SpansU E) :
    ∃ (x : List UInt8) (code : Int), x.length ≤ 2000 ∧ (∀ vg vd W, RdS W vg E → Rd W vd b → Calls Try.prog 42 #[s.v, d.v, (g.own vg vd).v] W (CEnd W x code)) ∧
      (∀ W, RdS W g.gt E → Rd W g.da b → Calls Try.prog 43 #[s.v, d.v, g.v] W (CEnd W x code)) := by
  by_cases hl : 1024 < b.length
  · exact ⟨[], 2, by simp, fun vg vd W _ h2 => tenc_long s d (g.own vg vd) b W h2 hl, fun W _ h2 => renc14_long s d g b W h2 hl⟩
  · by_cases hk : (1 ≤ g.fr ∧ g.fr ≤ 65535) ∧ (1 ≤ g.too ∧ g.too ≤ 65535) ∧ (0 ≤ g.fl ∧ g.fl ≤ 31) ∧ (0 ≤ g.wn ∧ g.wn ≤ 65535) ∧ (0 ≤ g.ms ∧ g.ms ≤ 65535) ∧ E.length ≤ 3
    · obtain ⟨k1, k2, k3, k4, k5, k6⟩ := hk
      have ho := (optB_len g.ms g.sk E k6).1
      refine ⟨segL g (optB g.ms g.sk E) b (csum 6 s d (segL g (optB g.ms g.sk E) b 0)), 0, ?_, fun vg vd W h1 h2 => ?_, fun W h1 h2 => ?_⟩
      · simp [segL, headL_len, p16_len]; omega
      · obtain ⟨A, c, eg, _, _⟩ := h1.form
        exact tenc s d (g.own vg vd) (optB g.ms g.sk E) b W ⟨decide_eq_true k1, decide_eq_true k2, decide_eq_true k3, decide_eq_true k4, decide_eq_true k5, hq, ha⟩ A E.length c eg k6 h2 (by omega) ho
          fun W' hW' => topts_all (g.own vg vd) E W' (h1.mono hW') k6 hU
      · exact renc14_ok s d g E b W ⟨decide_eq_true k1, decide_eq_true k2, decide_eq_true k3, decide_eq_true k4, decide_eq_true k5, hq, ha⟩ h1 k6 hU h2 (by omega)
    · refine ⟨[], 1, by simp, fun vg vd W h1 h2 => ?_, fun W h1 h2 => ?_⟩
      · obtain ⟨A, c, eg, _, _⟩ := h1.form
        exact tenc_arg s d (g.own vg vd) b W A E.length c eg (by omega) h2 (by omega) hk
      · obtain ⟨A, c, eg, _, _⟩ := h1.form
        exact renc14_arg s d g b W A E.length c eg (by omega) h2 (by omega) hf ht hk
/-- What is told of bytes: by the program (what is told is its own) .. -/
def DTold (T : SG) (dl : List UInt8) (E : List (Int × Int)) (code : Int) (w : World) (e : Ending) (w' : World) : Prop :=
  ∃ vg vd, e = .returned (.tuple #[(T.own vg vd).v, .int .i64 code]) ∧ Ow w' w.heap.size vd dl ∧ OwS w' w.heap.size vg E ∧ Below w.heap.size w w'
/-- .. and by the reference. -/
def RTold (T : SG) (dl : List UInt8) (E : List (Int × Int)) (code : Int) (w : World) (e : Ending) (w' : World) : Prop :=
  ∃ vg vd, e = .returned (.tuple #[(T.own vg vd).v, .int .i64 code]) ∧ Rd w' vd dl ∧ RdS w' vg E ∧ Below w.heap.size w w'
theorem ZEnd.told {w : World} {code : Int} {e : Ending} {w' : World} (h : ZEnd w code e w') : DTold SG.zero [] [] code w e w' := ⟨noS, noS, h.1, Ow.nil _ _, OwS.nil _ _, h.2⟩
theorem ZEnd.toldR {w : World} {code : Int} {e : Ending} {w' : World} (h : ZEnd w code e w') : RTold SG.zero [] [] code w e w' := ⟨noS, noS, h.1, Rd.nil _, RdS.nil _, h.2⟩
theorem dec_both (s d : IP) (L : List UInt8) (hmax : L.length ≤ 140737488355000) :
    ∃ (T : SG) (dl : List UInt8) (E : List (Int × Int)) (code : Int), dl.length ≤ L.length ∧ (∀ v W, Rd W v L → Calls Try.prog 44 #[s.v, d.v, v] W (DTold T dl E code W)) ∧ (∀ v W, Rd W v L → Calls Try.prog 45 #[s.v, d.v, v] W (RTold T dl E code W)) := by
  have zz : ∀ code : Int, (∀ v W, Rd W v L → Calls Try.prog 44 #[s.v, d.v, v] W (ZEnd W code)) → (∀ v W, Rd W v L → Calls Try.prog 45 #[s.v, d.v, v] W (ZEnd W code)) →
      ∃ (T : SG) (dl : List UInt8) (E : List (Int × Int)) (code : Int), dl.length ≤ L.length ∧ (∀ v W, Rd W v L → Calls Try.prog 44 #[s.v, d.v, v] W (DTold T dl E code W)) ∧ (∀ v W, Rd W v L → Calls Try.prog 45 #[s.v, d.v, v] W (RTold T dl E code W)) :=
    fun code h1 h2 => ⟨SG.zero, [], [], code, by simp, fun v W h => (h1 v W h).mono fun _ _ => ZEnd.told, fun v W h => (h2 v W h).mono fun _ _ => ZEnd.toldR⟩
  by_cases h20 : L.length < 20
  · exact zz 3 (fun v W h => tdec_short s d L v W h h20) (fun v W h => r14dec_short s d L v W h h20)
  have h20' : 20 ≤ L.length := by omega
  have h12 : 12 < L.length := by omega
  obtain ⟨hd, hhd⟩ : ∃ hd, hd = (L[12]'h12).toNat / 16 * 4 := ⟨_, rfl⟩
  by_cases hbad : hd < 20 ∨ L.length < hd
  · exact zz 4 (fun v W h => tdec_form s d L v W h h20' hmax hd _ rfl hhd hbad) (fun v W h => r14dec_form s d L v W h h20' hmax hd _ rfl hhd hbad)
  have h1 : 20 ≤ hd := by omega
  have h2 : hd ≤ L.length := by omega
  by_cases hsum : csum 6 s d L = 0
  · by_cases hlong : 1024 < L.length - hd
    · exact zz 2 (fun v W h => tdec_long s d L v W h hmax h20' hd _ rfl hhd h1 h2 hsum hlong) (fun v W h => r14dec_long s d L v W h hmax h20' hd _ rfl hhd h1 h2 hsum hlong)
    have h3 : L.length - hd ≤ 1024 := by omega
    obtain ⟨syn, hsyn⟩ : ∃ syn : Bool, ((L.getD 13 0).toNat : Int) % 32 / 2 % 2 = if syn then 1 else 0 := by
      by_cases h : ((L.getD 13 0).toNat : Int) % 32 / 2 % 2 = 1
      · exact ⟨true, h⟩
      · exact ⟨false, by show ((L.getD 13 0).toNat : Int) % 32 / 2 % 2 = 0; omega⟩
    have hR := fun v W h => r14dec s d L v W h hmax h20' hd _ rfl hhd h1 h2 hsum h3 syn hsyn
    by_cases hp : be ((L.drop 0).take 2) = 0 ∨ be ((L.drop 2).take 2) = 0
    · exact zz 1 (fun v W h => tdec_port s d L v W h hmax h20' hd _ rfl hhd h1 h2 hsum h3 hp) (fun v W h => (hR v W h).mono fun e w' he => by unfold RDEnd at he; rwa [if_pos hp] at he)
    · have hf : be ((L.drop 0).take 2) ≠ 0 := fun h => hp (.inl h)
      have ht : be ((L.drop 2).take 2) ≠ 0 := fun h => hp (.inr h)
      by_cases ho : (rdAll syn ⟨0, false, []⟩ (optsOf ((L.take hd).drop 20))).1 = false
      · exact zz 140 (fun v W h => tdec_opts s d L v W h hmax h20' hd _ rfl hhd h1 h2 hsum h3 hf ht syn hsyn ho) (fun v W h => (hR v W h).mono fun e w' he => by unfold RDEnd at he; rwa [if_neg hp, if_pos ho] at he)
      · refine ⟨decSG L (rdAll syn ⟨0, false, []⟩ (optsOf ((L.take hd).drop 20))).2 noS noS, L.drop hd, (rdAll syn ⟨0, false, []⟩ (optsOf ((L.take hd).drop 20))).2.got, 0, by simp, fun v W h => ?_, fun v W h => ?_⟩
        · refine (tdec s d L v W h hmax h20' hd _ rfl hhd h1 h2 hsum h3 hf ht syn hsyn (rdAll syn ⟨0, false, []⟩ (optsOf ((L.take hd).drop 20))).2 (by rw [← (Bool.not_eq_false _).mp ho])).mono ?_
          rintro e w' ⟨g', v', rfl, k1, k2, k3⟩
          exact ⟨g', v', rfl, k1, k2, k3⟩
        · refine (hR v W h).mono ?_
          intro e w' he
          unfold RDEnd at he
          rw [if_neg hp, if_neg ho] at he
          obtain ⟨g', v', rfl, k1, k2, k3⟩ := he
          exact ⟨g', v', rfl, k1, k2.rd, k3⟩
  · exact zz 5 (fun v W h => tdec_sum s d L v W h hmax h20' hd _ rfl hhd h1 h2 hsum) (fun v W h => r14dec_sum s d L v W h hmax h20' hd _ rfl hhd h1 h2 hsum)
end Go.Proofs.Ytbhdojpgjmbogaa
