/- The chapter's examples (packhorselaw13.awake): true in whatever memory. -/
import Derived.Test.YtbhdojpgjmbogaaBind
import Derived.Test.YtbhdojpgjmbogaaUdp2
import Derived.Test.YtbhdojpgjmbogaaUdp4
import Derived.Laws.BytesString
import Derived.Lib.SlBytesConst
namespace Go.Proofs.Ytbhdojpgjmbogaa
open Go.RowKit Go.Maps Go.Shelf
/-- Bytes as a string. -/
def bstr (l : List UInt8) : ByteArray := ⟨l.toArray⟩
theorem bstr_inj {l m : List UInt8} (h : bstr l = bstr m) : l = m := by
  have h2 := congrArg ByteArray.data h
  simpa [bstr] using h2
theorem bstr_push (l : List UInt8) (x : UInt8) : (bstr l).push x = bstr (l ++ [x]) := by simp [bstr, ByteArray.push]
theorem foldl_push (l : List UInt8) : ∀ s : List UInt8, (l.map fun x => (x.toNat : Int)).foldl (fun (r : ByteArray) (n : Int) => r.push (UInt8.ofNat n.toNat)) (bstr s) = bstr (s ++ l) := by
  induction l with
  | nil => intro s; simp
  | cons x l ih =>
    intro s
    simp only [List.map_cons, List.foldl_cons, Int.toNat_natCast, UInt8.ofNat_toNat]
    rw [bstr_push, ih]
    simp
theorem run_str {w : World} {v : Value} {l : List UInt8} (h : Rd w v l) : (convert 24 9 v).run Try.prog w = .ok (.string (bstr l)) w := by
  obtain ⟨A, c, rfl, h1, h2, h3⟩ := h
  rw [run_convert_bytes_string w 24 9 5 A _ c und_bytes Try.underlying5 Try.underlying9]
  rcases h3 with h0 | ⟨b, o, rfl, hlt, hc⟩
  · have h0' : l = [] := by simpa using h0
    subst h0'
    cases A with
    | none => simp [Conv.bytesToString]; rfl
    | some ad => exact run_bytesToString w ad 0 c [] (run_loadCells_list (P := Try.prog) w ad [] (fun j u hu => by simp at hu))
  · rw [List.length_map]
    rw [run_bytesToString w ⟨b, o, none⟩ l.length c (l.map fun x => (x.toNat : Int))]
    · rw [show ByteArray.empty = bstr [] from rfl, foldl_push]
      rfl
    · have := run_loadCells_list (P := Try.prog) w ⟨b, o, none⟩ (l.map bv) (fun j u hu => by rw [add_lit]; exact hc j u hu)
      rw [List.length_map] at this
      rw [this, List.map_map]
      rfl
theorem ex_enc : encL ⟨10, 0, 0, 1⟩ ⟨10, 0, 0, 2⟩ 5 7 [97] = [0, 5, 0, 7, 0, 9, 138, 205, 97] ∧ encE 5 7 [97] = 0 := by
  have h0 : encE 5 7 [97] = 0 := by decide
  refine ⟨?_, h0⟩
  unfold encL
  rw [if_pos h0]
  have hc : csum 17 ⟨10, 0, 0, 1⟩ ⟨10, 0, 0, 2⟩ (laidL 5 7 [97] 0) = 35533 := by
    simp [csum, laidL, psl, IP.l, p16, by8, sumw, fold_small]
  have hs : encS ⟨10, 0, 0, 1⟩ ⟨10, 0, 0, 2⟩ 5 7 [97] = 35533 := by unfold encS; rw [hc]; rfl
  rw [hs]
  decide
theorem ex_dec1 : decR 17 ⟨10, 0, 0, 1⟩ ⟨10, 0, 0, 2⟩ [0, 5, 0, 7, 0, 9, 138, 205, 97] = (5, 7, [97], 0) := by
  have hc : csum 17 ⟨10, 0, 0, 1⟩ ⟨10, 0, 0, 2⟩ [0, 5, 0, 7, 0, 9, 138, 205, 97] = 0 := by
    simp [csum, psl, IP.l, p16, by8, sumw, fold_small]
  simp [decR, b16, be, hc]
theorem ex_dec2 : decR 17 ⟨10, 0, 0, 1⟩ ⟨10, 0, 0, 3⟩ [0, 5, 0, 7, 0, 9, 138, 205, 97] = (0, 0, [], 5) := by
  have hc : csum 17 ⟨10, 0, 0, 1⟩ ⟨10, 0, 0, 3⟩ [0, 5, 0, 7, 0, 9, 138, 205, 97] = 65534 := by
    simp [csum, psl, IP.l, p16, by8, sumw, fold_small, fold_big, fold1]
  simp [decR, b16, be, hc]
theorem ex_bind1 : bindR (fun _ => none) 49152 1 7 = (7, 0, upd (fun _ => none) 7 1, 49152) := by
  unfold bindR
  rw [if_neg (by omega), if_pos (by omega)]
  rfl
theorem ex_bind2 : bindR (upd (fun _ => none) 7 1) 49152 2 7 = (0, 130, upd (fun _ => none) 7 1, 49152) := by
  unfold bindR
  rw [if_neg (by omega), if_pos (by omega)]
  rfl
theorem ex_bind3 : bindR (upd (fun _ => none) 7 1) 49152 2 0 = (49152, 0, upd (upd (fun _ => none) 7 1) 49152 2, 49153) := by
  unfold bindR
  rw [if_neg (by omega), if_neg (by omega)]
  rw [search, if_neg (by simp [upd])]
  rfl
set_option maxHeartbeats 400000 in
theorem unewline (w : World) : Calls Try.prog 28 #[] w fun e w' => e = .returned (.pointer (some ⟨w.heap.size, 0, none⟩)) ∧ w.alloc (.cells #[.slice none 0 0, .int .i64 4] 100) = w' := by
  go_enter Try.func28, Try.ntmps28
  go_wp2
  go_ret
  exact ⟨rfl, rfl⟩
set_option maxHeartbeats 400000 in
theorem ulen (w : World) (p : Nat) (A : Option Addr) (n c : Nat) (h : Blk w p 100 #[.slice A n c, .int .i64 4]) :
    Calls Try.prog 32 #[.pointer (some ⟨p, 0, none⟩)] w fun e w' => e = .returned (.int .i64 n) ∧ w = w' := by
  have c0 := h.cell 0
  simp only [List.getElem?_toArray, List.getElem?_cons_zero] at c0
  go_enter Try.func32, Try.ntmps32
  go_wp2
  go_ret
  exact ⟨rfl, rfl⟩
theorem rd_atf (w : World) (xs : Array Value) (l : List UInt8) (fz : Nat × Nat) (n H : Nat) (hl : xs.toList = l.map bv) (hn : l.length = n) (hm : n ≤ 65536) (hH : w.heap.size = H) : Rd (w.alloc (.cells xs 5 fz)) (.slice (some ⟨H, 0, none⟩) n n) l := by
  subst hH
  subst hn
  have hs : xs.size = l.length := by rw [← Array.length_toList, hl, List.length_map]
  refine ⟨some ⟨w.heap.size, 0, none⟩, l.length, by rw [List.length_map], by rw [List.length_map]; exact Nat.le_refl _, by unfold maxLen; omega, .inr ⟨w.heap.size, 0, rfl, by simp, fun j u hu => ?_⟩⟩
  simp only [World.cell?, heap_alloc_new]
  rw [← hl] at hu
  simpa using hu
theorem run_conv_new (w : World) (H : Nat) (hH : w.heap.size = H) (C : Array Value) (n c : Nat) :
    (convert 24 24 (.slice (some ⟨H, 0, none⟩) n c)).run Try.prog (w.alloc (.cells C 5)) = .ok (.slice (some ⟨H, 0, none⟩) n c) (w.alloc (.cells C 5 (C.size, C.size + 1))) := by
  subst hH
  exact Lib.run_convert_bytes_const (P := Try.prog) w 24 5 C n c Try.underlying24 Try.underlying5
set_option maxRecDepth 100000 in
set_option maxHeartbeats 1000000 in
theorem awake (w : World) : Calls Try.prog 16 #[] w fun e w' => e = .returned (.bool true) ∧ Below w.heap.size w w' := by
  have kc := run_conv_new
  go_enter Try.func16, Try.ntmps16
  go_wp2_with fail
  clear kc
  have hB0 : Below w.heap.size w (((w.alloc (.cells (IP.cells ⟨10, 0, 0, 1⟩) 23)).alloc (.cells (IP.cells ⟨10, 0, 0, 2⟩) 23)).alloc (.cells #[.int .u8 97] 5 (1, 2))) :=
    (((Below.refl w.heap.size w).alloc (Nat.le_refl _) _).alloc (by simp) _).alloc (by simp; omega) _
  have ha0 : Blk (((w.alloc (.cells (IP.cells ⟨10, 0, 0, 1⟩) 23)).alloc (.cells (IP.cells ⟨10, 0, 0, 2⟩) 23)).alloc (.cells #[.int .u8 97] 5 (1, 2))) w.heap.size 23 (IP.cells ⟨10, 0, 0, 1⟩) :=
    ((Blk.new w 23 _ _ rfl).alloc _).alloc _
  have hb0 : Blk (((w.alloc (.cells (IP.cells ⟨10, 0, 0, 1⟩) 23)).alloc (.cells (IP.cells ⟨10, 0, 0, 2⟩) 23)).alloc (.cells #[.int .u8 97] 5 (1, 2))) (w.heap.size + 1) 23 (IP.cells ⟨10, 0, 0, 2⟩) :=
    (Blk.new _ 23 _ _ (by simp)).alloc _
  refine (uenc ⟨10, 0, 0, 1⟩ ⟨10, 0, 0, 2⟩ 5 7 _ [97] _ (rd_atf _ _ [97] (1, 2) 1 _ rfl rfl (by omega) (by simp))).mono ?_
  rintro e w1 ⟨v1, rfl, ho1, hb1⟩
  rw [ex_enc.1] at ho1
  rw [ex_enc.2]
  have hB1 := below_step hB0 hB0.size hb1
  have ha1 := ha0.mono hb1
  have hbb1 := hb0.mono hb1
  have hrx := ho1.rd
  obtain ⟨g, cap, rfl, _, _, _, hg4⟩ := ow_form ho1 (by decide)
  obtain ⟨b6, o6, e6, _, hc⟩ := hrx.at_ 0 (by decide)
  obtain ⟨rfl, rfl⟩ : g = b6 ∧ 0 = o6 := by
    injection e6 with e6
    injection e6 with e6 e7
    exact ⟨e6, e7⟩
  have c6 := hc 6 (by decide)
  have c7 := hc 7 (by decide)
  simp only [List.length_cons, List.length_nil, Nat.zero_add, Nat.reduceAdd, List.getElem_cons_succ, List.getElem_cons_zero, UInt8.reduceToNat, Int.cast_ofNat_Int] at c6 c7 hrx ⊢
  clear ha0 hb0 hB0 hb1 ho1 hc e6
  go_wp2_with (first | ((with_reducible refine at_slot 51 ?_); refine wpList_loadB rfl 23 (.tmp 1) rfl ha1 rfl Try.underlying23 rfl IP.info ?_) | ((with_reducible refine at_slot 52 ?_); refine wpList_loadB rfl 23 (.tmp 2) rfl hbb1 rfl Try.underlying23 rfl IP.info ?_))
  refine (udec ⟨10, 0, 0, 1⟩ ⟨10, 0, 0, 2⟩ _ _ _ hrx (by simp)).mono ?_
  rintro e w2 ⟨v2, rfl, ho2, hb2⟩
  rw [ex_dec1] at ho2 ⊢
  have hB2 := below_step hB1 hB1.size hb2
  have ha2 := ha1.mono hb2
  have hrx2 := hrx.mono hb2
  clear c6 c7 hrx ha1 hbb1 hb2 hB1
  go_wp2_with ((with_reducible refine at_slot 60 ?_); refine wpList_loadB rfl 23 (.tmp 1) rfl ha2 rfl Try.underlying23 rfl IP.info ?_)
  refine (udec ⟨10, 0, 0, 1⟩ ⟨10, 0, 0, 3⟩ _ _ _ hrx2 (by simp)).mono ?_
  rintro e w3 ⟨v3, rfl, ho3, hb3⟩
  rw [ex_dec2] at ho3 ⊢
  have hB3 := below_step hB2 hB2.size hb3
  have ho23 := (ho2.mono hb3).rd
  clear ha2 hrx2 ho2 hb3 hB2 ho3
  go_wp2_with fail
  refine (unew _).mono ?_
  rintro e w4 ⟨p, b, rfl, hP, hp1, hp2, hb4⟩
  have hB4 := below_step hB3 hB3.size hb4
  go_wp2_with fail
  refine (unewline _).mono ?_
  rintro e w5 ⟨rfl, rfl⟩
  have hP5 : PortsAt (w4.alloc (.cells #[.slice none 0 0, .int .i64 4] 100)) p b 0 (fun _ => none) 49152 :=
    ⟨hP.1.alloc _, hP.2.1.same (Below.heap_alloc _ _ _ hP.2.1.lt), hP.2.2⟩
  have hL5 := Blk.new w4 100 #[.slice none 0 0, .int .i64 4] w4.heap.size rfl
  have hB5 := below_step hB4 hB4.size (below_alloc w4 (.cells #[.slice none 0 0, .int .i64 4] 100))
  have hD5 := below_step hb4 hb4.size (below_alloc w4 (.cells #[.slice none 0 0, .int .i64 4] 100))
  have hpl : p < w4.heap.size := hP.1.lt
  have hbl : b < w4.heap.size := hP.2.1.lt
  have hwz := hB3.size
  clear hP hB4 hb4
  generalize w4.alloc (.cells #[.slice none 0 0, .int .i64 4] 100) = w5 at *
  have hwz5 := hB5.size
  go_wp2_with fail
  refine (ubind _ hP5 (by unfold maxLen; omega) 1 7 ⟨by omega, by omega⟩).mono ?_
  rintro e w6 ⟨rfl, hP6, hT6⟩
  rw [ex_bind1] at hP6 ⊢
  go_wp2_with fail
  refine (ubind _ hP6 (by unfold maxLen; omega) 2 7 ⟨by omega, by omega⟩).mono ?_
  rintro e w7 ⟨rfl, hP7, hT7⟩
  rw [ex_bind2] at hP7 ⊢
  go_wp2_with fail
  refine (ubind _ hP7 (by unfold maxLen; omega) 2 0 ⟨by omega, by omega⟩).mono ?_
  rintro e w8 ⟨rfl, hP8, hT8⟩
  rw [ex_bind3] at hP8 ⊢
  have hT := (hT6.trans hT7).trans hT8
  have hB8 : Below w.heap.size w w8 := hB5.trans (hT.below (fun k hk => by rcases hk with rfl | rfl <;> omega) hB5.size)
  have hL8 : Blk w8 w4.heap.size 100 #[.slice none 0 0, .int .i64 4] := (hT.block _ hL5.lt (fun hk => by rcases hk with h | h <;> omega)).trans hL5
  have hD8 : Below w3.heap.size w3 w8 := hD5.trans (hT.below (fun k hk => by rcases hk with rfl | rfl <;> omega) hD5.size)
  have hr8 := ho23.mono hD8
  obtain ⟨A8, c8, rfl, _, _⟩ := hr8.form
  have hcv := run_str hr8
  simp only [List.length_cons, List.length_nil, Nat.zero_add] at hcv ⊢
  have hbs : bstr [97] = ⟨#[97]⟩ := rfl
  rw [hbs] at hcv
  clear hP5 hL5 hB5 hD5 hP6 hT6 hP7 hT7 hP8 hT8 hT hD8 hr8 ho23 hbs
  go_wp2_with (go_at_call 32; refine (ulen _ _ _ _ _ hL8).mono ?_; rintro e w' ⟨rfl, rfl⟩)
  go_ret
  exact ⟨rfl, hB8⟩
end Go.Proofs.Ytbhdojpgjmbogaa
