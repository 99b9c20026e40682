/- UdpLines: what the walk leans on. -/
import Derived.Test.YtbhdojpgjmbogaaLSt
import Derived.Test.YtbhdojpgjmbogaaLForms
import Derived.Stop.BytesEq
namespace Go.Proofs.Ytbhdojpgjmbogaa
open Go.RowKit Go.Maps Go.Shelf
theorem ip_same (a b c d : UInt8) (W : World) : (Op.equalIn 10000 23 (.agg #[.int .u8 (a.toNat : Int), .int .u8 (b.toNat : Int), .int .u8 (c.toNat : Int), .int .u8 (d.toNat : Int)]) (.agg #[.int .u8 (a.toNat : Int), .int .u8 (b.toNat : Int), .int .u8 (c.toNat : Int), .int .u8 (d.toNat : Int)])).run Try.prog W = .ok true W := by
  have h := run_equalIn_bytes (P := Try.prog) W 9998 23 5 4 Try.underlying23 Try.underlying5 (fun w => by obtain ⟨i, hi, _, hz1, _⟩ := info_parts byte_info; simp [sizeOf, typeInfo, hi, hz1]) [a, b, c, d] [a, b, c, d] rfl rfl
  simpa [Extern.Stop.cell] using h
theorem owI_cur {w : World} {base g n cap : Nat} {l : List Int} (h : OwI w base (.slice (some ⟨g, 0, none⟩) n cap) l) :
    ∃ cur : List Value, w.heap[g]? = some (.cells cur.toArray 3 (0, 0)) ∧ cur.length = cap ∧ cur.take l.length = l.map (Value.int .i64) ∧ l.length ≤ cap ∧ cap ≤ maxLen ∧ base ≤ g ∧ n = l.length := by
  rcases h.2 with ⟨e, _⟩ | ⟨g', cap', cur, e, hb, hg, hn, hc, hs, ht⟩
  · cases e
  · injection e with e1 e2 e3
    injection e1 with e1
    injection e1 with e1
    subst e1 e3
    exact ⟨cur.toList, by simpa using hg, by simpa using hs, by simpa using ht, hn, hc, hb, e2⟩
theorem owI_set {w : World} {base g n cap k : Nat} {l : List Int} (h : OwI w base (.slice (some ⟨g, 0, none⟩) n cap) l) (x : Int) :
    OwI (w.setCell ⟨g, k, none⟩ (.int .i64 x)) base (.slice (some ⟨g, 0, none⟩) n cap) (l.set k x) := by
  obtain ⟨cur, h1, h2, h3, h4, h5, h6, h7⟩ := owI_cur h
  unfold OwI
  rw [List.length_set]
  have e : (w.setCell ⟨g, k, none⟩ (.int .i64 x)).heap[g]? = some (.cells (cur.set k (.int .i64 x)).toArray 3 (0, 0)) := by
    simp [World.setCell, Array.getElem?_modify, h1]
  refine ⟨by simp, .inr ⟨g, cap, _, by rw [h7], h6, e, h4, h5, by simp [h2], ?_⟩⟩
  rw [Nat.mul_one, List.toList_toArray, List.take_set, h3, List.map_set]
theorem owI_cells {w : World} {base g n cap : Nat} {l : List Int} (h : OwI w base (.slice (some ⟨g, 0, none⟩) n cap) l) (k : Nat) (hk : k < l.length) :
    w.cell? ⟨g, k, none⟩ = some (.int .i64 l[k]) ∧ w.frozen? ⟨g, k, none⟩ = false := by
  obtain ⟨cur, h1, h2, h3, h4, h5, h6, h7⟩ := owI_cur h
  obtain ⟨b, o, e, hc⟩ := h.at_ k hk
  injection e with e
  injection e with e1 e2
  subst e1 e2
  rw [Nat.zero_add] at hc
  exact ⟨hc, by simp [World.frozen?, h1]⟩
theorem owI_form {w : World} {base : Nat} {A : Option Addr} {n c : Nat} {l : List Int} (h : OwI w base (.slice A n c) l) (h0 : 0 < l.length) : ∃ g, A = some ⟨g, 0, none⟩ ∧ base ≤ g ∧ g < w.heap.size := by
  rcases h.2 with ⟨e, e0⟩ | ⟨g', cap', cur, e, hb, hg, hn, hc, hs, ht⟩
  · omega
  · injection e with e1 e2 e3
    exact ⟨g', e1, hb, (Array.getElem?_eq_some_iff.1 hg).1⟩
/-- What Push answers, whatever there is room for. -/
structure Pushed (D D' : List DG) (J J' : List Itm) (it : Itm) (code : Int) : Prop where
  two : (D.length < 4 ∧ code = 0 ∧ J' = J ++ [it] ∧ D'.length = D.length + 1) ∨ (D.length = 4 ∧ code = 6 ∧ J' = J ∧ D' = D)
theorem lpush_st {w wa : World} {base p : Nat} {qv vin : Value} {I J : List Itm} {D : List DG} (h : LSt w base p qv vin I J D wa) (hn : D.length ≤ 4) (it : Itm) (d : DG) (hip : d.s0 = it.e.s0 ∧ d.s1 = it.e.s1 ∧ d.s2 = it.e.s2 ∧ d.s3 = it.e.s3 ∧ d.port = it.e.port)
    (hda : Rd wa d.da it.data) (hbu : RdI wa d.bu it.bufs) (hdl : it.data.length ≤ 1048576) (hbl : it.bufs.length ≤ 1048576) (hw : w.heap.size ≤ p) :
    Calls Try.prog 29 #[.pointer (some ⟨p, 0, none⟩), d.v] wa fun e w' =>
      ∃ code qv' J' D', e = .returned (.int .i64 code) ∧ LSt w base p qv' vin I J' D' w' ∧ (∀ g, g < wa.heap.size → LFree p qv vin D g → LFree p qv' vin D' g ∧ w'.heap[g]? = wa.heap[g]?) ∧ Pushed D D' J J' it code ∧ wa.heap.size ≤ w'.heap.size := by
  refine (lpush wa p base qv D it d h.line h.hp h.hb hn hip hda hbu hdl hbl).mono ?_
  rintro e w' (⟨h4, rfl, hB⟩ | ⟨h4, rfl, d', wm, hm, hd, hP⟩)
  · exact ⟨6, qv, J, D, rfl, h.mono hB, fun g hg hf => ⟨hf, hB.block g hg⟩, ⟨.inr ⟨h4, rfl, rfl, rfl⟩⟩, hB.size⟩
  · obtain ⟨qv', hL, hF⟩ := h.push hm hd hbl hP hw
    obtain ⟨_, _, hT, _⟩ := hP
    refine ⟨0, qv', _, _, rfl, hL, fun g hg hf => ⟨hF g hg hf, ?_⟩, ⟨.inl ⟨h4, rfl, rfl, by simp⟩⟩, Nat.le_trans hm.size hT.size⟩
    exact (hT.block g (Nat.lt_of_lt_of_le hg hm.size) (fun hs => hs.elim hf.p hf.q)).trans (hm.block g hg)
/-- What Pop answers, whatever there is. -/
theorem lpop_st {w wa : World} {base p : Nat} {qv vin : Value} {I J : List Itm} {D : List DG} (h : LSt w base p qv vin I J D wa) (hw : w.heap.size ≤ p) :
    Calls Try.prog 30 #[.pointer (some ⟨p, 0, none⟩)] wa fun e w' =>
      (J = [] ∧ e = .returned (.tuple #[DG.zero.v, .int .i64 7]) ∧ LSt w base p qv vin I J D w' ∧ D = []) ∨
      (∃ d D' it J' qv', J = it :: J' ∧ D = d :: D' ∧ e = .returned (.tuple #[d.v, .int .i64 0]) ∧ LSt w base p qv' vin I J' D' w' ∧ Dup w' base it d) := by
  match D, J, h.dups.1 with
  | [], [], _ =>
    refine (lpop_none wa p base qv h.line).mono ?_
    rintro e w' ⟨rfl, hB⟩
    exact .inl ⟨rfl, rfl, h.mono hB, rfl⟩
  | d :: D', it :: J', _ =>
    have hd := h.dups.tail.2
    refine (lpop_some wa p base qv d D' h.line h.hp hd.one).mono ?_
    rintro e w' ⟨rfl, qv', hL, hT, hq⟩
    obtain ⟨h1, h2⟩ := h.pop hL hT hq hw
    exact .inr ⟨d, D', it, J', qv', rfl, rfl, rfl, h1, h2⟩
theorem bufsOf_at (J : List Itm) (j : Nat) (hj : j < J.length) (i : Nat) (hi : i < J[j].bufs.length) :
    ∃ h : (bufsOf (J.take j)).length + i < (bufsOf J).length, (bufsOf J)[(bufsOf (J.take j)).length + i] = J[j].bufs[i] := by
  have e : J = J.take j ++ (J[j] :: J.drop (j + 1)) := by rw [← List.drop_eq_getElem_cons hj, List.take_append_drop]
  have e2 : bufsOf J = bufsOf (J.take j) ++ (J[j].bufs ++ bufsOf (J.drop (j + 1))) := by
    have h : bufsOf J = bufsOf (J.take j ++ (J[j] :: J.drop (j + 1))) := congrArg bufsOf e
    rw [h]
    simp only [bufsOf, List.flatMap_append, List.flatMap_cons]
  have h : (bufsOf (J.take j)).length + i < (bufsOf J).length := by rw [e2]; simp; omega
  refine ⟨h, ?_⟩
  have h3 : (bufsOf J)[(bufsOf (J.take j)).length + i]? = some J[j].bufs[i] := by
    rw [e2, List.getElem?_append_right (by omega), List.getElem?_append_left (by simpa using hi)]
    simp
  rw [List.getElem?_eq_getElem h] at h3
  exact Option.some.inj h3
theorem bufsOf_succ (J : List Itm) (j : Nat) (hj : j < J.length) : (bufsOf (J.take (j + 1))).length = (bufsOf (J.take j)).length + J[j].bufs.length := by
  rw [List.take_succ_eq_append_getElem hj]
  simp only [bufsOf, List.flatMap_append, List.length_append, List.flatMap_cons, List.flatMap_nil, List.append_nil]
theorem drop_at (I : List Itm) (J : List Itm) (f j m : Nat) (hJ : J = I.drop f) (hm : m = f + j) (h : j < J.length) (h2 : m < I.length) : J[j] = I[m] := by
  subst hJ hm
  simp
theorem LSt.inAt {w : World} {base p : Nat} {qv : Value} {I J : List Itm} {D : List DG} {wr : World} {A : Option Addr} {n c : Nat} (h : LSt w base p qv (.slice A n c) I J D wr) (m : Nat) (hm : m < I.length) :
    ∃ b o, A = some ⟨b, o, none⟩ ∧ b < wr.heap.size ∧ ∀ i u, I[m].e.cells[i]? = some u → wr.cell? ⟨b, o + m * 7 + i, none⟩ = some u := by
  obtain ⟨b, o, e, hb, hc⟩ := h.ins.at_ m (by simpa using hm)
  refine ⟨b, o, e, hb, fun i u hu => hc i u ?_⟩
  simpa using hu
end Go.Proofs.Ytbhdojpgjmbogaa
