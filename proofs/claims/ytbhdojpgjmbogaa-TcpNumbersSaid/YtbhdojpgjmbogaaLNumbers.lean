/- TcpNumbers: the walk: it answers true. -/
import Derived.Test.YtbhdojpgjmbogaaLResets
import Derived.Deep.RegionHeld3
import Derived.Deep.DrawnRows
namespace Go.Proofs.Ytbhdojpgjmbogaa
open Go.RowKit Go.Shelf
attribute [local go_sem ↓] Go.wp_at_zero Go.wp_at_succ
set_option maxRecDepth 100000 in
set_option maxHeartbeats 40000000 in
theorem law_numbers (a b m t : Int) (s : SG) (n c : Nat) (A : Option Addr) (hd : s.da = .slice A n c) (hn : n ≤ 140737488355328) (ha : U32 a) (hb : U32 b) (w : World) :
    Calls Try.prog 8 #[.int .u32 a, .int .u32 b, .int .i64 m, .int .i64 t, s.v] w fun e w' => e = .returned (.bool true) ∧ Below w.heap.size w w' := by
  have D1 := Lib.hid (fun W => tdiff a b W)
  have D2 := Lib.hid (fun W => rdiff a b ha hb W)
  have D3 := Lib.hid (fun W => twithin a b m W)
  have D4 := Lib.hid (fun W => rwithin a b m ha hb W)
  have D5 := Lib.hid (fun W => tfirst t W)
  have D6 := Lib.hid (fun W => rfirst t W)
  have D7 := Lib.hid (fun W => tsize s n c A hd hn W)
  have D8 := Lib.hid (fun W => rsize s n c A hd hn W)
  clear hd ha hb
  go_enter Try.func8, Try.ntmps8
  go_upto_region 1 with (fail)
  refine box1 (s := s) (motive := fun X => Code.wp Try.prog _ _ _ X) ?_
  intro X hB hX hs
  go_wp2_with fail
  refine (tawake _).mono ?_
  rintro e w1 ⟨rfl, hb1⟩
  have hs1 := hs.mono hb1
  have hB1 := below_step hB hB.size hb1
  clear hs hB hb1
  obtain ⟨s0, s1, s2, s3, s4, s5, s6, s7, s8, s9⟩ := hs1.sg
  have hK : ∀ wx, Below w1.heap.size w1 wx → wx.cell? ⟨w.heap.size, 0, none⟩ = some (.int .i64 s.fr) ∧ wx.cell? ⟨w.heap.size, 1, none⟩ = some (.int .i64 s.too) ∧ wx.cell? ⟨w.heap.size, 2, none⟩ = some (.int .u32 s.sq) ∧ wx.cell? ⟨w.heap.size, 3, none⟩ = some (.int .u32 s.ak) ∧ wx.cell? ⟨w.heap.size, 4, none⟩ = some (.int .i64 s.fl) ∧
      wx.cell? ⟨w.heap.size, 5, none⟩ = some (.int .i64 s.wn) ∧ wx.cell? ⟨w.heap.size, 6, none⟩ = some (.int .i64 s.ms) ∧ wx.cell? ⟨w.heap.size, 7, none⟩ = some (.bool s.sk) ∧ wx.cell? ⟨w.heap.size, 8, none⟩ = some s.gt ∧ wx.cell? ⟨w.heap.size, 9, none⟩ = some s.da := fun wx h => (hs1.mono h).sg
  have HK := Lib.hid hK
  clear hK
  go_upto_region 2 with (fail)
  go_region_held3 (fun w' => w'.cell? ⟨w.heap.size, 0, none⟩ = some (.int .i64 s.fr) ∧ w'.cell? ⟨w.heap.size, 1, none⟩ = some (.int .i64 s.too) ∧ w'.cell? ⟨w.heap.size, 2, none⟩ = some (.int .u32 s.sq) ∧ w'.cell? ⟨w.heap.size, 3, none⟩ = some (.int .u32 s.ak) ∧ w'.cell? ⟨w.heap.size, 4, none⟩ = some (.int .i64 s.fl) ∧
      w'.cell? ⟨w.heap.size, 5, none⟩ = some (.int .i64 s.wn) ∧ w'.cell? ⟨w.heap.size, 6, none⟩ = some (.int .i64 s.ms) ∧ w'.cell? ⟨w.heap.size, 7, none⟩ = some (.bool s.sk) ∧ w'.cell? ⟨w.heap.size, 8, none⟩ = some s.gt ∧ w'.cell? ⟨w.heap.size, 9, none⟩ = some s.da)
    ((first
      | go_keep
      | exact HK.out _ ((Below.refl w1.heap.size w1).drew.trans hb2)
      | exact HK.out _ (((Below.refl w1.heap.size w1).drew.trans hb2).trans (hb3.mono hb2.size))))
    ((first
      | ((with_reducible refine (D1.out _).mono ?_); rintro e w' ⟨rfl, rfl⟩)
      | ((with_reducible refine (D2.out _).mono ?_); rintro e w' ⟨rfl, rfl⟩)
      | ((with_reducible refine (D3.out _).mono ?_); rintro e w' ⟨rfl, rfl⟩)
      | ((with_reducible refine (D4.out _).mono ?_); rintro e w' ⟨rfl, rfl⟩)
      | ((with_reducible refine (D5.out _).mono ?_); rintro e w' ⟨rfl, rfl⟩)
      | ((with_reducible refine (D6.out _).mono ?_); rintro e w' ⟨rfl, rfl⟩)
      | ((with_reducible refine (D7.out _).mono ?_); rintro e w2 ⟨rfl, hb2⟩)
      | ((with_reducible refine (D8.out _).mono ?_); rintro e w3 ⟨rfl, hb3⟩)))
  have hB4 := below_step hB1 hB1.size (((Below.refl w1.heap.size w1).drew.trans hb2).trans (hb3.mono hb2.size))
  go_wp2
  go_ret
  exact ⟨ret_bool (by simp), hB4⟩
end Go.Proofs.Ytbhdojpgjmbogaa
