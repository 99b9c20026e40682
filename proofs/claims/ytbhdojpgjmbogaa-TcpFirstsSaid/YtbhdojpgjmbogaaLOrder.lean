/- TcpOrder, TcpFirsts: the walks: they answer true. -/
import Derived.Test.YtbhdojpgjmbogaaTAwake
namespace Go.Proofs.Ytbhdojpgjmbogaa
open Go.RowKit Go.Shelf
theorem dif_of {x y : Int} (d : Int) (h : (x - y - d) % 4294967296 = 0) (h1 : -2147483648 ≤ d) (h2 : d < 2147483648) : dif x y = d := by unfold dif; omega
set_option maxHeartbeats 4000000 in
theorem law_order (a n b : Int) (ha : U32 a) (hn : U32 n) (hb : U32 b) (w : World) :
    Calls Try.prog 9 #[.int .u32 a, .int .u32 n, .int .u32 b] w fun e w' => e = .returned (.bool true) ∧ Below w.heap.size w w' := by
  obtain ⟨a0, a1⟩ := ha
  obtain ⟨n0, n1⟩ := hn
  obtain ⟨b0, b1⟩ := hb
  go_enter Try.func9, Try.ntmps9
  go_wp2_with fail
  refine (tawake _).mono ?_
  rintro e w1 ⟨rfl, hb1⟩
  go_wp2_with fail
  obtain ⟨N, hN⟩ : ∃ N, N = n % 2147483648 := ⟨_, rfl⟩
  rw [← hN]
  have N0 : 0 ≤ N := by omega
  have N1 : N < 2147483648 := by omega
  clear hN
  refine (tdiff _ _ _).mono ?_
  rintro e w' ⟨rfl, rfl⟩
  rw [dif_of N]
  rotate_left
  · omega
  · omega
  · omega
  go_wp2_with fail
  refine (tdiff _ _ _).mono ?_
  rintro e w' ⟨rfl, rfl⟩
  rw [dif_of N]
  rotate_left
  · omega
  · omega
  · omega
  go_wp2_with fail
  refine (tdiff _ _ _).mono ?_
  rintro e w' ⟨rfl, rfl⟩
  rw [dif_of (-N)]
  rotate_left
  · omega
  · omega
  · omega
  have t1 := twithin ((a + N) % 4294967296) a (N + 1) w1
  rw [show decide (((a + N) % 4294967296 - a) % 4294967296 < N + 1) = true from by simp; omega] at t1
  have t2 := twithin ((a + N) % 4294967296) a N w1
  rw [show decide (((a + N) % 4294967296 - a) % 4294967296 < N) = false from by simp; omega] at t2
  have T := Lib.hid (And.intro t1 t2)
  clear t1 t2
  go_wp2_with fail
  refine T.out.1.mono ?_
  rintro e w' ⟨rfl, rfl⟩
  go_wp2_with fail
  refine T.out.2.mono ?_
  rintro e w' ⟨rfl, rfl⟩
  go_wp2
  go_ret
  exact ⟨rfl, hb1⟩
set_option maxHeartbeats 4000000 in
theorem law_firsts (n l u : Int) (w : World) :
    Calls Try.prog 13 #[.int .i64 n, .int .i64 l, .int .i64 u] w fun e w' => e = .returned (.bool true) ∧ Below w.heap.size w w' := by
  go_enter Try.func13, Try.ntmps13
  go_wp2_with fail
  refine (tawake _).mono ?_
  rintro e w1 ⟨rfl, hb1⟩
  by_cases h1 : n < 0
  · have g1 : decide (n < 0) = true := by simpa using h1
    go_wp2
    go_ret
    exact ⟨rfl, hb1⟩
  have g1 : decide (n < 0) = false := by simpa using h1
  by_cases h2 : 1099511627776 < n
  · have g2 : decide (1099511627776 < n) = true := by simpa using h2
    clear h1
    go_wp2
    go_ret
    exact ⟨rfl, hb1⟩
  have g2 : decide (1099511627776 < n) = false := by simpa using h2
  by_cases h3 : l ≤ 0
  · have g3 : decide (l ≤ 0) = true := by simpa using h3
    clear h1 h2
    go_wp2
    go_ret
    exact ⟨rfl, hb1⟩
  have g3 : decide (l ≤ 0) = false := by simpa using h3
  by_cases h4 : 524288 ≤ l
  · have g4 : decide (524288 ≤ l) = true := by simpa using h4
    clear h1 h2 h3
    go_wp2
    go_ret
    exact ⟨rfl, hb1⟩
  have g4 : decide (524288 ≤ l) = false := by simpa using h4
  by_cases h5 : u < 0
  · have g5 : decide (u < 0) = true := by simpa using h5
    clear h1 h2 h3 h4
    go_wp2
    go_ret
    exact ⟨rfl, hb1⟩
  have g5 : decide (u < 0) = false := by simpa using h5
  have l0 : 0 < l := by omega
  have l1 : l < 524288 := by omega
  have u0 : 0 ≤ u := by omega
  have n0 : 0 ≤ n := by omega
  have n1 : n ≤ 1099511627776 := by omega
  clear h1 h2 h3 h4 h5
  by_cases h6 : 4096 * l ≤ u
  · have g6 : decide (4096 * l ≤ u) = true := by simpa using h6
    clear h6
    go_wp2
    go_ret
    exact ⟨rfl, hb1⟩
  have g6 : decide (4096 * l ≤ u) = false := by simpa using h6
  have u1 : u < 4096 * l := by omega
  clear h6
  go_wp2_with fail
  refine (tfirst _ _).mono ?_
  rintro e w' ⟨rfl, rfl⟩
  go_wp2_with fail
  refine (tfirst _ _).mono ?_
  rintro e w' ⟨rfl, rfl⟩
  go_wp2_with fail
  refine (tdiff _ _ _).mono ?_
  rintro e w' ⟨rfl, rfl⟩
  rw [dif_of (4096 * l)]
  rotate_left
  · omega
  · omega
  · omega
  go_wp2_with fail
  refine (tdiff _ _ _).mono ?_
  rintro e w' ⟨rfl, rfl⟩
  rw [dif_of (4096 * l - u)]
  rotate_left
  · omega
  · omega
  · omega
  have g7 : decide (0 < 4096 * l - u) = true := by simp; omega
  have g8 : decide (u < 4096 * l) = true := by simpa using u1
  go_wp2
  go_ret
  exact ⟨rfl, hb1⟩
end Go.Proofs.Ytbhdojpgjmbogaa
