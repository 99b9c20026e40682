/- UdpFree: the plain laws: a free port is found while not all are taken; what is held when somebody's are given back. -/
import Derived.Test.YtbhdojpgjmbogaaUFree
namespace Go.Proofs.Ytbhdojpgjmbogaa
open Go.RowKit Go.Maps
theorem pigeon : ∀ (S L : List Int), S.Nodup → (∀ x ∈ S, x ∈ L) → S.length ≤ L.length
  | [], _, _, _ => Nat.zero_le _
  | x :: S, L, hn, hs => by
    have hx := hs x (by simp)
    have hn' := List.nodup_cons.1 hn
    have h := pigeon S (L.erase x) hn'.2 (fun y hy => (List.mem_erase_of_ne (fun e => hn'.1 (by rw [← e]; exact hy))).2 (hs y (by simp [hy])))
    rw [List.length_erase_of_mem hx] at h
    have := List.length_pos_of_mem hx
    simp only [List.length_cons]
    omega
/-- The port that is tried as the i-th. -/
def tryP (n : Int) (i : Nat) : Int := 49152 + (n - 49152 + i) % 16384
theorem tryP_behind (n : Int) (i : Nat) : tryP (behindP n) i = tryP n (i + 1) := by
  unfold tryP behindP
  split <;> omega
theorem search_none (f : Int → Option Int) : ∀ (k : Nat) (n : Int), 49152 ≤ n → n ≤ 65535 → search f k n = none → ∀ i, i < k → (f (tryP n i)).isSome = true
  | 0, _, _, _, _, i, hi => by omega
  | k + 1, n, h0, h1, h, i, hi => by
    unfold search at h
    split at h
    · rename_i hs
      match i with
      | 0 =>
        have : tryP n 0 = n := by unfold tryP; omega
        rw [this]; exact hs
      | i + 1 =>
        have hb := behindP_bd h0 h1
        rw [← tryP_behind n]
        exact search_none f k _ hb.1 hb.2 h i (by omega)
    · cases h
theorem search_some (f : Int → Option Int) : ∀ (k : Nat) (n m : Int), 49152 ≤ n → n ≤ 65535 → search f k n = some m → f m = none ∧ 49152 ≤ m ∧ m ≤ 65535
  | 0, _, _, _, _, h => by simp [search] at h
  | k + 1, n, m, h0, h1, h => by
    unfold search at h
    split at h
    · have hb := behindP_bd h0 h1
      exact search_some f k _ m hb.1 hb.2 h
    · rename_i hs
      injection h with h
      subst h
      exact ⟨by simpa using hs, h0, h1⟩
/-- What the law keeps in mind: who has which port. -/
structure Kept (f : Int → Option Int) (E : List (Int × Int)) : Prop where
  has : ∀ x ∈ E, f x.1 = some x.2
  all : ∀ k, InI k → (f k).isSome = true → k ∈ E.map Prod.fst
  nodup : (E.map Prod.fst).Nodup
  bd : ∀ x ∈ E, 49152 ≤ x.1 ∧ x.1 ≤ 65535
theorem Kept.nil : Kept (fun _ => none) [] := ⟨fun x h => by simp at h, fun k _ h => by simp at h, List.nodup_nil, fun x h => by simp at h⟩
theorem search_found {f : Int → Option Int} {E : List (Int × Int)} (h : Kept f E) (hl : E.length ≤ 300) (n : Int) (h0 : 49152 ≤ n) (h1 : n ≤ 65535) : ∃ m, search f 16384 n = some m ∧ f m = none ∧ 49152 ≤ m ∧ m ≤ 65535 := by
  cases hs : search f 16384 n with
  | some m => exact ⟨m, rfl, search_some f 16384 n m h0 h1 hs⟩
  | none =>
    exfalso
    have ha := search_none f 16384 n h0 h1 hs
    have hp := pigeon ((List.range 301).map (tryP n)) (E.map Prod.fst) ?_ ?_
    · simp at hp; omega
    · rw [List.Nodup, List.pairwise_map]
      refine List.Pairwise.imp_of_mem ?_ List.pairwise_lt_range
      intro a c ha hc hlt
      have := List.mem_range.1 ha
      have := List.mem_range.1 hc
      unfold tryP
      omega
    · intro x hx
      obtain ⟨i, hi, rfl⟩ := List.mem_map.1 hx
      have hi' := List.mem_range.1 hi
      exact h.all _ (by unfold InI tryP; omega) (ha i (by omega))
theorem Kept.bind {f : Int → Option Int} {E : List (Int × Int)} (h : Kept f E) {m who : Int} (hm : f m = none) (hb : 49152 ≤ m ∧ m ≤ 65535) : Kept (upd f m who) (E ++ [(m, who)]) := by
  have hne : ∀ x ∈ E, x.1 ≠ m := fun x hx e => by have := h.has x hx; rw [e, hm] at this; cases this
  refine ⟨fun x hx => ?_, fun k hk hs => ?_, ?_, fun x hx => by rcases List.mem_append.1 hx with hx | hx; exact h.bd x hx; simp at hx; subst hx; exact hb⟩
  · rcases List.mem_append.1 hx with hx | hx
    · simp only [upd, if_neg (hne x hx)]; exact h.has x hx
    · simp at hx; subst hx; simp [upd]
  · by_cases e : k = m
    · subst e; simp
    · simp only [upd, if_neg e] at hs
      have := h.all k hk hs
      simp only [List.map_append, List.mem_append]
      exact .inl this
  · rw [List.map_append]
    refine List.nodup_append.2 ⟨h.nodup, by simp, fun a ha b hb => ?_⟩
    obtain ⟨x, hx, rfl⟩ := List.mem_map.1 ha
    simp at hb
    subst hb
    exact hne x hx
theorem Kept.free {f : Int → Option Int} {E : List (Int × Int)} (h : Kept f E) (who : Int) : Kept (freeP f who) (E.filter fun x => x.2 != who) := by
  refine ⟨fun x hx => ?_, fun k hk hs => ?_, ?_, fun x hx => h.bd x (List.mem_filter.1 hx).1⟩
  · obtain ⟨h1, h2⟩ := List.mem_filter.1 hx
    have h3 := h.has x h1
    have h4 : x.2 ≠ who := by simpa using h2
    simp [freeP, h3, h4]
  · unfold freeP at hs
    split at hs
    · cases hs
    · rename_i hne
      obtain ⟨x, hx, rfl⟩ := List.mem_map.1 (h.all k hk hs)
      exact List.mem_map.2 ⟨x, List.mem_filter.2 ⟨hx, by have := h.has x hx; simp; intro e; exact hne (by rw [this, e])⟩, rfl⟩
  · exact h.nodup.sublist ((List.filter_sublist).map _)
end Go.Proofs.Ytbhdojpgjmbogaa
