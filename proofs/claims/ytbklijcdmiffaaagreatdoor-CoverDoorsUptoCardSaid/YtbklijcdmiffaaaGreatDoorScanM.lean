/-
  scan: a name with a dot, by the scanner and by the law. No program in sight.
-/
import Derived.Test.YtbklijcdmiffaaaGreatDoorProg
import Derived.Test.YtbklijcdmiffaaaGreatDoorBase
import Derived.Test.YtbklijcdmiffaaaGreatDoorScanL
import Derived.WalkKit
import Derived.WalkSpells
import Derived.WalkLawsBesides
import Derived.Deep.QuietTactic
import Derived.BigQuiet
import Derived.Lib.Hide
import Derived.Deep.LoopGhost
namespace Go.Proofs.YtbklijcdmiffaaaGreatDoor
open Go.RowKit

theorem ext_at (s : ByteArray) (a b j : Nat) (h : j < (s.extract a b).size) : ∃ h' : a + j < s.size, (s.extract a b)[j] = s[a + j] := by
  have hs : (s.extract a b).size = min b s.size - a := by simp
  refine ⟨by omega, ?_⟩
  simp [ByteArray.getElem_extract]
theorem nameOk_word {s : ByteArray} (h : nameOk s) (j : Nat) (hj : j < s.size) : wordN s[j].toNat := by
  rcases h.2.2 j hj with h1 | h1
  · exact .inl h1
  · exact .inr h1.2
theorem fullOk_size {s : ByteArray} (h : fullOk s) : 3 ≤ s.size ∧ s.size ≤ 49 := by
  obtain ⟨p, hp, -, -, h1, h2⟩ := h
  have e1 : (s.extract 0 p).size = min p s.size - 0 := by simp
  have e2 : (s.extract (p + 1) s.size).size = min s.size s.size - (p + 1) := by simp
  have := h1.1
  have := h1.2.1
  have := h2.1
  have := h2.2.1
  omega
theorem nameOk_first {s : ByteArray} (h : nameOk s) : ∃ h0 : 0 < s.size, letterN s[0].toNat := by
  have h0 : 0 < s.size := h.1
  refine ⟨h0, ?_⟩
  rcases h.2.2 0 h0 with h1 | h1
  · exact h1
  · exact absurd rfl h1.1
theorem fullOk_letter {s : ByteArray} (h : fullOk s) : letterAt s 0 := by
  obtain ⟨p, hp, -, -, h1, h2⟩ := h
  obtain ⟨h0, hl⟩ := nameOk_first h1
  obtain ⟨h', he⟩ := ext_at s 0 p 0 h0
  rw [he] at hl
  exact ⟨by omega, by simpa using hl⟩
theorem fullOk_runs {s : ByteArray} (h : fullOk s) : ∃ p, p ≤ 24 ∧ RunIs s p ∧ dotAt s p ∧ ∃ q, q ≤ 24 ∧ RunIs (s.extract (p + 1) s.size) q ∧ p + 1 + q = s.size := by
  obtain ⟨p, hp, hd, hnd, h1, h2⟩ := h
  have e1 : (s.extract 0 p).size = min p s.size - 0 := by simp
  have e2 : (s.extract (p + 1) s.size).size = min s.size s.size - (p + 1) := by simp
  have b1 := h1.2.1
  have b2 := h2.2.1
  have b3 := h2.1
  refine ⟨p, by omega, ⟨by omega, fun j hj => ?_, ?_⟩, ⟨⟨hp, hd⟩, ?_⟩, (s.extract (p + 1) s.size).size, b2, ⟨Nat.le_refl _, fun j hj => ⟨hj, nameOk_word h2 j hj⟩, ?_⟩, by omega⟩
  · have hj' : j < (s.extract 0 p).size := by omega
    have hw := nameOk_word h1 j hj'
    obtain ⟨h', he⟩ := ext_at s 0 p j hj'
    rw [he] at hw
    exact ⟨by omega, by simpa using hw⟩
  · rintro ⟨h', hw⟩
    rw [hd] at hw
    unfold wordN letterN digitN at hw
    omega
  · obtain ⟨h0, hl⟩ := nameOk_first h2
    obtain ⟨h', he⟩ := ext_at s (p + 1) s.size 0 h0
    rw [he] at hl
    exact ⟨by omega, by simpa using hl⟩
  · rintro ⟨h', -⟩
    omega
theorem fullOk_piece {s : ByteArray} {k z o c : Int} (h : fullOk s) (hp : PieceOk s k z o c) : k = 3 ∧ z = s.size ∧ c = 0 := by
  obtain ⟨p, hp24, hr, hdot, q, hq24, hr2, hsum⟩ := fullOk_runs h
  obtain ⟨f, hf, hcase⟩ := hp.1 (fullOk_letter h)
  obtain rfl := hf.unique hr
  rcases hcase with ⟨h1, _⟩ | ⟨_, h1, _⟩ | ⟨_, _, g, hg, h3⟩
  · omega
  · exact absurd hdot h1
  · obtain rfl := hg.unique hr2
    rcases h3 with ⟨h1, _⟩ | ⟨_, hk, hz, _, hc⟩
    · omega
    · exact ⟨hk, by omega, hc⟩
theorem piece_fullOk {s : ByteArray} {o : Int} (hp : PieceOk s 3 s.size o 0) : fullOk s := by
  by_cases hl : letterAt s 0
  · obtain ⟨f, hf, hcase⟩ := hp.1 hl
    rcases hcase with ⟨_, h1, _⟩ | ⟨_, _, h1, _⟩ | ⟨hf24, hdot, g, hg, h3⟩
    · cases h1
    · cases h1
    · rcases h3 with ⟨_, h1, _⟩ | ⟨hg24, _, hz, _, _⟩
      · cases h1
      · obtain ⟨⟨hfs, hd⟩, hl2, hl2'⟩ := hdot
        have e1 : (s.extract 0 f).size = min f s.size - 0 := by simp
        have e2 : (s.extract (f + 1) s.size).size = min s.size s.size - (f + 1) := by simp
        have hf0 : f ≠ 0 := by
          rintro rfl
          obtain ⟨h0, h0'⟩ := hl
          rw [hd] at h0'
          unfold letterN at h0'
          omega
        refine ⟨f, hfs, hd, fun j hj e => ?_, ⟨by omega, by omega, fun j hj => ?_⟩, ⟨by omega, by omega, fun j hj => ?_⟩⟩
        · obtain ⟨h', hw⟩ := hf.2.1 j hj
          rw [e] at hw
          unfold wordN letterN digitN at hw
          omega
        · obtain ⟨h', he⟩ := ext_at s 0 f j hj
          obtain ⟨h'', hw⟩ := hf.2.1 j (by omega)
          rw [he]
          simp only [Nat.zero_add]
          by_cases hj0 : j = 0
          · subst hj0
            exact .inl hl.2
          · rcases hw with hw | hw
            · exact .inl hw
            · exact .inr ⟨hj0, hw⟩
        · obtain ⟨h', he⟩ := ext_at s (f + 1) s.size j hj
          obtain ⟨h'', hw⟩ := hg.2.1 j (by omega)
          by_cases hj0 : j = 0
          · subst hj0
            rw [he]
            exact .inl hl2'
          · rcases hw with hw | hw
            · exact .inl hw
            · exact .inr ⟨hj0, hw⟩
  · exact absurd rfl (hp.2.1 hl)
theorem ext_all (s : ByteArray) : s.extract 0 s.size = s := by simp
/-- what has been seen of the tokens -/
def Seen (s : ByteArray) (a n : Nat) (xs : List Value) (o : Bool) : Prop :=
  (n = 0 ∧ xs = [] ∧ (fullOk s → a = 0)) ∨ (∃ k t l c rest, 0 < n ∧ xs = tokC k t l c ++ rest ∧ ((k = 3 ∧ t = s) → fullOk s) ∧ (fullOk s → a = s.size ∧ n = 1 ∧ o = true ∧ k = 3 ∧ t = s))
/-- what is known at the end -/
def RunOk (s : ByteArray) (n : Nat) (xs : List Value) : Prop :=
  (n = 0 ∧ ¬ fullOk s) ∨ (∃ k t l c rest, 0 < n ∧ xs = tokC k t l c ++ rest ∧ ((k = 3 ∧ t = s) → fullOk s) ∧ (fullOk s → n = 2 ∧ k = 3 ∧ t = s))
theorem Seen.put {s : ByteArray} {a n z : Nat} {xs : List Value} {o : Bool} {k off : Int} (h : Seen s a n xs o) (ha : a < s.size) (hz1 : 1 ≤ z) (hz2 : a + z ≤ s.size) (hp : PieceOk (s.extract a s.size) k z off 0) (l c : Int) :
    Seen s (a + z) (n + 1) (xs ++ tokC k (s.extract a (a + z)) l c) true := by
  rcases h with ⟨rfl, rfl, hf⟩ | ⟨k', t, l', c', rest, hn, rfl, h1, h2⟩
  · refine .inr ⟨k, s.extract a (a + z), l, c, [], by omega, by simp, ?_, fun hfo => ?_⟩
    · rintro ⟨rfl, he⟩
      have e1 : (s.extract a (a + z)).size = min (a + z) s.size - a := by simp
      rw [he] at e1
      obtain rfl : a = 0 := by omega
      obtain rfl : z = s.size := by omega
      rw [ext_all] at hp
      exact piece_fullOk hp
    · obtain rfl := hf hfo
      rw [ext_all] at hp
      obtain ⟨hk, hz, -⟩ := fullOk_piece hfo hp
      obtain rfl : z = s.size := by omega
      exact ⟨by omega, rfl, rfl, hk, by rw [Nat.zero_add, ext_all]⟩
  · refine .inr ⟨k', t, l', c', rest ++ tokC k (s.extract a (a + z)) l c, by omega, by simp, h1, fun hfo => ?_⟩
    have := (h2 hfo).1
    omega
theorem Seen.none {s : ByteArray} {a n : Nat} {xs : List Value} {o : Bool} (h : Seen s a n xs o) (ha : a < s.size) (hl : ¬ letterAt s a) : ¬ fullOk s := fun hf => by
  rcases h with ⟨rfl, rfl, h⟩ | ⟨k', t, l', c', rest, hn, rfl, h1, h2⟩
  · obtain rfl := h hf
    exact hl (fullOk_letter hf)
  · have := (h2 hf).1
    omega
theorem Seen.skip {s : ByteArray} {a n : Nat} {xs : List Value} {o : Bool} (h : Seen s a n xs o) (hf : ¬ fullOk s) (a' : Nat) : Seen s a' n xs o := by
  rcases h with ⟨rfl, rfl, _⟩ | ⟨k', t, l', c', rest, hn, rfl, h1, h2⟩
  · exact .inl ⟨rfl, rfl, fun h => absurd h hf⟩
  · exact .inr ⟨k', t, l', c', rest, hn, rfl, h1, fun h => absurd h hf⟩
theorem Seen.line {s : ByteArray} {a n : Nat} {xs : List Value} {o : Bool} (h : Seen s a n xs o) (hf : ¬ fullOk s) (a' l c : Nat) : Seen s a' (if o then n + 1 else n) (xs ++ endTok o l c) false := by
  rcases h with ⟨rfl, rfl, _⟩ | ⟨k', t, l', c', rest, hn, rfl, h1, h2⟩
  · cases o with
    | false => exact .inl ⟨rfl, by simp [endTok], fun h => absurd h hf⟩
    | true => exact .inr ⟨1, ⟨#[10]⟩, l, c, [], by simp, by simp [endTok], fun h => by omega, fun h => absurd h hf⟩
  · exact .inr ⟨k', t, l', c', rest ++ endTok o l c, by split <;> omega, by simp, h1, fun h => absurd h hf⟩
theorem Seen.fin {s : ByteArray} {n : Nat} {xs : List Value} {o : Bool} (h : Seen s s.size n xs o) (l c : Nat) : RunOk s (if o then n + 1 else n) (xs ++ endTok o l c) := by
  rcases h with ⟨rfl, rfl, hf⟩ | ⟨k', t, l', c', rest, hn, rfl, h1, h2⟩
  · have hno : ¬ fullOk s := fun h => by
      have := hf h
      have := (fullOk_size h).1
      omega
    cases o with
    | false => exact .inl ⟨rfl, hno⟩
    | true => exact .inr ⟨1, ⟨#[10]⟩, l, c, [], by simp, by simp [endTok], fun h => by omega, fun h => absurd h hno⟩
  · refine .inr ⟨k', t, l', c', rest ++ endTok o l c, by split <;> omega, by simp, h1, fun hfo => ?_⟩
    obtain ⟨-, hn1, rfl, hk, ht⟩ := h2 hfo
    exact ⟨by simp; omega, hk, ht⟩
end Go.Proofs.YtbklijcdmiffaaaGreatDoor
