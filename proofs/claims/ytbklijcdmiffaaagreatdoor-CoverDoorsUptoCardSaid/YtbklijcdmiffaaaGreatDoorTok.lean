/-
  A name with a dot: what trimming and the search for a sign say of it. No program in sight.
-/
import Derived.Test.YtbklijcdmiffaaaGreatDoorBase
import Derived.Lib.SpaceU
import Derived.Lib.TrimAscii
import Derived.Lib.IndexLaws
namespace Go.Proofs.YtbklijcdmiffaaaGreatDoor
open Go.RowKit

def tokN (n : Nat) : Prop := letterN n ∨ digitN n ∨ n = 46
theorem tokN_lt {n : Nat} (h : tokN n) : n < 128 := by unfold tokN letterN digitN at h; omega
theorem tokN_space {n : Nat} (h : tokN n) : Lib.isSpaceR n = false := by
  unfold tokN letterN digitN at h
  unfold Lib.isSpaceR
  simp only [Bool.or_eq_false_iff, Bool.and_eq_false_imp, decide_eq_true_eq, decide_eq_false_iff_not, beq_eq_false_iff_ne]
  omega
theorem ext_byte (s : ByteArray) (a b j : Nat) (h : j < (s.extract a b).size) : ∃ h' : a + j < s.size, (s.extract a b)[j] = s[a + j] := by
  have hs : (s.extract a b).size = min b s.size - a := by simp
  refine ⟨by omega, ?_⟩
  simp [ByteArray.getElem_extract]
theorem nameOk_tok {s : ByteArray} (h : nameOk s) (j : Nat) (hj : j < s.size) : tokN s[j].toNat := by
  rcases h.2.2 j hj with h1 | h1
  · exact .inl h1
  · exact .inr (.inl h1.2)
theorem fullOk_tok {s : ByteArray} (h : fullOk s) (j : Nat) (hj : j < s.size) : tokN s[j].toNat := by
  obtain ⟨p, hp, hd, -, h1, h2⟩ := h
  have e1 : (s.extract 0 p).size = min p s.size - 0 := by simp
  have e2 : (s.extract (p + 1) s.size).size = min s.size s.size - (p + 1) := by simp
  rcases Nat.lt_trichotomy j p with hlt | rfl | hgt
  · have hj' : j < (s.extract 0 p).size := by omega
    obtain ⟨h', he⟩ := ext_byte s 0 p j hj'
    have := nameOk_tok h1 j hj'
    rw [he] at this
    simpa using this
  · exact .inr (.inr hd)
  · have hj' : j - (p + 1) < (s.extract (p + 1) s.size).size := by omega
    obtain ⟨h', he⟩ := ext_byte s (p + 1) s.size (j - (p + 1)) hj'
    have := nameOk_tok h2 _ hj'
    rw [he] at this
    have hx : p + 1 + (j - (p + 1)) = j := by omega
    simp only [hx] at this
    exact this
theorem fullOk_bytes {s : ByteArray} (h : fullOk s) : ∀ b ∈ s.data.toList, tokN b.toNat := by
  intro b hb
  obtain ⟨j, hj, rfl⟩ := List.mem_iff_getElem.1 hb
  have hj' : j < s.size := by simpa using hj
  exact fullOk_tok h j hj'
theorem trimL_id (n : Nat) (l : List UInt8) (h : ∀ b ∈ l, tokN b.toNat) : Lib.trimLeftD n l = l := by
  cases n with
  | zero => rfl
  | succ n =>
    cases l with
    | nil => rfl
    | cons b t =>
      have hb := h b (by simp)
      unfold Lib.trimLeftD
      rw [Lib.decodeL_ascii b t (tokN_lt hb)]
      simp [tokN_space hb]
theorem trimR_id (n : Nat) (l : List UInt8) (h : ∀ b ∈ l, tokN b.toNat) : Lib.trimRightD n l = l := by
  cases n with
  | zero => rfl
  | succ n =>
    by_cases hl : l = []
    · subst hl; rfl
    · have hlen : 0 < l.length := List.length_pos_iff.2 hl
      have hb : tokN (l.getD (l.length - 1) 0).toNat := by
        have e : l.getD (l.length - 1) 0 = l[l.length - 1]'(by omega) := by simp [List.getD, List.getElem?_eq_getElem (show l.length - 1 < l.length by omega)]
        rw [e]
        exact h _ (List.getElem_mem _)
      unfold Lib.trimRightD Lib.decodeLastL
      rw [if_neg hl, if_neg hl, if_pos (tokN_lt hb)]
      simp only []
      rw [tokN_space hb]
      simp
theorem fullOk_trim {s : ByteArray} (h : fullOk s) : Lib.trimSpaceD s.data.toList = s.data.toList := by
  unfold Lib.trimSpaceD
  rw [trimL_id _ _ (fullOk_bytes h), trimR_id _ _ (fullOk_bytes h)]
theorem fullOk_hash {s : ByteArray} (h : fullOk s) : decide (0 ≤ Lib.indexByte s.data.toList 35) = false := by
  refine decide_eq_false fun h0 => ?_
  obtain ⟨o, ho⟩ : ∃ o : Nat, Lib.indexByte s.data.toList 35 = o := ⟨_, (Int.toNat_of_nonneg h0).symm⟩
  have h1 := (Lib.indexByte_some ho).1
  have h2 := fullOk_bytes h _ (List.mem_of_getElem? h1)
  revert h2
  unfold tokN letterN digitN
  decide
end Go.Proofs.YtbklijcdmiffaaaGreatDoor
