/-
  strconv.ParseUint of short texts of hexadecimal digits, base 16 and base 2.
-/
import Derived.Test.YtbklijcdmiffaaaGreatDoorProg
import Derived.Test.YtbklijcdmiffaaaGreatDoorBase
import Derived.Test.YtbklijcdmiffaaaGreatDoorScanB
import Derived.Test.YtbklijcdmiffaaaGreatDoorShelf
import Derived.Lib.AtoiErrMem
import Derived.BigCall
import Derived.BigGuard
import Derived.WalkKit
import Derived.WalkSpells
import Derived.WalkLawsBesides
import Derived.Deep.QuietTactic
import Derived.BigQuiet
import Derived.Lib.Hide
import Derived.Deep.LoopGhost
namespace Go.Proofs.YtbklijcdmiffaaaGreatDoor
open Go.RowKit

/-- the value of a hexadecimal digit -/
def hexN (c : Nat) : Prop := (48 ≤ c ∧ c ≤ 57) ∨ (97 ≤ c ∧ c ≤ 102) ∨ (65 ≤ c ∧ c ≤ 70)
def hexOk (s : ByteArray) : Prop := ∀ k (h : k < s.size), hexN s[k].toNat
/-- a number and nil, or 0 and the error of bad digits -/
def UintRes (t : TypeId) (e : Ending) : Prop := (∃ v : Int, e = .returned (.tuple #[.int .u64 v, .nilIface])) ∨ (∃ v : Int, e = .returned (.tuple #[.int .u64 v, .iface t (.int .i64 2)]))
theorem lower_low (c : Int) (h : 97 ≤ c ∧ c ≤ 102) : bits .or .u8 c 32 = c := by
  have : c = 97 ∨ c = 98 ∨ c = 99 ∨ c = 100 ∨ c = 101 ∨ c = 102 := by omega
  rcases this with rfl | rfl | rfl | rfl | rfl | rfl <;> decide
theorem lower_up (c : Int) (h : 65 ≤ c ∧ c ≤ 70) : bits .or .u8 c 32 = c + 32 := by
  have : c = 65 ∨ c = 66 ∨ c = 67 ∨ c = 68 ∨ c = 69 ∨ c = 70 := by omega
  rcases this with rfl | rfl | rfl | rfl | rfl | rfl <;> decide

set_option maxHeartbeats 16000000 in
set_option maxRecDepth 100000 in
theorem uint16_any (t : ByteArray) (hne : 1 ≤ t.size) (hmax : t.size ≤ 8) (hx : hexOk t) (w : World) :
    Calls Tryz.prog 97 #[.string t, .int .i64 16, .int .i64 64] w fun e w' => UintRes 158 e ∧ Below w.heap.size w w' := by
  have hemp : t.toList.isEmpty = false := by
    rw [← decide_eq_emptyBytes]
    exact decide_eq_false (fun h => by rw [h] at hne; exact absurd hne (by decide))
  have hcv := Lib.run_convert_string_bytes (P := Tryz.prog) w 9 74 5 t Tryz.underlying9 Tryz.underlying74 Tryz.underlying5
  have hB : ∀ j (hj : j < t.size), (Lib.bytesWorld w 5 t).cell? ⟨w.heap.size, j, none⟩ = some (.int .u8 t[j].toNat) := fun j hj => by
    rw [Lib.bytesWorld_cell w 5 t j hj]
    have : t.data.toList.getD j 0 = t[j] := by
      have h2 : t.data[j]? = some t[j] := Array.getElem?_eq_getElem hj
      simp [List.getD, h2]
    rw [this]
  have HBEL := Lib.hid (Lib.bytesWorld_below w 5 t)
  obtain ⟨W1, hW1⟩ : ∃ W1, W1 = Lib.bytesWorld w 5 t := ⟨_, rfl⟩
  rw [← hW1] at hcv hB HBEL
  clear hW1
  have HB := Lib.hid hB
  have HX := Lib.hid hx
  clear hB hx
  have hmv : IntKind.u64.wrap (IntKind.u64.wrap 18446744073709551616 - 1) = 18446744073709551615 := by
    rw [IntKind.wrap_u64, IntKind.wrap_u64]
    decide
  go_enter Tryz.func97, Tryz.ntmps97
  go_wp2
  go_loop [12, 13, 101] (fun vu vn vi => ∃ (k : Nat) (a : Int), vu = .bool false ∧ vn = .int .u64 a ∧ vi = .int .i64 k ∧ k ≤ t.size ∧ 0 ≤ a ∧ Hid (a < ((16 ^ k : Nat) : Int)))
    (fun _ _ vi => t.size - (intOf vi).toNat)
  case atStart => exact ⟨0, 0, rfl, rfl, rfl, by omega, by omega, (by unfold Hid; decide)⟩
  case round =>
    obtain ⟨k, a, rfl, rfl, rfl, hk, ha0, hh⟩ := hrel
    by_cases hkn : k < t.size
    · have hc := HB.out k hkn
      have hxk := HX.out k hkn
      generalize t[k] = c at hc hxk
      have hc256 : c.toNat < 256 := c.toNat_lt
      have hpow : 16 ^ (k + 1) = 16 ^ k * 16 := Nat.pow_succ _ _
      have hple : 16 ^ k ≤ 16 ^ 7 := Nat.pow_le_pow_right (by omega) (by omega)
      have hnum : 16 ^ 7 = 268435456 := by decide
      rw [hnum] at hple
      have ha1 : a < 268435456 := by have := hh.out; omega
      have HS : Hid (∀ d : Int, 0 ≤ d → d < 16 → a * 16 + d < ((16 ^ (k + 1) : Nat) : Int)) := fun d h0 h1 => by
        have := hh.out
        rw [hpow]
        omega
      clear hh hpow hple hnum
      have hcut : a < 1152921504606846976 := by omega
      rcases hxk with ⟨h1, h2⟩ | ⟨h1, h2⟩ | ⟨h1, h2⟩
      · have hsum : 0 ≤ (c.toNat : Int) - 48 ∧ (c.toNat : Int) - 48 < 16 := by omega
        have HN := Lib.hid (HS.out ((c.toNat : Int) - 48) (by omega) (by omega))
        have hs0 : 0 ≤ a * 16 + ((c.toNat : Int) - 48) := by omega
        have hs1 : a * 16 + ((c.toNat : Int) - 48) < 18446744073709551616 := by omega
        clear HS
        go_wp2
        refine ⟨⟨k + 1, a * 16 + ((c.toNat : Int) - 48), rfl, (by first | rfl | (congr 1; omega)), (by first | rfl | (congr 1; omega)), by omega, hs0, HN⟩, by simp [intOf]; omega⟩
      · have hlow := lower_low c.toNat (by omega)
        have HN := Lib.hid (HS.out ((c.toNat : Int) - 97 + 10) (by omega) (by omega))
        have hs0 : 0 ≤ a * 16 + ((c.toNat : Int) - 97 + 10) := by omega
        have hs1 : a * 16 + ((c.toNat : Int) - 97 + 10) < 18446744073709551616 := by omega
        clear HS
        go_wp2_with (go_at_call 110; refine (Tryz.internal_strconv_lower _ _).mono ?_; rintro e w' ⟨rfl, rfl⟩)
        refine ⟨⟨k + 1, a * 16 + ((c.toNat : Int) - 97 + 10), rfl, (by first | rfl | (congr 1; omega)), (by first | rfl | (congr 1; omega)), by omega, hs0, HN⟩, by simp [intOf]; omega⟩
      · have hlow := lower_up c.toNat (by omega)
        have HN := Lib.hid (HS.out ((c.toNat : Int) + 32 - 97 + 10) (by omega) (by omega))
        have hs0 : 0 ≤ a * 16 + ((c.toNat : Int) + 32 - 97 + 10) := by omega
        have hs1 : a * 16 + ((c.toNat : Int) + 32 - 97 + 10) < 18446744073709551616 := by omega
        clear HS
        go_wp2_with (go_at_call 110; refine (Tryz.internal_strconv_lower _ _).mono ?_; rintro e w' ⟨rfl, rfl⟩)
        refine ⟨⟨k + 1, a * 16 + ((c.toNat : Int) + 32 - 97 + 10), rfl, (by first | rfl | (congr 1; omega)), (by first | rfl | (congr 1; omega)), by omega, hs0, HN⟩, by simp [intOf]; omega⟩
    · go_wp2
      go_ret2
      exact ⟨.inl ⟨_, rfl⟩, HBEL.out⟩

set_option maxHeartbeats 16000000 in
set_option maxRecDepth 100000 in
theorem uint2_any (t : ByteArray) (hne : 1 ≤ t.size) (hmax : t.size ≤ 32) (hx : hexOk t) (w : World) :
    Calls Tryz.prog 97 #[.string t, .int .i64 2, .int .i64 64] w fun e w' => UintRes 158 e ∧ Below w.heap.size w w' := by
  have hemp : t.toList.isEmpty = false := by
    rw [← decide_eq_emptyBytes]
    exact decide_eq_false (fun h => by rw [h] at hne; exact absurd hne (by decide))
  have hcv := Lib.run_convert_string_bytes (P := Tryz.prog) w 9 74 5 t Tryz.underlying9 Tryz.underlying74 Tryz.underlying5
  have hB : ∀ j (hj : j < t.size), (Lib.bytesWorld w 5 t).cell? ⟨w.heap.size, j, none⟩ = some (.int .u8 t[j].toNat) := fun j hj => by
    rw [Lib.bytesWorld_cell w 5 t j hj]
    have : t.data.toList.getD j 0 = t[j] := by
      have h2 : t.data[j]? = some t[j] := Array.getElem?_eq_getElem hj
      simp [List.getD, h2]
    rw [this]
  have HBEL := Lib.hid (Lib.bytesWorld_below w 5 t)
  obtain ⟨W1, hW1⟩ : ∃ W1, W1 = Lib.bytesWorld w 5 t := ⟨_, rfl⟩
  rw [← hW1] at hcv hB HBEL
  clear hW1
  have HB := Lib.hid hB
  have HX := Lib.hid hx
  clear hB hx
  have hmv : IntKind.u64.wrap (IntKind.u64.wrap 18446744073709551616 - 1) = 18446744073709551615 := by
    rw [IntKind.wrap_u64, IntKind.wrap_u64]
    decide
  go_enter Tryz.func97, Tryz.ntmps97
  go_wp2
  go_loop [12, 13, 101] (fun vu vn vi => ∃ (k : Nat) (a : Int), vu = .bool false ∧ vn = .int .u64 a ∧ vi = .int .i64 k ∧ k ≤ t.size ∧ 0 ≤ a ∧ Hid (a < ((2 ^ k : Nat) : Int)))
    (fun _ _ vi => t.size - (intOf vi).toNat)
  case atStart => exact ⟨0, 0, rfl, rfl, rfl, by omega, by omega, (by unfold Hid; decide)⟩
  case round =>
    obtain ⟨k, a, rfl, rfl, rfl, hk, ha0, hh⟩ := hrel
    by_cases hkn : k < t.size
    · have hc := HB.out k hkn
      have hxk := HX.out k hkn
      generalize t[k] = c at hc hxk
      have hc256 : c.toNat < 256 := c.toNat_lt
      have hpow : 2 ^ (k + 1) = 2 ^ k * 2 := Nat.pow_succ _ _
      have hple : 2 ^ k ≤ 2 ^ 31 := Nat.pow_le_pow_right (by omega) (by omega)
      have hnum : 2 ^ 31 = 2147483648 := by decide
      rw [hnum] at hple
      have ha1 : a < 2147483648 := by have := hh.out; omega
      have HS : Hid (∀ d : Int, 0 ≤ d → d < 2 → a * 2 + d < ((2 ^ (k + 1) : Nat) : Int)) := fun d h0 h1 => by
        have := hh.out
        rw [hpow]
        omega
      clear hh hpow hple hnum
      have hcut : a < 1152921504606846976 := by omega
      rcases hxk with ⟨h1, h2⟩ | ⟨h1, h2⟩ | ⟨h1, h2⟩
      · by_cases h3 : c.toNat < 50
        · have hsum : 0 ≤ (c.toNat : Int) - 48 ∧ (c.toNat : Int) - 48 < 2 := by omega
          have HN := Lib.hid (HS.out ((c.toNat : Int) - 48) (by omega) (by omega))
          have hs0 : 0 ≤ a * 2 + ((c.toNat : Int) - 48) := by omega
          have hs1 : a * 2 + ((c.toNat : Int) - 48) < 18446744073709551616 := by omega
          clear HS
          go_wp2
          refine ⟨⟨k + 1, a * 2 + ((c.toNat : Int) - 48), rfl, (by first | rfl | (congr 1; omega)), (by first | rfl | (congr 1; omega)), by omega, hs0, HN⟩, by simp [intOf]; omega⟩
        · have hsum : 2 ≤ (c.toNat : Int) - 48 := by omega
          clear HS
          go_wp2
          go_ret2
          exact ⟨.inr ⟨_, rfl⟩, HBEL.out⟩
      · have hlow := lower_low c.toNat (by omega)
        clear HS
        go_wp2_with (go_at_call 110; refine (Tryz.internal_strconv_lower _ _).mono ?_; rintro e w' ⟨rfl, rfl⟩)
        go_ret2
        exact ⟨.inr ⟨_, rfl⟩, HBEL.out⟩
      · have hlow := lower_up c.toNat (by omega)
        clear HS
        go_wp2_with (go_at_call 110; refine (Tryz.internal_strconv_lower _ _).mono ?_; rintro e w' ⟨rfl, rfl⟩)
        go_ret2
        exact ⟨.inr ⟨_, rfl⟩, HBEL.out⟩
    · go_wp2
      go_ret2
      exact ⟨.inl ⟨_, rfl⟩, HBEL.out⟩
end Go.Proofs.YtbklijcdmiffaaaGreatDoor
