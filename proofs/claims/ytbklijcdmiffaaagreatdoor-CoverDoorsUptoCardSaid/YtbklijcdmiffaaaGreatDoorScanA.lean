/-
  scan: classes of bytes and runs of letters and digits.
-/
import Derived.Test.YtbklijcdmiffaaaGreatDoorProg
import Derived.Test.YtbklijcdmiffaaaGreatDoorBase
import Derived.StillTailTactics
import Derived.WalkKit
import Derived.WalkSpells
import Derived.WalkLawsBesides
import Derived.Deep.QuietTactic
import Derived.BigQuiet
import Derived.Lib.Hide
import Derived.Deep.LoopGhost
namespace Go.Proofs.YtbklijcdmiffaaaGreatDoor
open Go.RowKit

instance (c : Nat) : Decidable (letterN c) := by unfold letterN; infer_instance
instance (c : Nat) : Decidable (digitN c) := by unfold digitN; infer_instance
def classN (c : Nat) : Int :=
  if c = 32 ∨ c = 9 ∨ c = 13 then 2 else if c = 10 then 3 else if c = 35 then 4 else if c = 37 then 7 else if c = 34 then 8
  else if letterN c then 5 else if digitN c then 6 else 0
def wordN (c : Nat) : Prop := letterN c ∨ digitN c
def classAt (s : ByteArray) (k : Nat) : Int := if h : k < s.size then classN s[k].toNat else 1

set_option maxRecDepth 100000 in
set_option maxHeartbeats 4000000 in
theorem class_in (s : ByteArray) (k : Nat) (w : World) (hk : k < s.size) :
    Calls Tryz.prog 52 #[.string s, .int .i64 k] w fun e w' => e = .returned (.int .i64 (classN s[k].toNat)) ∧ w = w' := by
  have hb : s[k].toNat < 256 := s[k].toNat_lt
  have hcase : (s[k].toNat = 32) ∨ (s[k].toNat = 9) ∨ (s[k].toNat = 13) ∨ (s[k].toNat = 10) ∨ (s[k].toNat = 35) ∨ (s[k].toNat = 37) ∨ (s[k].toNat = 34) ∨ (s[k].toNat = 95) ∨ (97 ≤ s[k].toNat ∧ s[k].toNat ≤ 122) ∨ (65 ≤ s[k].toNat ∧ s[k].toNat ≤ 90) ∨ (48 ≤ s[k].toNat ∧ s[k].toNat ≤ 57) ∨ (0 ≤ s[k].toNat ∧ s[k].toNat ≤ 8) ∨ (11 ≤ s[k].toNat ∧ s[k].toNat ≤ 12) ∨ (14 ≤ s[k].toNat ∧ s[k].toNat ≤ 31) ∨ (33 ≤ s[k].toNat ∧ s[k].toNat ≤ 33) ∨ (36 ≤ s[k].toNat ∧ s[k].toNat ≤ 36) ∨ (38 ≤ s[k].toNat ∧ s[k].toNat ≤ 47) ∨ (58 ≤ s[k].toNat ∧ s[k].toNat ≤ 64) ∨ (91 ≤ s[k].toNat ∧ s[k].toNat ≤ 94) ∨ (96 ≤ s[k].toNat ∧ s[k].toNat ≤ 96) ∨ (123 ≤ s[k].toNat ∧ s[k].toNat ≤ 255) := by omega
  clear hb
  rcases hcase with h | h | h | h | h | h | h | h | h | h | h | h | h | h | h | h | h | h | h | h | h
  · have q32 : ((s[k].toNat : Int) == 32) = true := by rw [beq_iff_eq]; omega
    have q9 : ((s[k].toNat : Int) == 9) = false := by rw [beq_eq_false_iff_ne]; omega
    have q13 : ((s[k].toNat : Int) == 13) = false := by rw [beq_eq_false_iff_ne]; omega
    have q10 : ((s[k].toNat : Int) == 10) = false := by rw [beq_eq_false_iff_ne]; omega
    have q35 : ((s[k].toNat : Int) == 35) = false := by rw [beq_eq_false_iff_ne]; omega
    have q37 : ((s[k].toNat : Int) == 37) = false := by rw [beq_eq_false_iff_ne]; omega
    have q34 : ((s[k].toNat : Int) == 34) = false := by rw [beq_eq_false_iff_ne]; omega
    have q95 : ((s[k].toNat : Int) == 95) = false := by rw [beq_eq_false_iff_ne]; omega
    have ge97 : decide ((97 : Int) ≤ (s[k].toNat : Int)) = false := by exact decide_eq_false (by omega)
    have le122 : decide ((s[k].toNat : Int) ≤ 122) = true := by exact decide_eq_true (by omega)
    have ge65 : decide ((65 : Int) ≤ (s[k].toNat : Int)) = false := by exact decide_eq_false (by omega)
    have le90 : decide ((s[k].toNat : Int) ≤ 90) = true := by exact decide_eq_true (by omega)
    have ge48 : decide ((48 : Int) ≤ (s[k].toNat : Int)) = false := by exact decide_eq_false (by omega)
    have le57 : decide ((s[k].toNat : Int) ≤ 57) = true := by exact decide_eq_true (by omega)
    have HC : Hid ((2 : Int) = classN s[k].toNat) := by unfold Hid classN letterN digitN; (repeat' split) <;> omega
    clear h
    go_enter Tryz.func52, Tryz.ntmps52
    go_wp2
    go_ret
    exact ⟨ret_int HC.out, rfl⟩
  · have q32 : ((s[k].toNat : Int) == 32) = false := by rw [beq_eq_false_iff_ne]; omega
    have q9 : ((s[k].toNat : Int) == 9) = true := by rw [beq_iff_eq]; omega
    have q13 : ((s[k].toNat : Int) == 13) = false := by rw [beq_eq_false_iff_ne]; omega
    have q10 : ((s[k].toNat : Int) == 10) = false := by rw [beq_eq_false_iff_ne]; omega
    have q35 : ((s[k].toNat : Int) == 35) = false := by rw [beq_eq_false_iff_ne]; omega
    have q37 : ((s[k].toNat : Int) == 37) = false := by rw [beq_eq_false_iff_ne]; omega
    have q34 : ((s[k].toNat : Int) == 34) = false := by rw [beq_eq_false_iff_ne]; omega
    have q95 : ((s[k].toNat : Int) == 95) = false := by rw [beq_eq_false_iff_ne]; omega
    have ge97 : decide ((97 : Int) ≤ (s[k].toNat : Int)) = false := by exact decide_eq_false (by omega)
    have le122 : decide ((s[k].toNat : Int) ≤ 122) = true := by exact decide_eq_true (by omega)
    have ge65 : decide ((65 : Int) ≤ (s[k].toNat : Int)) = false := by exact decide_eq_false (by omega)
    have le90 : decide ((s[k].toNat : Int) ≤ 90) = true := by exact decide_eq_true (by omega)
    have ge48 : decide ((48 : Int) ≤ (s[k].toNat : Int)) = false := by exact decide_eq_false (by omega)
    have le57 : decide ((s[k].toNat : Int) ≤ 57) = true := by exact decide_eq_true (by omega)
    have HC : Hid ((2 : Int) = classN s[k].toNat) := by unfold Hid classN letterN digitN; (repeat' split) <;> omega
    clear h
    go_enter Tryz.func52, Tryz.ntmps52
    go_wp2
    go_ret
    exact ⟨ret_int HC.out, rfl⟩
  · have q32 : ((s[k].toNat : Int) == 32) = false := by rw [beq_eq_false_iff_ne]; omega
    have q9 : ((s[k].toNat : Int) == 9) = false := by rw [beq_eq_false_iff_ne]; omega
    have q13 : ((s[k].toNat : Int) == 13) = true := by rw [beq_iff_eq]; omega
    have q10 : ((s[k].toNat : Int) == 10) = false := by rw [beq_eq_false_iff_ne]; omega
    have q35 : ((s[k].toNat : Int) == 35) = false := by rw [beq_eq_false_iff_ne]; omega
    have q37 : ((s[k].toNat : Int) == 37) = false := by rw [beq_eq_false_iff_ne]; omega
    have q34 : ((s[k].toNat : Int) == 34) = false := by rw [beq_eq_false_iff_ne]; omega
    have q95 : ((s[k].toNat : Int) == 95) = false := by rw [beq_eq_false_iff_ne]; omega
    have ge97 : decide ((97 : Int) ≤ (s[k].toNat : Int)) = false := by exact decide_eq_false (by omega)
    have le122 : decide ((s[k].toNat : Int) ≤ 122) = true := by exact decide_eq_true (by omega)
    have ge65 : decide ((65 : Int) ≤ (s[k].toNat : Int)) = false := by exact decide_eq_false (by omega)
    have le90 : decide ((s[k].toNat : Int) ≤ 90) = true := by exact decide_eq_true (by omega)
    have ge48 : decide ((48 : Int) ≤ (s[k].toNat : Int)) = false := by exact decide_eq_false (by omega)
    have le57 : decide ((s[k].toNat : Int) ≤ 57) = true := by exact decide_eq_true (by omega)
    have HC : Hid ((2 : Int) = classN s[k].toNat) := by unfold Hid classN letterN digitN; (repeat' split) <;> omega
    clear h
    go_enter Tryz.func52, Tryz.ntmps52
    go_wp2
    go_ret
    exact ⟨ret_int HC.out, rfl⟩
  · have q32 : ((s[k].toNat : Int) == 32) = false := by rw [beq_eq_false_iff_ne]; omega
    have q9 : ((s[k].toNat : Int) == 9) = false := by rw [beq_eq_false_iff_ne]; omega
    have q13 : ((s[k].toNat : Int) == 13) = false := by rw [beq_eq_false_iff_ne]; omega
    have q10 : ((s[k].toNat : Int) == 10) = true := by rw [beq_iff_eq]; omega
    have q35 : ((s[k].toNat : Int) == 35) = false := by rw [beq_eq_false_iff_ne]; omega
    have q37 : ((s[k].toNat : Int) == 37) = false := by rw [beq_eq_false_iff_ne]; omega
    have q34 : ((s[k].toNat : Int) == 34) = false := by rw [beq_eq_false_iff_ne]; omega
    have q95 : ((s[k].toNat : Int) == 95) = false := by rw [beq_eq_false_iff_ne]; omega
    have ge97 : decide ((97 : Int) ≤ (s[k].toNat : Int)) = false := by exact decide_eq_false (by omega)
    have le122 : decide ((s[k].toNat : Int) ≤ 122) = true := by exact decide_eq_true (by omega)
    have ge65 : decide ((65 : Int) ≤ (s[k].toNat : Int)) = false := by exact decide_eq_false (by omega)
    have le90 : decide ((s[k].toNat : Int) ≤ 90) = true := by exact decide_eq_true (by omega)
    have ge48 : decide ((48 : Int) ≤ (s[k].toNat : Int)) = false := by exact decide_eq_false (by omega)
    have le57 : decide ((s[k].toNat : Int) ≤ 57) = true := by exact decide_eq_true (by omega)
    have HC : Hid ((3 : Int) = classN s[k].toNat) := by unfold Hid classN letterN digitN; (repeat' split) <;> omega
    clear h
    go_enter Tryz.func52, Tryz.ntmps52
    go_wp2
    go_ret
    exact ⟨ret_int HC.out, rfl⟩
  · have q32 : ((s[k].toNat : Int) == 32) = false := by rw [beq_eq_false_iff_ne]; omega
    have q9 : ((s[k].toNat : Int) == 9) = false := by rw [beq_eq_false_iff_ne]; omega
    have q13 : ((s[k].toNat : Int) == 13) = false := by rw [beq_eq_false_iff_ne]; omega
    have q10 : ((s[k].toNat : Int) == 10) = false := by rw [beq_eq_false_iff_ne]; omega
    have q35 : ((s[k].toNat : Int) == 35) = true := by rw [beq_iff_eq]; omega
    have q37 : ((s[k].toNat : Int) == 37) = false := by rw [beq_eq_false_iff_ne]; omega
    have q34 : ((s[k].toNat : Int) == 34) = false := by rw [beq_eq_false_iff_ne]; omega
    have q95 : ((s[k].toNat : Int) == 95) = false := by rw [beq_eq_false_iff_ne]; omega
    have ge97 : decide ((97 : Int) ≤ (s[k].toNat : Int)) = false := by exact decide_eq_false (by omega)
    have le122 : decide ((s[k].toNat : Int) ≤ 122) = true := by exact decide_eq_true (by omega)
    have ge65 : decide ((65 : Int) ≤ (s[k].toNat : Int)) = false := by exact decide_eq_false (by omega)
    have le90 : decide ((s[k].toNat : Int) ≤ 90) = true := by exact decide_eq_true (by omega)
    have ge48 : decide ((48 : Int) ≤ (s[k].toNat : Int)) = false := by exact decide_eq_false (by omega)
    have le57 : decide ((s[k].toNat : Int) ≤ 57) = true := by exact decide_eq_true (by omega)
    have HC : Hid ((4 : Int) = classN s[k].toNat) := by unfold Hid classN letterN digitN; (repeat' split) <;> omega
    clear h
    go_enter Tryz.func52, Tryz.ntmps52
    go_wp2
    go_ret
    exact ⟨ret_int HC.out, rfl⟩
  · have q32 : ((s[k].toNat : Int) == 32) = false := by rw [beq_eq_false_iff_ne]; omega
    have q9 : ((s[k].toNat : Int) == 9) = false := by rw [beq_eq_false_iff_ne]; omega
    have q13 : ((s[k].toNat : Int) == 13) = false := by rw [beq_eq_false_iff_ne]; omega
    have q10 : ((s[k].toNat : Int) == 10) = false := by rw [beq_eq_false_iff_ne]; omega
    have q35 : ((s[k].toNat : Int) == 35) = false := by rw [beq_eq_false_iff_ne]; omega
    have q37 : ((s[k].toNat : Int) == 37) = true := by rw [beq_iff_eq]; omega
    have q34 : ((s[k].toNat : Int) == 34) = false := by rw [beq_eq_false_iff_ne]; omega
    have q95 : ((s[k].toNat : Int) == 95) = false := by rw [beq_eq_false_iff_ne]; omega
    have ge97 : decide ((97 : Int) ≤ (s[k].toNat : Int)) = false := by exact decide_eq_false (by omega)
    have le122 : decide ((s[k].toNat : Int) ≤ 122) = true := by exact decide_eq_true (by omega)
    have ge65 : decide ((65 : Int) ≤ (s[k].toNat : Int)) = false := by exact decide_eq_false (by omega)
    have le90 : decide ((s[k].toNat : Int) ≤ 90) = true := by exact decide_eq_true (by omega)
    have ge48 : decide ((48 : Int) ≤ (s[k].toNat : Int)) = false := by exact decide_eq_false (by omega)
    have le57 : decide ((s[k].toNat : Int) ≤ 57) = true := by exact decide_eq_true (by omega)
    have HC : Hid ((7 : Int) = classN s[k].toNat) := by unfold Hid classN letterN digitN; (repeat' split) <;> omega
    clear h
    go_enter Tryz.func52, Tryz.ntmps52
    go_wp2
    go_ret
    exact ⟨ret_int HC.out, rfl⟩
  · have q32 : ((s[k].toNat : Int) == 32) = false := by rw [beq_eq_false_iff_ne]; omega
    have q9 : ((s[k].toNat : Int) == 9) = false := by rw [beq_eq_false_iff_ne]; omega
    have q13 : ((s[k].toNat : Int) == 13) = false := by rw [beq_eq_false_iff_ne]; omega
    have q10 : ((s[k].toNat : Int) == 10) = false := by rw [beq_eq_false_iff_ne]; omega
    have q35 : ((s[k].toNat : Int) == 35) = false := by rw [beq_eq_false_iff_ne]; omega
    have q37 : ((s[k].toNat : Int) == 37) = false := by rw [beq_eq_false_iff_ne]; omega
    have q34 : ((s[k].toNat : Int) == 34) = true := by rw [beq_iff_eq]; omega
    have q95 : ((s[k].toNat : Int) == 95) = false := by rw [beq_eq_false_iff_ne]; omega
    have ge97 : decide ((97 : Int) ≤ (s[k].toNat : Int)) = false := by exact decide_eq_false (by omega)
    have le122 : decide ((s[k].toNat : Int) ≤ 122) = true := by exact decide_eq_true (by omega)
    have ge65 : decide ((65 : Int) ≤ (s[k].toNat : Int)) = false := by exact decide_eq_false (by omega)
    have le90 : decide ((s[k].toNat : Int) ≤ 90) = true := by exact decide_eq_true (by omega)
    have ge48 : decide ((48 : Int) ≤ (s[k].toNat : Int)) = false := by exact decide_eq_false (by omega)
    have le57 : decide ((s[k].toNat : Int) ≤ 57) = true := by exact decide_eq_true (by omega)
    have HC : Hid ((8 : Int) = classN s[k].toNat) := by unfold Hid classN letterN digitN; (repeat' split) <;> omega
    clear h
    go_enter Tryz.func52, Tryz.ntmps52
    go_wp2
    go_ret
    exact ⟨ret_int HC.out, rfl⟩
  · have q32 : ((s[k].toNat : Int) == 32) = false := by rw [beq_eq_false_iff_ne]; omega
    have q9 : ((s[k].toNat : Int) == 9) = false := by rw [beq_eq_false_iff_ne]; omega
    have q13 : ((s[k].toNat : Int) == 13) = false := by rw [beq_eq_false_iff_ne]; omega
    have q10 : ((s[k].toNat : Int) == 10) = false := by rw [beq_eq_false_iff_ne]; omega
    have q35 : ((s[k].toNat : Int) == 35) = false := by rw [beq_eq_false_iff_ne]; omega
    have q37 : ((s[k].toNat : Int) == 37) = false := by rw [beq_eq_false_iff_ne]; omega
    have q34 : ((s[k].toNat : Int) == 34) = false := by rw [beq_eq_false_iff_ne]; omega
    have q95 : ((s[k].toNat : Int) == 95) = true := by rw [beq_iff_eq]; omega
    have ge97 : decide ((97 : Int) ≤ (s[k].toNat : Int)) = false := by exact decide_eq_false (by omega)
    have le122 : decide ((s[k].toNat : Int) ≤ 122) = true := by exact decide_eq_true (by omega)
    have ge65 : decide ((65 : Int) ≤ (s[k].toNat : Int)) = true := by exact decide_eq_true (by omega)
    have le90 : decide ((s[k].toNat : Int) ≤ 90) = false := by exact decide_eq_false (by omega)
    have ge48 : decide ((48 : Int) ≤ (s[k].toNat : Int)) = true := by exact decide_eq_true (by omega)
    have le57 : decide ((s[k].toNat : Int) ≤ 57) = false := by exact decide_eq_false (by omega)
    have HC : Hid ((5 : Int) = classN s[k].toNat) := by unfold Hid classN letterN digitN; (repeat' split) <;> omega
    clear h
    go_enter Tryz.func52, Tryz.ntmps52
    go_wp2
    go_ret
    exact ⟨ret_int HC.out, rfl⟩
  · have q32 : ((s[k].toNat : Int) == 32) = false := by rw [beq_eq_false_iff_ne]; omega
    have q9 : ((s[k].toNat : Int) == 9) = false := by rw [beq_eq_false_iff_ne]; omega
    have q13 : ((s[k].toNat : Int) == 13) = false := by rw [beq_eq_false_iff_ne]; omega
    have q10 : ((s[k].toNat : Int) == 10) = false := by rw [beq_eq_false_iff_ne]; omega
    have q35 : ((s[k].toNat : Int) == 35) = false := by rw [beq_eq_false_iff_ne]; omega
    have q37 : ((s[k].toNat : Int) == 37) = false := by rw [beq_eq_false_iff_ne]; omega
    have q34 : ((s[k].toNat : Int) == 34) = false := by rw [beq_eq_false_iff_ne]; omega
    have q95 : ((s[k].toNat : Int) == 95) = false := by rw [beq_eq_false_iff_ne]; omega
    have ge97 : decide ((97 : Int) ≤ (s[k].toNat : Int)) = true := by exact decide_eq_true (by omega)
    have le122 : decide ((s[k].toNat : Int) ≤ 122) = true := by exact decide_eq_true (by omega)
    have ge65 : decide ((65 : Int) ≤ (s[k].toNat : Int)) = true := by exact decide_eq_true (by omega)
    have le90 : decide ((s[k].toNat : Int) ≤ 90) = false := by exact decide_eq_false (by omega)
    have ge48 : decide ((48 : Int) ≤ (s[k].toNat : Int)) = true := by exact decide_eq_true (by omega)
    have le57 : decide ((s[k].toNat : Int) ≤ 57) = false := by exact decide_eq_false (by omega)
    have HC : Hid ((5 : Int) = classN s[k].toNat) := by unfold Hid classN letterN digitN; (repeat' split) <;> omega
    clear h
    go_enter Tryz.func52, Tryz.ntmps52
    go_wp2
    go_ret
    exact ⟨ret_int HC.out, rfl⟩
  · have q32 : ((s[k].toNat : Int) == 32) = false := by rw [beq_eq_false_iff_ne]; omega
    have q9 : ((s[k].toNat : Int) == 9) = false := by rw [beq_eq_false_iff_ne]; omega
    have q13 : ((s[k].toNat : Int) == 13) = false := by rw [beq_eq_false_iff_ne]; omega
    have q10 : ((s[k].toNat : Int) == 10) = false := by rw [beq_eq_false_iff_ne]; omega
    have q35 : ((s[k].toNat : Int) == 35) = false := by rw [beq_eq_false_iff_ne]; omega
    have q37 : ((s[k].toNat : Int) == 37) = false := by rw [beq_eq_false_iff_ne]; omega
    have q34 : ((s[k].toNat : Int) == 34) = false := by rw [beq_eq_false_iff_ne]; omega
    have q95 : ((s[k].toNat : Int) == 95) = false := by rw [beq_eq_false_iff_ne]; omega
    have ge97 : decide ((97 : Int) ≤ (s[k].toNat : Int)) = false := by exact decide_eq_false (by omega)
    have le122 : decide ((s[k].toNat : Int) ≤ 122) = true := by exact decide_eq_true (by omega)
    have ge65 : decide ((65 : Int) ≤ (s[k].toNat : Int)) = true := by exact decide_eq_true (by omega)
    have le90 : decide ((s[k].toNat : Int) ≤ 90) = true := by exact decide_eq_true (by omega)
    have ge48 : decide ((48 : Int) ≤ (s[k].toNat : Int)) = true := by exact decide_eq_true (by omega)
    have le57 : decide ((s[k].toNat : Int) ≤ 57) = false := by exact decide_eq_false (by omega)
    have HC : Hid ((5 : Int) = classN s[k].toNat) := by unfold Hid classN letterN digitN; (repeat' split) <;> omega
    clear h
    go_enter Tryz.func52, Tryz.ntmps52
    go_wp2
    go_ret
    exact ⟨ret_int HC.out, rfl⟩
  · have q32 : ((s[k].toNat : Int) == 32) = false := by rw [beq_eq_false_iff_ne]; omega
    have q9 : ((s[k].toNat : Int) == 9) = false := by rw [beq_eq_false_iff_ne]; omega
    have q13 : ((s[k].toNat : Int) == 13) = false := by rw [beq_eq_false_iff_ne]; omega
    have q10 : ((s[k].toNat : Int) == 10) = false := by rw [beq_eq_false_iff_ne]; omega
    have q35 : ((s[k].toNat : Int) == 35) = false := by rw [beq_eq_false_iff_ne]; omega
    have q37 : ((s[k].toNat : Int) == 37) = false := by rw [beq_eq_false_iff_ne]; omega
    have q34 : ((s[k].toNat : Int) == 34) = false := by rw [beq_eq_false_iff_ne]; omega
    have q95 : ((s[k].toNat : Int) == 95) = false := by rw [beq_eq_false_iff_ne]; omega
    have ge97 : decide ((97 : Int) ≤ (s[k].toNat : Int)) = false := by exact decide_eq_false (by omega)
    have le122 : decide ((s[k].toNat : Int) ≤ 122) = true := by exact decide_eq_true (by omega)
    have ge65 : decide ((65 : Int) ≤ (s[k].toNat : Int)) = false := by exact decide_eq_false (by omega)
    have le90 : decide ((s[k].toNat : Int) ≤ 90) = true := by exact decide_eq_true (by omega)
    have ge48 : decide ((48 : Int) ≤ (s[k].toNat : Int)) = true := by exact decide_eq_true (by omega)
    have le57 : decide ((s[k].toNat : Int) ≤ 57) = true := by exact decide_eq_true (by omega)
    have HC : Hid ((6 : Int) = classN s[k].toNat) := by unfold Hid classN letterN digitN; (repeat' split) <;> omega
    clear h
    go_enter Tryz.func52, Tryz.ntmps52
    go_wp2
    go_ret
    exact ⟨ret_int HC.out, rfl⟩
  · have q32 : ((s[k].toNat : Int) == 32) = false := by rw [beq_eq_false_iff_ne]; omega
    have q9 : ((s[k].toNat : Int) == 9) = false := by rw [beq_eq_false_iff_ne]; omega
    have q13 : ((s[k].toNat : Int) == 13) = false := by rw [beq_eq_false_iff_ne]; omega
    have q10 : ((s[k].toNat : Int) == 10) = false := by rw [beq_eq_false_iff_ne]; omega
    have q35 : ((s[k].toNat : Int) == 35) = false := by rw [beq_eq_false_iff_ne]; omega
    have q37 : ((s[k].toNat : Int) == 37) = false := by rw [beq_eq_false_iff_ne]; omega
    have q34 : ((s[k].toNat : Int) == 34) = false := by rw [beq_eq_false_iff_ne]; omega
    have q95 : ((s[k].toNat : Int) == 95) = false := by rw [beq_eq_false_iff_ne]; omega
    have ge97 : decide ((97 : Int) ≤ (s[k].toNat : Int)) = false := by exact decide_eq_false (by omega)
    have le122 : decide ((s[k].toNat : Int) ≤ 122) = true := by exact decide_eq_true (by omega)
    have ge65 : decide ((65 : Int) ≤ (s[k].toNat : Int)) = false := by exact decide_eq_false (by omega)
    have le90 : decide ((s[k].toNat : Int) ≤ 90) = true := by exact decide_eq_true (by omega)
    have ge48 : decide ((48 : Int) ≤ (s[k].toNat : Int)) = false := by exact decide_eq_false (by omega)
    have le57 : decide ((s[k].toNat : Int) ≤ 57) = true := by exact decide_eq_true (by omega)
    have HC : Hid ((0 : Int) = classN s[k].toNat) := by unfold Hid classN letterN digitN; (repeat' split) <;> omega
    clear h
    go_enter Tryz.func52, Tryz.ntmps52
    go_wp2
    go_ret
    exact ⟨ret_int HC.out, rfl⟩
  · have q32 : ((s[k].toNat : Int) == 32) = false := by rw [beq_eq_false_iff_ne]; omega
    have q9 : ((s[k].toNat : Int) == 9) = false := by rw [beq_eq_false_iff_ne]; omega
    have q13 : ((s[k].toNat : Int) == 13) = false := by rw [beq_eq_false_iff_ne]; omega
    have q10 : ((s[k].toNat : Int) == 10) = false := by rw [beq_eq_false_iff_ne]; omega
    have q35 : ((s[k].toNat : Int) == 35) = false := by rw [beq_eq_false_iff_ne]; omega
    have q37 : ((s[k].toNat : Int) == 37) = false := by rw [beq_eq_false_iff_ne]; omega
    have q34 : ((s[k].toNat : Int) == 34) = false := by rw [beq_eq_false_iff_ne]; omega
    have q95 : ((s[k].toNat : Int) == 95) = false := by rw [beq_eq_false_iff_ne]; omega
    have ge97 : decide ((97 : Int) ≤ (s[k].toNat : Int)) = false := by exact decide_eq_false (by omega)
    have le122 : decide ((s[k].toNat : Int) ≤ 122) = true := by exact decide_eq_true (by omega)
    have ge65 : decide ((65 : Int) ≤ (s[k].toNat : Int)) = false := by exact decide_eq_false (by omega)
    have le90 : decide ((s[k].toNat : Int) ≤ 90) = true := by exact decide_eq_true (by omega)
    have ge48 : decide ((48 : Int) ≤ (s[k].toNat : Int)) = false := by exact decide_eq_false (by omega)
    have le57 : decide ((s[k].toNat : Int) ≤ 57) = true := by exact decide_eq_true (by omega)
    have HC : Hid ((0 : Int) = classN s[k].toNat) := by unfold Hid classN letterN digitN; (repeat' split) <;> omega
    clear h
    go_enter Tryz.func52, Tryz.ntmps52
    go_wp2
    go_ret
    exact ⟨ret_int HC.out, rfl⟩
  · have q32 : ((s[k].toNat : Int) == 32) = false := by rw [beq_eq_false_iff_ne]; omega
    have q9 : ((s[k].toNat : Int) == 9) = false := by rw [beq_eq_false_iff_ne]; omega
    have q13 : ((s[k].toNat : Int) == 13) = false := by rw [beq_eq_false_iff_ne]; omega
    have q10 : ((s[k].toNat : Int) == 10) = false := by rw [beq_eq_false_iff_ne]; omega
    have q35 : ((s[k].toNat : Int) == 35) = false := by rw [beq_eq_false_iff_ne]; omega
    have q37 : ((s[k].toNat : Int) == 37) = false := by rw [beq_eq_false_iff_ne]; omega
    have q34 : ((s[k].toNat : Int) == 34) = false := by rw [beq_eq_false_iff_ne]; omega
    have q95 : ((s[k].toNat : Int) == 95) = false := by rw [beq_eq_false_iff_ne]; omega
    have ge97 : decide ((97 : Int) ≤ (s[k].toNat : Int)) = false := by exact decide_eq_false (by omega)
    have le122 : decide ((s[k].toNat : Int) ≤ 122) = true := by exact decide_eq_true (by omega)
    have ge65 : decide ((65 : Int) ≤ (s[k].toNat : Int)) = false := by exact decide_eq_false (by omega)
    have le90 : decide ((s[k].toNat : Int) ≤ 90) = true := by exact decide_eq_true (by omega)
    have ge48 : decide ((48 : Int) ≤ (s[k].toNat : Int)) = false := by exact decide_eq_false (by omega)
    have le57 : decide ((s[k].toNat : Int) ≤ 57) = true := by exact decide_eq_true (by omega)
    have HC : Hid ((0 : Int) = classN s[k].toNat) := by unfold Hid classN letterN digitN; (repeat' split) <;> omega
    clear h
    go_enter Tryz.func52, Tryz.ntmps52
    go_wp2
    go_ret
    exact ⟨ret_int HC.out, rfl⟩
  · have q32 : ((s[k].toNat : Int) == 32) = false := by rw [beq_eq_false_iff_ne]; omega
    have q9 : ((s[k].toNat : Int) == 9) = false := by rw [beq_eq_false_iff_ne]; omega
    have q13 : ((s[k].toNat : Int) == 13) = false := by rw [beq_eq_false_iff_ne]; omega
    have q10 : ((s[k].toNat : Int) == 10) = false := by rw [beq_eq_false_iff_ne]; omega
    have q35 : ((s[k].toNat : Int) == 35) = false := by rw [beq_eq_false_iff_ne]; omega
    have q37 : ((s[k].toNat : Int) == 37) = false := by rw [beq_eq_false_iff_ne]; omega
    have q34 : ((s[k].toNat : Int) == 34) = false := by rw [beq_eq_false_iff_ne]; omega
    have q95 : ((s[k].toNat : Int) == 95) = false := by rw [beq_eq_false_iff_ne]; omega
    have ge97 : decide ((97 : Int) ≤ (s[k].toNat : Int)) = false := by exact decide_eq_false (by omega)
    have le122 : decide ((s[k].toNat : Int) ≤ 122) = true := by exact decide_eq_true (by omega)
    have ge65 : decide ((65 : Int) ≤ (s[k].toNat : Int)) = false := by exact decide_eq_false (by omega)
    have le90 : decide ((s[k].toNat : Int) ≤ 90) = true := by exact decide_eq_true (by omega)
    have ge48 : decide ((48 : Int) ≤ (s[k].toNat : Int)) = false := by exact decide_eq_false (by omega)
    have le57 : decide ((s[k].toNat : Int) ≤ 57) = true := by exact decide_eq_true (by omega)
    have HC : Hid ((0 : Int) = classN s[k].toNat) := by unfold Hid classN letterN digitN; (repeat' split) <;> omega
    clear h
    go_enter Tryz.func52, Tryz.ntmps52
    go_wp2
    go_ret
    exact ⟨ret_int HC.out, rfl⟩
  · have q32 : ((s[k].toNat : Int) == 32) = false := by rw [beq_eq_false_iff_ne]; omega
    have q9 : ((s[k].toNat : Int) == 9) = false := by rw [beq_eq_false_iff_ne]; omega
    have q13 : ((s[k].toNat : Int) == 13) = false := by rw [beq_eq_false_iff_ne]; omega
    have q10 : ((s[k].toNat : Int) == 10) = false := by rw [beq_eq_false_iff_ne]; omega
    have q35 : ((s[k].toNat : Int) == 35) = false := by rw [beq_eq_false_iff_ne]; omega
    have q37 : ((s[k].toNat : Int) == 37) = false := by rw [beq_eq_false_iff_ne]; omega
    have q34 : ((s[k].toNat : Int) == 34) = false := by rw [beq_eq_false_iff_ne]; omega
    have q95 : ((s[k].toNat : Int) == 95) = false := by rw [beq_eq_false_iff_ne]; omega
    have ge97 : decide ((97 : Int) ≤ (s[k].toNat : Int)) = false := by exact decide_eq_false (by omega)
    have le122 : decide ((s[k].toNat : Int) ≤ 122) = true := by exact decide_eq_true (by omega)
    have ge65 : decide ((65 : Int) ≤ (s[k].toNat : Int)) = false := by exact decide_eq_false (by omega)
    have le90 : decide ((s[k].toNat : Int) ≤ 90) = true := by exact decide_eq_true (by omega)
    have ge48 : decide ((48 : Int) ≤ (s[k].toNat : Int)) = false := by exact decide_eq_false (by omega)
    have le57 : decide ((s[k].toNat : Int) ≤ 57) = true := by exact decide_eq_true (by omega)
    have HC : Hid ((0 : Int) = classN s[k].toNat) := by unfold Hid classN letterN digitN; (repeat' split) <;> omega
    clear h
    go_enter Tryz.func52, Tryz.ntmps52
    go_wp2
    go_ret
    exact ⟨ret_int HC.out, rfl⟩
  · have q32 : ((s[k].toNat : Int) == 32) = false := by rw [beq_eq_false_iff_ne]; omega
    have q9 : ((s[k].toNat : Int) == 9) = false := by rw [beq_eq_false_iff_ne]; omega
    have q13 : ((s[k].toNat : Int) == 13) = false := by rw [beq_eq_false_iff_ne]; omega
    have q10 : ((s[k].toNat : Int) == 10) = false := by rw [beq_eq_false_iff_ne]; omega
    have q35 : ((s[k].toNat : Int) == 35) = false := by rw [beq_eq_false_iff_ne]; omega
    have q37 : ((s[k].toNat : Int) == 37) = false := by rw [beq_eq_false_iff_ne]; omega
    have q34 : ((s[k].toNat : Int) == 34) = false := by rw [beq_eq_false_iff_ne]; omega
    have q95 : ((s[k].toNat : Int) == 95) = false := by rw [beq_eq_false_iff_ne]; omega
    have ge97 : decide ((97 : Int) ≤ (s[k].toNat : Int)) = false := by exact decide_eq_false (by omega)
    have le122 : decide ((s[k].toNat : Int) ≤ 122) = true := by exact decide_eq_true (by omega)
    have ge65 : decide ((65 : Int) ≤ (s[k].toNat : Int)) = false := by exact decide_eq_false (by omega)
    have le90 : decide ((s[k].toNat : Int) ≤ 90) = true := by exact decide_eq_true (by omega)
    have ge48 : decide ((48 : Int) ≤ (s[k].toNat : Int)) = false := by exact decide_eq_false (by omega)
    have le57 : decide ((s[k].toNat : Int) ≤ 57) = true := by exact decide_eq_true (by omega)
    have HC : Hid ((0 : Int) = classN s[k].toNat) := by unfold Hid classN letterN digitN; (repeat' split) <;> omega
    clear h
    go_enter Tryz.func52, Tryz.ntmps52
    go_wp2
    go_ret
    exact ⟨ret_int HC.out, rfl⟩
  · have q32 : ((s[k].toNat : Int) == 32) = false := by rw [beq_eq_false_iff_ne]; omega
    have q9 : ((s[k].toNat : Int) == 9) = false := by rw [beq_eq_false_iff_ne]; omega
    have q13 : ((s[k].toNat : Int) == 13) = false := by rw [beq_eq_false_iff_ne]; omega
    have q10 : ((s[k].toNat : Int) == 10) = false := by rw [beq_eq_false_iff_ne]; omega
    have q35 : ((s[k].toNat : Int) == 35) = false := by rw [beq_eq_false_iff_ne]; omega
    have q37 : ((s[k].toNat : Int) == 37) = false := by rw [beq_eq_false_iff_ne]; omega
    have q34 : ((s[k].toNat : Int) == 34) = false := by rw [beq_eq_false_iff_ne]; omega
    have q95 : ((s[k].toNat : Int) == 95) = false := by rw [beq_eq_false_iff_ne]; omega
    have ge97 : decide ((97 : Int) ≤ (s[k].toNat : Int)) = false := by exact decide_eq_false (by omega)
    have le122 : decide ((s[k].toNat : Int) ≤ 122) = true := by exact decide_eq_true (by omega)
    have ge65 : decide ((65 : Int) ≤ (s[k].toNat : Int)) = false := by exact decide_eq_false (by omega)
    have le90 : decide ((s[k].toNat : Int) ≤ 90) = true := by exact decide_eq_true (by omega)
    have ge48 : decide ((48 : Int) ≤ (s[k].toNat : Int)) = true := by exact decide_eq_true (by omega)
    have le57 : decide ((s[k].toNat : Int) ≤ 57) = false := by exact decide_eq_false (by omega)
    have HC : Hid ((0 : Int) = classN s[k].toNat) := by unfold Hid classN letterN digitN; (repeat' split) <;> omega
    clear h
    go_enter Tryz.func52, Tryz.ntmps52
    go_wp2
    go_ret
    exact ⟨ret_int HC.out, rfl⟩
  · have q32 : ((s[k].toNat : Int) == 32) = false := by rw [beq_eq_false_iff_ne]; omega
    have q9 : ((s[k].toNat : Int) == 9) = false := by rw [beq_eq_false_iff_ne]; omega
    have q13 : ((s[k].toNat : Int) == 13) = false := by rw [beq_eq_false_iff_ne]; omega
    have q10 : ((s[k].toNat : Int) == 10) = false := by rw [beq_eq_false_iff_ne]; omega
    have q35 : ((s[k].toNat : Int) == 35) = false := by rw [beq_eq_false_iff_ne]; omega
    have q37 : ((s[k].toNat : Int) == 37) = false := by rw [beq_eq_false_iff_ne]; omega
    have q34 : ((s[k].toNat : Int) == 34) = false := by rw [beq_eq_false_iff_ne]; omega
    have q95 : ((s[k].toNat : Int) == 95) = false := by rw [beq_eq_false_iff_ne]; omega
    have ge97 : decide ((97 : Int) ≤ (s[k].toNat : Int)) = false := by exact decide_eq_false (by omega)
    have le122 : decide ((s[k].toNat : Int) ≤ 122) = true := by exact decide_eq_true (by omega)
    have ge65 : decide ((65 : Int) ≤ (s[k].toNat : Int)) = true := by exact decide_eq_true (by omega)
    have le90 : decide ((s[k].toNat : Int) ≤ 90) = false := by exact decide_eq_false (by omega)
    have ge48 : decide ((48 : Int) ≤ (s[k].toNat : Int)) = true := by exact decide_eq_true (by omega)
    have le57 : decide ((s[k].toNat : Int) ≤ 57) = false := by exact decide_eq_false (by omega)
    have HC : Hid ((0 : Int) = classN s[k].toNat) := by unfold Hid classN letterN digitN; (repeat' split) <;> omega
    clear h
    go_enter Tryz.func52, Tryz.ntmps52
    go_wp2
    go_ret
    exact ⟨ret_int HC.out, rfl⟩
  · have q32 : ((s[k].toNat : Int) == 32) = false := by rw [beq_eq_false_iff_ne]; omega
    have q9 : ((s[k].toNat : Int) == 9) = false := by rw [beq_eq_false_iff_ne]; omega
    have q13 : ((s[k].toNat : Int) == 13) = false := by rw [beq_eq_false_iff_ne]; omega
    have q10 : ((s[k].toNat : Int) == 10) = false := by rw [beq_eq_false_iff_ne]; omega
    have q35 : ((s[k].toNat : Int) == 35) = false := by rw [beq_eq_false_iff_ne]; omega
    have q37 : ((s[k].toNat : Int) == 37) = false := by rw [beq_eq_false_iff_ne]; omega
    have q34 : ((s[k].toNat : Int) == 34) = false := by rw [beq_eq_false_iff_ne]; omega
    have q95 : ((s[k].toNat : Int) == 95) = false := by rw [beq_eq_false_iff_ne]; omega
    have ge97 : decide ((97 : Int) ≤ (s[k].toNat : Int)) = false := by exact decide_eq_false (by omega)
    have le122 : decide ((s[k].toNat : Int) ≤ 122) = true := by exact decide_eq_true (by omega)
    have ge65 : decide ((65 : Int) ≤ (s[k].toNat : Int)) = true := by exact decide_eq_true (by omega)
    have le90 : decide ((s[k].toNat : Int) ≤ 90) = false := by exact decide_eq_false (by omega)
    have ge48 : decide ((48 : Int) ≤ (s[k].toNat : Int)) = true := by exact decide_eq_true (by omega)
    have le57 : decide ((s[k].toNat : Int) ≤ 57) = false := by exact decide_eq_false (by omega)
    have HC : Hid ((0 : Int) = classN s[k].toNat) := by unfold Hid classN letterN digitN; (repeat' split) <;> omega
    clear h
    go_enter Tryz.func52, Tryz.ntmps52
    go_wp2
    go_ret
    exact ⟨ret_int HC.out, rfl⟩
  · have q32 : ((s[k].toNat : Int) == 32) = false := by rw [beq_eq_false_iff_ne]; omega
    have q9 : ((s[k].toNat : Int) == 9) = false := by rw [beq_eq_false_iff_ne]; omega
    have q13 : ((s[k].toNat : Int) == 13) = false := by rw [beq_eq_false_iff_ne]; omega
    have q10 : ((s[k].toNat : Int) == 10) = false := by rw [beq_eq_false_iff_ne]; omega
    have q35 : ((s[k].toNat : Int) == 35) = false := by rw [beq_eq_false_iff_ne]; omega
    have q37 : ((s[k].toNat : Int) == 37) = false := by rw [beq_eq_false_iff_ne]; omega
    have q34 : ((s[k].toNat : Int) == 34) = false := by rw [beq_eq_false_iff_ne]; omega
    have q95 : ((s[k].toNat : Int) == 95) = false := by rw [beq_eq_false_iff_ne]; omega
    have ge97 : decide ((97 : Int) ≤ (s[k].toNat : Int)) = true := by exact decide_eq_true (by omega)
    have le122 : decide ((s[k].toNat : Int) ≤ 122) = false := by exact decide_eq_false (by omega)
    have ge65 : decide ((65 : Int) ≤ (s[k].toNat : Int)) = true := by exact decide_eq_true (by omega)
    have le90 : decide ((s[k].toNat : Int) ≤ 90) = false := by exact decide_eq_false (by omega)
    have ge48 : decide ((48 : Int) ≤ (s[k].toNat : Int)) = true := by exact decide_eq_true (by omega)
    have le57 : decide ((s[k].toNat : Int) ≤ 57) = false := by exact decide_eq_false (by omega)
    have HC : Hid ((0 : Int) = classN s[k].toNat) := by unfold Hid classN letterN digitN; (repeat' split) <;> omega
    clear h
    go_enter Tryz.func52, Tryz.ntmps52
    go_wp2
    go_ret
    exact ⟨ret_int HC.out, rfl⟩

set_option maxHeartbeats 400000 in
theorem class_end (s : ByteArray) (k : Nat) (w : World) (hk : s.size ≤ k) :
    Calls Tryz.prog 52 #[.string s, .int .i64 k] w fun e w' => e = .returned (.int .i64 1) ∧ w = w' := by
  go_enter Tryz.func52, Tryz.ntmps52
  go_wp2
  go_ret
  exact ⟨rfl, rfl⟩
theorem class_any (s : ByteArray) (k : Nat) (w : World) :
    Calls Tryz.prog 52 #[.string s, .int .i64 k] w fun e w' => e = .returned (.int .i64 (classAt s k)) ∧ w = w' := by
  unfold classAt
  by_cases h : k < s.size
  · rw [dif_pos h]
    exact class_in s k w h
  · rw [dif_neg h]
    exact class_end s k w (by omega)

theorem class_letter (c : Nat) : classN c = 5 ↔ letterN c := by
  unfold classN letterN digitN
  (repeat' split) <;> omega
theorem class_digit (c : Nat) : classN c = 6 ↔ digitN c := by
  unfold classN letterN digitN
  (repeat' split) <;> omega
def wordAt (s : ByteArray) (k : Nat) : Prop := ∃ h : k < s.size, wordN s[k].toNat
def letterAt (s : ByteArray) (k : Nat) : Prop := ∃ h : k < s.size, letterN s[k].toNat
def digitAt (s : ByteArray) (k : Nat) : Prop := ∃ h : k < s.size, digitN s[k].toNat
theorem classAt_letter {s : ByteArray} {k : Nat} : classAt s k = 5 ↔ letterAt s k := by
  unfold classAt letterAt
  by_cases h : k < s.size
  · rw [dif_pos h, class_letter]
    exact ⟨fun h' => ⟨h, h'⟩, fun ⟨_, h'⟩ => h'⟩
  · rw [dif_neg h]
    exact ⟨fun h' => by omega, fun ⟨h', _⟩ => absurd h' h⟩
theorem classAt_digit {s : ByteArray} {k : Nat} : classAt s k = 6 ↔ digitAt s k := by
  unfold classAt digitAt
  by_cases h : k < s.size
  · rw [dif_pos h, class_digit]
    exact ⟨fun h' => ⟨h, h'⟩, fun ⟨_, h'⟩ => h'⟩
  · rw [dif_neg h]
    exact ⟨fun h' => by omega, fun ⟨h', _⟩ => absurd h' h⟩
theorem wordAt_iff {s : ByteArray} {k : Nat} : wordAt s k ↔ classAt s k = 5 ∨ classAt s k = 6 := by
  rw [classAt_letter, classAt_digit]
  constructor
  · rintro ⟨h, h1 | h1⟩
    · exact .inl ⟨h, h1⟩
    · exact .inr ⟨h, h1⟩
  · rintro (⟨h, h1⟩ | ⟨h, h1⟩)
    · exact ⟨h, .inl h1⟩
    · exact ⟨h, .inr h1⟩

set_option maxHeartbeats 400000 in
theorem word_any (s : ByteArray) (k : Nat) (w : World) : Calls Tryz.prog 76 #[.string s, .int .i64 k] w fun e w' => Tells (wordAt s k) e ∧ w = w' := by
  have HC := Lib.hid (class_any s k w)
  have HW := Lib.hid (@wordAt_iff s k)
  generalize classAt s k = c at *
  by_cases h5 : c = 5
  · have HY : Hid (wordAt s k) := HW.out.2 (.inl h5)
    have h5' : (c == 5) = true := by simp [h5]
    clear h5
    go_enter Tryz.func76, Tryz.ntmps76
    go_wp2_with (go_at_call 52; refine HC.out.mono ?_; rintro e w' ⟨rfl, rfl⟩)
    go_ret
    exact ⟨.yes HY.out, rfl⟩
  · have h5' : (c == 5) = false := by simpa using h5
    by_cases h6 : c = 6
    · have HY : Hid (wordAt s k) := HW.out.2 (.inr h6)
      have h6' : (c == 6) = true := by simp [h6]
      clear h5 h6
      go_enter Tryz.func76, Tryz.ntmps76
      go_wp2_with (go_at_call 52; refine HC.out.mono ?_; rintro e w' ⟨rfl, rfl⟩)
      go_ret
      exact ⟨.yes HY.out, rfl⟩
    · have HN : Hid (¬ wordAt s k) := fun h => by rcases HW.out.1 h with h | h <;> contradiction
      have h6' : (c == 6) = false := by simpa using h6
      clear h5 h6
      go_enter Tryz.func76, Tryz.ntmps76
      go_wp2_with (go_at_call 52; refine HC.out.mono ?_; rintro e w' ⟨rfl, rfl⟩)
      go_ret
      exact ⟨.no HN.out, rfl⟩

/-- the run of letters and digits at the beginning has n bytes -/
def RunIs (s : ByteArray) (n : Nat) : Prop := n ≤ s.size ∧ (∀ j, j < n → wordAt s j) ∧ ¬ wordAt s n
theorem RunIs.unique {s : ByteArray} {n m : Nat} (h : RunIs s n) (h' : RunIs s m) : n = m := by
  rcases Nat.lt_trichotomy n m with hlt | e | hgt
  · exact absurd (h'.2.1 n hlt) h.2.2
  · exact e
  · exact absurd (h.2.1 m hgt) h'.2.2
def RunRes (s : ByteArray) (e : Ending) : Prop := ∃ n : Nat, e = .returned (.int .i64 n) ∧ RunIs s n
set_option maxHeartbeats 400000 in
theorem run_any (s : ByteArray) (w : World) (hs : s.size ≤ 1048576) : Calls Tryz.prog 70 #[.string s] w fun e w' => RunRes s e ∧ w = w' := by
  go_enter Tryz.func70, Tryz.ntmps70
  go_wp2
  go_loop [3] (fun i => ∃ k : Nat, k ≤ s.size ∧ i = .int .i64 k ∧ Hid (∀ j, j < k → wordAt s j)) (fun i => s.size - (intOf i).toNat)
  case atStart => exact ⟨0, Nat.zero_le _, rfl, fun j h => absurd h (by omega)⟩
  case round =>
    obtain ⟨k, hk, rfl, hq⟩ := hrel
    have HC := Lib.hid (word_any s k w)
    go_wp2_with fail
    refine HC.out.mono ?_
    rintro e w' ⟨ht, rfl⟩
    rcases ht.cases with ⟨rfl, hc⟩ | ⟨rfl, hc⟩
    · have hlt : k < s.size := hc.1
      have HQ : Hid (∀ j, j < k + 1 → wordAt s j) := by
        intro j h
        by_cases e : j = k
        · subst e; exact hc
        · exact hq.out j (by omega)
      clear hc
      go_wp2
      go_round
      case rel => exact ⟨k + 1, by omega, by go_num, HQ⟩
      case measure => simp [intOf]; omega
    · have HR : Hid (RunIs s k) := ⟨hk, hq.out, hc⟩
      clear hc
      go_wp2
      go_ret
      exact ⟨⟨k, rfl, HR.out⟩, rfl⟩

/-- place k goes on a number: a letter, a digit, or a dot ahead of a digit -/
def numAt (s : ByteArray) (k : Nat) : Prop := wordAt s k ∨ ((∃ h : k < s.size, s[k].toNat = 46) ∧ digitAt s (k + 1))
def NumRes (s : ByteArray) (e : Ending) : Prop := ∃ n : Nat, e = .returned (.int .i64 n) ∧ n ≤ s.size ∧ (∀ j, j < n → numAt s j) ∧ ¬ numAt s n
set_option maxHeartbeats 1000000 in
theorem num_any (s : ByteArray) (w : World) (hs : s.size ≤ 1048576) : Calls Tryz.prog 68 #[.string s] w fun e w' => NumRes s e ∧ w = w' := by
  go_enter Tryz.func68, Tryz.ntmps68
  go_wp2
  go_loop [3] (fun i => ∃ k : Nat, k ≤ s.size ∧ i = .int .i64 k ∧ Hid (∀ j, j < k → numAt s j)) (fun i => s.size - (intOf i).toNat)
  case atStart => exact ⟨0, Nat.zero_le _, rfl, fun j h => absurd h (by omega)⟩
  case round =>
    obtain ⟨k, hk, rfl, hq⟩ := hrel
    have HC := Lib.hid (word_any s k w)
    have HQ : Hid (numAt s k → ∀ j, j < k + 1 → numAt s j) := by
      intro hn j h
      by_cases e : j = k
      · subst e; exact hn
      · exact hq.out j (by omega)
    have HL : Hid (numAt s k → k < s.size) := by
      rintro (⟨h, _⟩ | ⟨⟨h, _⟩, _⟩)
      · exact h
      · exact h
    go_wp2_with fail
    refine HC.out.mono ?_
    rintro e w' ⟨ht, rfl⟩
    rcases ht.cases with ⟨rfl, hc⟩ | ⟨rfl, hc⟩
    · have hn : Hid (numAt s k) := .inl hc
      have hlt := HL.out hn.out
      clear hc
      go_wp2
      go_round
      case rel => exact ⟨k + 1, by omega, by go_num, HQ.out hn.out⟩
      case measure => simp [intOf]; omega
    · by_cases hlt : k < s.size
      · by_cases h46 : s[k].toNat = 46
        · have h46' : ((s[k].toNat : Int) == 46) = true := by rw [beq_iff_eq]; omega
          have HC2 := Lib.hid (class_any s (k + 1) w)
          have HD := Lib.hid (@classAt_digit s (k + 1))
          simp only [Int.natCast_add, Int.natCast_one] at HC2
          generalize classAt s (k + 1) = c at *
          by_cases h6 : c = 6
          · have hn : Hid (numAt s k) := .inr ⟨⟨hlt, h46⟩, HD.out.1 h6⟩
            have h6' : (c == 6) = true := by simp [h6]
            clear hc h46 h6
            go_wp2_with fail
            refine HC2.out.mono ?_
            rintro e w' ⟨rfl, rfl⟩
            go_wp2
            go_round
            case rel => exact ⟨k + 1, by omega, by go_num, HQ.out hn.out⟩
            case measure => simp [intOf]; omega
          · have hn : Hid (¬ numAt s k) := by
              rintro (h | ⟨_, h⟩)
              · exact hc h
              · exact h6 (HD.out.2 h)
            have h6' : (c == 6) = false := by simpa using h6
            clear hc h46 h6
            go_wp2_with fail
            refine HC2.out.mono ?_
            rintro e w' ⟨rfl, rfl⟩
            go_wp2
            go_ret
            exact ⟨⟨k, rfl, hk, hq.out, hn.out⟩, rfl⟩
        · have h46' : ((s[k].toNat : Int) == 46) = false := by rw [beq_eq_false_iff_ne]; omega
          have hn : Hid (¬ numAt s k) := by
            rintro (h | ⟨⟨_, h⟩, _⟩)
            · exact hc h
            · exact h46 h
          clear hc h46
          go_wp2
          go_ret
          exact ⟨⟨k, rfl, hk, hq.out, hn.out⟩, rfl⟩
      · have hn : Hid (¬ numAt s k) := fun h => hlt (HL.out h)
        clear hc
        go_wp2
        go_ret
        exact ⟨⟨k, rfl, hk, hq.out, hn.out⟩, rfl⟩
end Go.Proofs.YtbklijcdmiffaaaGreatDoor
