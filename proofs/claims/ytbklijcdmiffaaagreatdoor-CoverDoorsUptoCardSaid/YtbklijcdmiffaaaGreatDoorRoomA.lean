/-
  Lists of numbers and of texts, new, with marked room.
-/
import Derived.Test.YtbklijcdmiffaaaGreatDoorProg
import Derived.Test.YtbklijcdmiffaaaGreatDoorBase
import Derived.Test.YtbklijcdmiffaaaGreatDoorRefG
import Derived.Test.YtbklijcdmiffaaaGreatDoorRoom
import Derived.StillTailTactics
import Derived.WalkKit
import Derived.WalkSpells
import Derived.WalkLawsBesides
import Derived.Deep.QuietTactic
import Derived.BigQuiet
import Derived.Lib.Hide
import Derived.Deep.LoopGhost
namespace Go.Proofs.YtbklijcdmiffaaaGreatDoor
open Go.RowKit

def mark1 : ByteArray := ⟨#[98, 101, 104, 105, 110, 100, 32, 116, 104, 101, 32, 101, 110, 100]⟩
def mark2 : ByteArray := ⟨#[98, 101, 104, 105, 110, 100, 32, 116, 104, 101, 32, 101, 110, 100, 50]⟩
theorem intE_stays : Stays intE := fun _ _ _ _ _ h => h
theorem strE_stays : Stays strE := fun _ _ _ _ _ h => h
theorem setCells_one (w : World) (b o : Nat) (v : Value) : w.setCells b o [v] = w.setCell ⟨b, o, none⟩ v := rfl

theorem roomInts_info : (Tryz.prog.info? 3).map (fun i => (i.zero, i.size, i.bytes)) = some (some (.int .i64 0), 1, 8) := by kernel_rfl
set_option maxHeartbeats 2000000 in
theorem roomInts_any (A : Value) (l : List Int) (w : World) (ha : Sl 1 intE w A l) (N : List Nat) (hN : ∀ b ∈ N, b < w.heap.size) :
    Calls Tryz.prog 21 #[A] w fun e w' => (∃ v, e = .returned v ∧ RoomS 1 intE intE (mask N w') v l [-4711, -4712]) ∧ Below w.heap.size w w' := by
  obtain ⟨a, ca, rfl, -, ha⟩ := ha
  have hla := ha.1
  have Ha := Lib.hid ha
  clear ha
  have hmk := run_make_row' (P := Tryz.prog) 27 3 (.int .i64 0) 8 Tryz.underlying27 roomInts_info rfl .i64 .i64 (l.length + 2) (by omega) (by omega)
  have ec : ((l.length + 2 : Nat) : Int) = (l.length : Int) + 2 := by omega
  rw [ec] at hmk
  clear ec
  obtain ⟨M, HM⟩ : ∃ M : List Nat, Hid (M = w.heap.size :: N) := ⟨_, rfl⟩
  have HF : Hid (Fill 1 intE M 3 (w.alloc (.cells (madeCells #[.int .i64 0] (l.length + 2)) 3)) w.heap.size (l ++ [-4711, -4712]) 0 (l.length + 2)) := Fill.new (by rw [HM.out]; simp) _ (by simp [size_madeCells]) _
  have HB : Hid (Below w.heap.size w (w.alloc (.cells (madeCells #[.int .i64 0] (l.length + 2)) 3))) := (Below.refl _ _).alloc (Nat.le_refl _) _
  generalize hW : w.alloc (.cells (madeCells #[.int .i64 0] (l.length + 2)) 3) = W at *
  go_enter Tryz.func21, Tryz.ntmps21
  go_wp2
  clear hW
  go_loopw [4] (fun i wr => ∃ k : Nat, k ≤ l.length ∧ i = .int .i64 k ∧ Hid (Fill 1 intE M 3 wr w.heap.size (l ++ [-4711, -4712]) k (l.length + 2)) ∧ Hid (Below w.heap.size w wr)) (fun i _ => l.length - (intOf i).toNat)
  case atStart => exact ⟨0, Nat.zero_le _, rfl, HF, HB⟩
  case round =>
    clear HF HB hmk
    obtain ⟨k, hk, rfl, hf, hb⟩ := hrel
    by_cases hlt : k < l.length
    · obtain ⟨b, o, rfl, h1, h2⟩ := ints_at Ha.out hlt
      have f1 := (Keeps.of_below hb.out) _ _ h1
      obtain ⟨u, hu⟩ := hf.out.cell (i := k) (by omega)
      have fz := hf.out.frozen k
      have HS : Hid (Fill 1 intE M 3 (wr.setCell ⟨w.heap.size, k, none⟩ (.int .i64 (l[k]))) w.heap.size (l ++ [-4711, -4712]) (k + 1) (l.length + 2)) := by
        have := hf.out.set (cs := [.int .i64 (l[k])]) (by omega) rfl (fun x hx => by
          rw [List.getElem?_append_left hlt, List.getElem?_eq_getElem hlt] at hx
          cases hx
          exact ⟨rfl, h2⟩) intE_stays
        rwa [setCells_one, Nat.mul_one] at this
      have HB2 : Hid (Below w.heap.size w (wr.setCell ⟨w.heap.size, k, none⟩ (.int .i64 (l[k])))) := hb.out.setCell (Nat.le_refl _) _
      generalize hW2 : wr.setCell ⟨w.heap.size, k, none⟩ (.int .i64 (l[k])) = W2 at *
      clear h1 h2
      go_wp2
      go_roundw
      case rel => exact ⟨k + 1, by omega, by go_num, HS, HB2⟩
      case measure => simp [intOf]; omega
    · obtain rfl : k = l.length := by omega
      clear hlt hk
      obtain ⟨u, hu⟩ := hf.out.cell (i := l.length) (by omega)
      have fz := hf.out.frozen l.length
      have HS : Fill 1 intE M 3 (wr.setCell ⟨w.heap.size, l.length, none⟩ (.int .i64 (-4711))) w.heap.size (l ++ [-4711, -4712]) (l.length + 1) (l.length + 2) := by
        have := hf.out.set (cs := [.int .i64 (-4711)]) (by omega) rfl (fun x hx => by
          rw [List.getElem?_append_right (Nat.le_refl _), Nat.sub_self] at hx
          cases hx
          exact ⟨rfl, by unfold I64; omega⟩) intE_stays
        rwa [setCells_one, Nat.mul_one] at this
      have HB2 : Below w.heap.size w (wr.setCell ⟨w.heap.size, l.length, none⟩ (.int .i64 (-4711))) := hb.out.setCell (Nat.le_refl _) _
      generalize hW2 : wr.setCell ⟨w.heap.size, l.length, none⟩ (.int .i64 (-4711)) = W2 at *
      obtain ⟨u2, hu2⟩ := HS.cell (i := l.length + 1) (by omega)
      have fz2 := HS.frozen (l.length + 1)
      have HS3 : Hid (Fill 1 intE M 3 (W2.setCell ⟨w.heap.size, l.length + 1, none⟩ (.int .i64 (-4712))) w.heap.size (l ++ [-4711, -4712]) (l.length + 2) (l.length + 2)) := by
        have := HS.set (cs := [.int .i64 (-4712)]) (by omega) rfl (fun x hx => by
          rw [List.getElem?_append_right (by omega), Nat.add_sub_cancel_left] at hx
          cases hx
          exact ⟨rfl, by unfold I64; omega⟩) intE_stays
        rwa [setCells_one, Nat.mul_one] at this
      have HB3 : Hid (Below w.heap.size w (W2.setCell ⟨w.heap.size, l.length + 1, none⟩ (.int .i64 (-4712)))) := HB2.setCell (Nat.le_refl _) _
      generalize hW3 : W2.setCell ⟨w.heap.size, l.length + 1, none⟩ (.int .i64 (-4712)) = W3 at *
      clear HS HB2 hf hb
      go_wp2
      go_ret
      refine ⟨⟨_, rfl, roomS_same ?_ (by simp) hla⟩, HB3.out⟩
      exact HS3.out.done (by simp) intE_stays N (fun b hb => by rw [HM.out]; exact List.mem_cons_of_mem _ hb) (fun h => by have := hN _ h; omega)

theorem roomTexts_info : (Tryz.prog.info? 9).map (fun i => (i.zero, i.size, i.bytes)) = some (some (.string ⟨#[]⟩), 1, 16) := by kernel_rfl
set_option maxHeartbeats 2000000 in
theorem roomTexts_any (A : Value) (l : List ByteArray) (w : World) (ha : Sl 1 strE w A l) (N : List Nat) (hN : ∀ b ∈ N, b < w.heap.size) :
    Calls Tryz.prog 22 #[A] w fun e w' => (∃ v, e = .returned v ∧ RoomS 1 strE strE (mask N w') v l [mark1, mark2]) ∧ Below w.heap.size w w' := by
  obtain ⟨a, ca, rfl, -, ha⟩ := ha
  have hla := ha.1
  have Ha := Lib.hid ha
  clear ha
  have hmk := run_make_row' (P := Tryz.prog) 44 9 (.string ⟨#[]⟩) 16 Tryz.underlying44 roomTexts_info rfl .i64 .i64 (l.length + 2) (by omega) (by omega)
  have ec : ((l.length + 2 : Nat) : Int) = (l.length : Int) + 2 := by omega
  rw [ec] at hmk
  clear ec
  obtain ⟨M, HM⟩ : ∃ M : List Nat, Hid (M = w.heap.size :: N) := ⟨_, rfl⟩
  have HF : Hid (Fill 1 strE M 9 (w.alloc (.cells (madeCells #[.string ⟨#[]⟩] (l.length + 2)) 9)) w.heap.size (l ++ [mark1, mark2]) 0 (l.length + 2)) := Fill.new (by rw [HM.out]; simp) _ (by simp [size_madeCells]) _
  have HB : Hid (Below w.heap.size w (w.alloc (.cells (madeCells #[.string ⟨#[]⟩] (l.length + 2)) 9))) := (Below.refl _ _).alloc (Nat.le_refl _) _
  generalize hW : w.alloc (.cells (madeCells #[.string ⟨#[]⟩] (l.length + 2)) 9) = W at *
  go_enter Tryz.func22, Tryz.ntmps22
  go_wp2
  clear hW
  go_loopw [4] (fun i wr => ∃ k : Nat, k ≤ l.length ∧ i = .int .i64 k ∧ Hid (Fill 1 strE M 9 wr w.heap.size (l ++ [mark1, mark2]) k (l.length + 2)) ∧ Hid (Below w.heap.size w wr)) (fun i _ => l.length - (intOf i).toNat)
  case atStart => exact ⟨0, Nat.zero_le _, rfl, HF, HB⟩
  case round =>
    clear HF HB hmk
    obtain ⟨k, hk, rfl, hf, hb⟩ := hrel
    by_cases hlt : k < l.length
    · obtain ⟨b, o, rfl, h1, h2⟩ := strs_at Ha.out hlt
      have f1 := (Keeps.of_below hb.out) _ _ h1
      obtain ⟨u, hu⟩ := hf.out.cell (i := k) (by omega)
      have fz := hf.out.frozen k
      have HS : Hid (Fill 1 strE M 9 (wr.setCell ⟨w.heap.size, k, none⟩ (.string (l[k]))) w.heap.size (l ++ [mark1, mark2]) (k + 1) (l.length + 2)) := by
        have := hf.out.set (cs := [.string (l[k])]) (by omega) rfl (fun x hx => by
          rw [List.getElem?_append_left hlt, List.getElem?_eq_getElem hlt] at hx
          cases hx
          exact ⟨rfl, h2⟩) strE_stays
        rwa [setCells_one, Nat.mul_one] at this
      have HB2 : Hid (Below w.heap.size w (wr.setCell ⟨w.heap.size, k, none⟩ (.string (l[k])))) := hb.out.setCell (Nat.le_refl _) _
      generalize hW2 : wr.setCell ⟨w.heap.size, k, none⟩ (.string (l[k])) = W2 at *
      clear h1 h2
      go_wp2
      go_roundw
      case rel => exact ⟨k + 1, by omega, by go_num, HS, HB2⟩
      case measure => simp [intOf]; omega
    · obtain rfl : k = l.length := by omega
      clear hlt hk
      obtain ⟨u, hu⟩ := hf.out.cell (i := l.length) (by omega)
      have fz := hf.out.frozen l.length
      have HS : Fill 1 strE M 9 (wr.setCell ⟨w.heap.size, l.length, none⟩ (.string ⟨#[98, 101, 104, 105, 110, 100, 32, 116, 104, 101, 32, 101, 110, 100]⟩)) w.heap.size (l ++ [mark1, mark2]) (l.length + 1) (l.length + 2) := by
        have := hf.out.set (cs := [.string ⟨#[98, 101, 104, 105, 110, 100, 32, 116, 104, 101, 32, 101, 110, 100]⟩]) (by omega) rfl (fun x hx => by
          rw [List.getElem?_append_right (Nat.le_refl _), Nat.sub_self] at hx
          cases hx
          exact ⟨rfl, by decide⟩) strE_stays
        rwa [setCells_one, Nat.mul_one] at this
      have HB2 : Below w.heap.size w (wr.setCell ⟨w.heap.size, l.length, none⟩ (.string ⟨#[98, 101, 104, 105, 110, 100, 32, 116, 104, 101, 32, 101, 110, 100]⟩)) := hb.out.setCell (Nat.le_refl _) _
      generalize hW2 : wr.setCell ⟨w.heap.size, l.length, none⟩ (.string ⟨#[98, 101, 104, 105, 110, 100, 32, 116, 104, 101, 32, 101, 110, 100]⟩) = W2 at *
      obtain ⟨u2, hu2⟩ := HS.cell (i := l.length + 1) (by omega)
      have fz2 := HS.frozen (l.length + 1)
      have HS3 : Hid (Fill 1 strE M 9 (W2.setCell ⟨w.heap.size, l.length + 1, none⟩ (.string ⟨#[98, 101, 104, 105, 110, 100, 32, 116, 104, 101, 32, 101, 110, 100, 50]⟩)) w.heap.size (l ++ [mark1, mark2]) (l.length + 2) (l.length + 2)) := by
        have := HS.set (cs := [.string ⟨#[98, 101, 104, 105, 110, 100, 32, 116, 104, 101, 32, 101, 110, 100, 50]⟩]) (by omega) rfl (fun x hx => by
          rw [List.getElem?_append_right (by omega), Nat.add_sub_cancel_left] at hx
          cases hx
          exact ⟨rfl, by decide⟩) strE_stays
        rwa [setCells_one, Nat.mul_one] at this
      have HB3 : Hid (Below w.heap.size w (W2.setCell ⟨w.heap.size, l.length + 1, none⟩ (.string ⟨#[98, 101, 104, 105, 110, 100, 32, 116, 104, 101, 32, 101, 110, 100, 50]⟩))) := HB2.setCell (Nat.le_refl _) _
      generalize hW3 : W2.setCell ⟨w.heap.size, l.length + 1, none⟩ (.string ⟨#[98, 101, 104, 105, 110, 100, 32, 116, 104, 101, 32, 101, 110, 100, 50]⟩) = W3 at *
      clear HS HB2 hf hb
      go_wp2
      go_ret
      refine ⟨⟨_, rfl, roomS_same ?_ (by simp) hla⟩, HB3.out⟩
      exact HS3.out.done (by simp) strE_stays N (fun b hb => by rw [HM.out]; exact List.mem_cons_of_mem _ hb) (fun h => by have := hN _ h; omega)
end Go.Proofs.YtbklijcdmiffaaaGreatDoor
