/-
  scan: the machine goes forward.
-/
import Derived.Test.YtbklijcdmiffaaaGreatDoorProg
import Derived.Test.YtbklijcdmiffaaaGreatDoorBase
import Derived.Test.YtbklijcdmiffaaaGreatDoorScanI
import Derived.StillTailTactics
import Derived.WalkMore
import Derived.Lib.SmallJoins
import Derived.IntWalk
import Derived.WalkKit
import Derived.WalkSpells
import Derived.WalkLawsBesides
import Derived.Deep.QuietTactic
import Derived.BigQuiet
import Derived.Lib.Hide
import Derived.Deep.LoopGhost
namespace Go.Proofs.YtbklijcdmiffaaaGreatDoor
open Go.RowKit

/-- block g is a machine -/
def Mach (w : World) (g : Nat) (s : ByteArray) (a l c : Nat) (o : Bool) (v : Value) : Prop :=
  w.heap[g]? = some (.cells #[.string s, .int .i64 (a : Int), .int .i64 (l : Int), .int .i64 (c : Int), .bool o, v] 80 (0, 0))
section
variable {w w' : World} {g : Nat} {s : ByteArray} {a l c : Nat} {o : Bool} {v : Value}
theorem Mach.text (h : Mach w g s a l c o v) : w.cell? ⟨g, 0, none⟩ = some (.string s) := Joins.cell_of_block h 0
theorem Mach.at' (h : Mach w g s a l c o v) : w.cell? ⟨g, 1, none⟩ = some (.int .i64 (a : Int)) := Joins.cell_of_block h 1
theorem Mach.line (h : Mach w g s a l c o v) : w.cell? ⟨g, 2, none⟩ = some (.int .i64 (l : Int)) := Joins.cell_of_block h 2
theorem Mach.col (h : Mach w g s a l c o v) : w.cell? ⟨g, 3, none⟩ = some (.int .i64 (c : Int)) := Joins.cell_of_block h 3
theorem Mach.open' (h : Mach w g s a l c o v) : w.cell? ⟨g, 4, none⟩ = some (.bool o) := Joins.cell_of_block h 4
theorem Mach.tokens (h : Mach w g s a l c o v) : w.cell? ⟨g, 5, none⟩ = some v := Joins.cell_of_block h 5
theorem Mach.free (h : Mach w g s a l c o v) (i : Nat) : w.frozen? ⟨g, i, none⟩ = false := Joins.unfrozen_of_block h i
theorem Mach.lt (h : Mach w g s a l c o v) : g < w.heap.size := (Array.getElem?_eq_some_iff.1 h).1
theorem Mach.below (h : Mach w g s a l c o v) (hb : Below w.heap.size w w') : Mach w' g s a l c o v := (hb.block _ h.lt).trans h
theorem Mach.setAt (h : Mach w g s a l c o v) (x : Nat) : Mach (w.setCell ⟨g, 1, none⟩ (.int .i64 (x : Int))) g s x l c o v := Joins.block_setCell h _
theorem Mach.setLine (h : Mach w g s a l c o v) (x : Nat) : Mach (w.setCell ⟨g, 2, none⟩ (.int .i64 (x : Int))) g s a x c o v := Joins.block_setCell h _
theorem Mach.setCol (h : Mach w g s a l c o v) (x : Nat) : Mach (w.setCell ⟨g, 3, none⟩ (.int .i64 (x : Int))) g s a l x o v := Joins.block_setCell h _
theorem Mach.setOpen (h : Mach w g s a l c o v) (x : Bool) : Mach (w.setCell ⟨g, 4, none⟩ (.bool x)) g s a l c x v := Joins.block_setCell h _
theorem Mach.setTokens (h : Mach w g s a l c o v) (x : Value) : Mach (w.setCell ⟨g, 5, none⟩ x) g s a l c o x := Joins.block_setCell h _
end
/-- only block g has turned -/
def OnlyB (g : Nat) (w w' : World) : Prop := w.grownBy w' (some g)
theorem OnlyB.refl (g : Nat) (w : World) : OnlyB g w w := ⟨rfl, rfl, rfl, Nat.le_refl _, fun _ _ _ => rfl⟩
theorem OnlyB.trans {g : Nat} {a b c : World} (h : OnlyB g a b) (k : OnlyB g b c) : OnlyB g a c :=
  ⟨k.os.trans h.os, k.tape.trans h.tape, k.output.trans h.output, Nat.le_trans h.size k.size, fun i hi hn => (k.block i (Nat.lt_of_lt_of_le hi h.size) hn).trans (h.block i hi hn)⟩
theorem OnlyB.of_below {g : Nat} {a b : World} (h : Below a.heap.size a b) : OnlyB g a b := ⟨h.os, h.tape, h.output, h.size, fun i hi _ => h.block i hi⟩
theorem OnlyB.quiet {g : Nat} {a b : World} (h : Quiet a b) : OnlyB g a b := OnlyB.of_below (h.below _)
theorem OnlyB.set (g i : Nat) (w : World) (v : Value) : OnlyB g w (w.setCell ⟨g, i, none⟩ v) :=
  have h := (Below.refl 0 w).setCell (p := ⟨g, i, none⟩) (Nat.zero_le _) v
  ⟨h.os, h.tape, h.output, h.size, fun k _ hn => Below.heap_setCell w _ _ k (fun e => hn (by rw [e]))⟩
theorem OnlyB.below {g B : Nat} {a b : World} (h : OnlyB g a b) (hB : B ≤ g) (hs : B ≤ a.heap.size) : Below B a b :=
  ⟨h.os, h.tape, h.output, h.size, fun k hk => h.block k (by omega) (fun e => by simp at e; omega)⟩
theorem OnlyB.iter {g k : Nat} {a b : World} (h : OnlyB g a b) (hk : a.heap.size ≤ k) (s : ByteArray) (p : Nat) : OnlyB g a (b.iterAt k s p) :=
  have hb := Lib.below_iterAt (B := a.heap.size) (a := b) (w := b) (Below.refl _ _) hk s p
  ⟨hb.os.trans h.os, hb.tape.trans h.tape, hb.output.trans h.output, Nat.le_trans h.size hb.size, fun i hi hn => (hb.block i hi).trans (h.block i hi hn)⟩
/-- forward's end -/
def FwdRes (w : World) (g : Nat) (s : ByteArray) (a l c size : Nat) (o : Bool) (v : Value) (e : Ending) (w' : World) : Prop :=
  e = .returned (.tuple #[]) ∧ ∃ c', c' ≤ c + size ∧ Mach w' g s (a + size) l c' o v ∧ OnlyB g w w'
set_option maxHeartbeats 4000000 in
set_option maxRecDepth 100000 in
theorem forward_any (g : Nat) (s : ByteArray) (a l c size : Nat) (o : Bool) (v : Value) (w : World) (hm : Mach w g s a l c o v) (hle : a + size ≤ s.size) (hs : s.size ≤ 1048576) (hc : c ≤ 2097152) :
    Calls Tryz.prog 54 #[.pointer (some ⟨g, 0, none⟩), .int .i64 (size : Int)] w (FwdRes w g s a l c size o v) := by
  have HM := Lib.hid hm
  clear hm
  have m0 := HM.out.text
  have m1 := HM.out.at'
  go_enter Tryz.func54, Tryz.ntmps54
  have hb1 : (a : Int) ≤ (a : Int) + (size : Int) := by omega
  have hb2 : (a : Int) + (size : Int) ≤ (s.size : Int) := by omega
  have hb3 : (0 : Int) ≤ (a : Int) + (size : Int) := by omega
  have hz1 : ((a : Int) + (size : Int)).toNat = a + size := by omega
  have hw1 : IntKind.i64.wrap ((a : Int) + (size : Int)) = (a : Int) + (size : Int) := IntWalk.i64_in _ (by omega)
  go_wp2_with fail
  go_still_tail 15, (by kernel_rfl)
  clear hz1 hw1
  change wpList _ _ _ _ _ w.drew
  generalize hT : s.extract a (a + size) = T
  have HTZ : Hid (T.size = size) := by subst hT; simp [Hid]; omega
  clear hT m0 m1 hb1 hb2 hb3
  have hba : Below w.heap.size w (w.drew.alloc (.stringIter T 0)) := (below_drewN (Below.refl _ w) 1).alloc (Nat.le_refl _) _
  have HM0 := Lib.hid (HM.out.below hba)
  have HO0 := Lib.hid (OnlyB.of_below (g := g) hba)
  have HIT0 : Hid ((w.drew.alloc (.stringIter T 0)).heap[w.heap.size]? = some (.stringIter T 0)) := by
    show (w.heap.push _)[w.heap.size]? = _
    simp
  have HG := HM.out.lt
  have HSIZE : Hid (w.heap.size ≠ g) := by unfold Hid; omega
  clear hba
  go_wp2
  go_loopw [20, 21, 22, 23, 24, 25, 26, 27, 28] (fun _ _ _ _ _ _ _ _ _ wr => ∃ (k pos : Nat), k ≤ pos ∧ k ≤ size ∧ Hid (wr.heap[w.heap.size]? = some (.stringIter T pos)) ∧ Hid (Mach wr g s a l (c + k) o v) ∧ Hid (OnlyB g w wr)) (fun _ _ _ _ _ _ _ _ _ wr => size - wr.iterPos w.heap.size)
  case atStart => exact ⟨0, 0, Nat.le_refl _, Nat.zero_le _, HIT0, HM0, HO0⟩
  case round =>
    obtain ⟨k, pos, hkp, hps, hit, hmr, hor⟩ := hrel
    have HPOS : Hid (wr.iterPos w.heap.size = pos) := by
      unfold Hid World.iterPos
      rw [hit.out]
    clear HM0 HO0 HIT0
    by_cases hp : pos < size
    · have hp' : pos < T.size := by rw [HTZ.out]; exact hp
      have hnx : ∀ ty, (Instr.next (.pointer (some ⟨w.heap.size, 0, none⟩)) true ty).run Tryz.prog wr = _ := fun ty => Lib.run_next_any_at wr w.heap.size T pos ty hit.out hp'
      have hwd := width_pos T pos hp'
      generalize Utf8.decode T pos = d at *
      have HM2 : Hid (Mach (wr.iterAt w.heap.size T (pos + d.2)) g s a l (c + k) o v) := (Lib.iterAt_other wr w.heap.size g T (pos + d.2) (Ne.symm HSIZE.out)).trans hmr.out
      have HIT2 := Lib.hid (Lib.iterAt_heap wr w.heap.size T pos (pos + d.2) hit.out)
      have HO2 := Lib.hid (hor.out.iter (Nat.le_refl _) T (pos + d.2))
      obtain ⟨W2, hW2⟩ : ∃ W2, W2 = wr.iterAt w.heap.size T (pos + d.2) := ⟨_, rfl⟩
      rw [← hW2] at hnx HM2 HIT2 HO2
      clear hW2 hit hmr hor hp'
      have f3 := HM2.out.col
      have f3' := HM2.out.free 3
      have HM3 := Lib.hid (HM2.out.setCol (c + k + 1))
      have HO3 := Lib.hid (HO2.out.trans (OnlyB.set g 3 W2 (.int .i64 ((c + k + 1 : Nat) : Int))))
      have HIT3 : Hid ((W2.setCell ⟨g, 3, none⟩ (.int .i64 ((c + k + 1 : Nat) : Int))).heap[w.heap.size]? = some (.stringIter T (pos + d.2))) := (Below.heap_setCell W2 _ _ _ HSIZE.out).trans HIT2.out
      simp only [Int.natCast_add, Int.cast_ofNat_Int] at f3 HO3 HIT3
      go_wp2
      go_roundw
      case rel => exact ⟨k + 1, pos + d.2, by omega, by omega, HIT3, HM3, HO3⟩
      case measure =>
        have h4 : (W2.setCell ⟨g, 3, none⟩ (.int .i64 ((c : Int) + (k : Int) + 1))).iterPos w.heap.size = pos + d.2 := by
          unfold World.iterPos
          rw [HIT3.out]
        rw [h4, HPOS.out]
        omega
    · have hp' : ¬ pos < T.size := by rw [HTZ.out]; exact hp
      have hnx : ∀ ty, (Instr.next (.pointer (some ⟨w.heap.size, 0, none⟩)) true ty).run Tryz.prog wr = _ := fun ty => Lib.run_next_end_at wr w.heap.size T pos ty hit.out hp'
      have HM2 := hmr
      have f1 := hmr.out.at'
      have f1' := hmr.out.free 1
      have HM3 := Lib.hid (hmr.out.setAt (a + size))
      have HO3 := Lib.hid (hor.out.trans (OnlyB.set g 1 wr (.int .i64 ((a + size : Nat) : Int))))
      clear hp' hmr hor hit HPOS
      simp only [Int.natCast_add] at HM3 HO3
      go_wp2
      go_end0
      exact ⟨rfl, c + k, by omega, HM3.out, HO3.out⟩
end Go.Proofs.YtbklijcdmiffaaaGreatDoor
