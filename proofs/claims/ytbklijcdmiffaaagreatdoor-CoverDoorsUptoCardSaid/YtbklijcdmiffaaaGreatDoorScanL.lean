/-
  scan: the machine ends a line.
-/
import Derived.Test.YtbklijcdmiffaaaGreatDoorProg
import Derived.Test.YtbklijcdmiffaaaGreatDoorBase
import Derived.Test.YtbklijcdmiffaaaGreatDoorScanK
import Derived.StillTailTactics
import Derived.WalkMore
import Derived.Lib.SmallJoins
import Derived.OneCell
import Derived.IntWalk
import Derived.Tactics
import Derived.Tactics2
import Derived.Deep.RegionHeld3
import Derived.Deep.AppendLies
import Derived.WalkKit
import Derived.WalkSpells
import Derived.WalkLawsBesides
import Derived.Deep.QuietTactic
import Derived.BigQuiet
import Derived.Lib.Hide
import Derived.Deep.LoopGhost
namespace Go.Proofs.YtbklijcdmiffaaaGreatDoor
open Go.RowKit

/-- what an end of line appends -/
def endTok (o : Bool) (l c : Nat) : List Value := if o then tokC 1 ⟨#[10]⟩ l c else []
def EndRes (w : World) (g : Nat) (s : ByteArray) (a l c : Nat) (o : Bool) (n : Nat) (xs : List Value) (e : Ending) (w' : World) : Prop :=
  e = .returned (.tuple #[]) ∧ ∃ v', Mach w' g s (a + 1) (l + 1) 1 false v' ∧ w'.ownsRow (g + 1) 71 4 v' (if o then n + 1 else n) (xs ++ endTok o l c) ∧ Below g w w'
set_option maxRecDepth 100000 in
set_option maxHeartbeats 4000000 in
theorem endLine_any (g : Nat) (s : ByteArray) (a l c : Nat) (o : Bool) (v : Value) (n : Nat) (xs : List Value) (w : World) (hm : Mach w g s a l c o v) (hown : w.ownsRow (g + 1) 71 4 v n xs) (ha : a ≤ 1048577) (hl : l ≤ 1048577) (hc : c ≤ 1048577) (hn : n ≤ 1048576) :
    Calls Tryz.prog 56 #[.pointer (some ⟨g, 0, none⟩)] w (EndRes w g s a l c o n xs) := by
  have HREST : Hid (∀ (w2 : World) (v2 : Value) (n2 : Nat) (xs2 : List Value), Mach w2 g s a l c o v2 → w2.ownsRow (g + 1) 71 4 v2 n2 xs2 → Below g w w2 → Mach (((((w2.setCell ⟨g, 4, none⟩ (.bool false)).setCell ⟨g, 1, none⟩ (.int .i64 ((a : Int) + 1))).setCell ⟨g, 2, none⟩ (.int .i64 ((l : Int) + 1))).setCell ⟨g, 3, none⟩ (.int .i64 1))) g s (a + 1) (l + 1) 1 false v2 ∧
      (((((w2.setCell ⟨g, 4, none⟩ (.bool false)).setCell ⟨g, 1, none⟩ (.int .i64 ((a : Int) + 1))).setCell ⟨g, 2, none⟩ (.int .i64 ((l : Int) + 1))).setCell ⟨g, 3, none⟩ (.int .i64 1))).ownsRow (g + 1) 71 4 v2 n2 xs2 ∧
      Below g w (((((w2.setCell ⟨g, 4, none⟩ (.bool false)).setCell ⟨g, 1, none⟩ (.int .i64 ((a : Int) + 1))).setCell ⟨g, 2, none⟩ (.int .i64 ((l : Int) + 1))).setCell ⟨g, 3, none⟩ (.int .i64 1)))) := by
    intro w2 v2 n2 xs2 h1 h2 h3
    have hne : ∀ i, v2.ownBlock ≠ some (⟨g, i, none⟩ : Addr).block := fun i e => by
      have := own_base h2 _ e
      simp at this
      omega
    exact ⟨(((h1.setOpen false).setAt (a + 1)).setLine (l + 1)).setCol 1,
      ownsRow_setCell_other (ownsRow_setCell_other (ownsRow_setCell_other (ownsRow_setCell_other h2 (a := ⟨g, 4, none⟩) (hne 4) _) (a := ⟨g, 1, none⟩) (hne 1) _) (a := ⟨g, 2, none⟩) (hne 2) _) (a := ⟨g, 3, none⟩) (hne 3) _,
      (((h3.setCell (p := ⟨g, 4, none⟩) (Nat.le_refl g) _).setCell (p := ⟨g, 1, none⟩) (Nat.le_refl g) _).setCell (p := ⟨g, 2, none⟩) (Nat.le_refl g) _).setCell (p := ⟨g, 3, none⟩) (Nat.le_refl g) _⟩
  obtain ⟨i0, hi0, hz0, hz1, hz2⟩ := info_parts token_info
  have HM := Lib.hid hm
  have HOWN := Lib.hid hown
  have hgl := hm.lt
  clear hm hown
  have hne : some g ≠ v.ownBlock := fun e => by
    have := own_base HOWN.out _ e.symm
    omega
  cases o with
  | false =>
    have m1 := HM.out.at'
    have m2 := HM.out.line
    have m4 := HM.out.open'
    have k1 := HM.out.free 1
    have k2 := HM.out.free 2
    have k3 := HM.out.free 3
    have k4 := HM.out.free 4
    have m3 := HM.out.col
    have HR := Lib.hid (HREST.out w v n xs HM.out HOWN.out (Below.refl g w))
    go_enter Tryz.func56, Tryz.ntmps56
    go_wp2
    go_end0
    exact ⟨rfl, v, HR.out.1, by simpa [endTok] using HR.out.2.1, HR.out.2.2⟩
  | true =>
    have m2 := HM.out.line
    have m3 := HM.out.col
    have m4 := HM.out.open'
    have m5 := HM.out.tokens
    have mf := HM.out.free 5
    go_enter Tryz.func56, Tryz.ntmps56
    go_wp2_with fail
    rw [← id_eq (Op.load 67 (Operand.tmp 9))]
    go_region_held3 (fun w' => w'.cell? ⟨g, 2, none⟩ = some (.int .i64 (l : Int)) ∧ w'.cell? ⟨g, 3, none⟩ = some (.int .i64 (c : Int)))
      (first
        | go_keep
        | (go_split_ands
           refine ⟨?_, ?_⟩ <;> (rw [World.cell?_setCell_other _ _ _ _ (by simp)]; assumption))
        | (go_split_ands
           refine ⟨?_, ?_⟩
           · (rw [hgrow.cell_far _ (by simp; omega) hne]; assumption)
           · (rw [hgrow.cell_far _ (by simp; omega) hne]; assumption)))
      ((refine step_append_lies _ (by rfl) _ _ _ (by rfl) (g + 1) 71 i0 _ 4 40 Tryz.underlying67 hi0 hz0 hz1 hz2 rfl (by decide) v n xs (by rfl) ((HOWN.out.alloc _).drew)
          ⟨w.heap.size, 0, none⟩ 1 1 (tokC 1 ⟨#[10]⟩ l c) (by rfl) (by rfl) (World.news_of_block (cs := #[.int .i64 1, .string ⟨#[10]⟩, .int .i64 (l : Int), .int .i64 (c : Int)]) (t := 71) (fr := (0, 0)) (heap_alloc_new w _)) (tokC_one _ _ _ _)
          (by omega) (by unfold maxLen; omega) (by omega) (by simp; omega) (w.heap.size + 1) (by simp) ?_; intro gg cap w1 hown1 hgrow hat hlt; have hc5 : w1.cell? ⟨g, 5, none⟩ = some v := (hgrow.cell_far ⟨g, 5, none⟩ (by simp; omega) hne).trans ((World.cell?_alloc_lt w _ ⟨g, 5, none⟩ hgl).trans m5); have hf5 : w1.frozen? ⟨g, 5, none⟩ = false := (hgrow.frozen_far ⟨g, 5, none⟩ (by simp; omega) hne).trans ((World.frozen?_of_block (Below.heap_alloc w _ g hgl)).trans mf)))
    all_goals
      clear m2 m3 m4 m5 mf hc5 hf5
      have HM1 : Mach w1 g s a l c true v := (hgrow.block g (by simp; omega) hne).trans ((Below.heap_alloc w _ g hgl).trans HM.out)
      have hgg := own_base hown1 gg rfl
      have HM2 := HM1.setTokens (.slice (some ⟨gg, 0, none⟩) (n + 1) cap)
      have HB1 : Below g w w1 := ((below_drewN (Below.refl g w) 1).alloc (Nat.le_of_lt hgl) _).grown hgrow (by simp; omega) (fun k hk => by have := own_base HOWN.out k hk; omega)
      have HB2 := HB1.setCell (p := ⟨g, 5, none⟩) (Nat.le_refl g) (.slice (some ⟨gg, 0, none⟩) (n + 1) cap)
      have HO2 := ownsRow_setCell_other hown1 (a := ⟨g, 5, none⟩) (by simp [Value.ownBlock]; omega) (.slice (some ⟨gg, 0, none⟩) (n + 1) cap)
      generalize w1.setCell ⟨g, 5, none⟩ (.slice (some ⟨gg, 0, none⟩) (n + 1) cap) = w2 at *
      have m1 := HM2.at'
      have m2 := HM2.line
      have m3 := HM2.col
      have m4 := HM2.open'
      have k1 := HM2.free 1
      have k2 := HM2.free 2
      have k3 := HM2.free 3
      have k4 := HM2.free 4
      have HR := Lib.hid (HREST.out w2 _ _ _ HM2 HO2 HB2)
      clear HM1 HM2 HB1 HB2 HO2 hown1 hgrow hat hlt hne
      go_wp2
      go_end0
      exact ⟨rfl, _, HR.out.1, HR.out.2.1, HR.out.2.2⟩
end Go.Proofs.YtbklijcdmiffaaaGreatDoor
