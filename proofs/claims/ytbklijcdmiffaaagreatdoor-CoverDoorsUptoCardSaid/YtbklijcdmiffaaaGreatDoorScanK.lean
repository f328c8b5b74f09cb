/-
  scan: the machine puts a token, ends a line.
-/
import Derived.Test.YtbklijcdmiffaaaGreatDoorProg
import Derived.Test.YtbklijcdmiffaaaGreatDoorBase
import Derived.Test.YtbklijcdmiffaaaGreatDoorScanJ
import Derived.StillTailTactics
import Derived.WalkMore
import Derived.Lib.SmallJoins
import Derived.OneCell
import Derived.IntWalk
import Derived.Tactics
import Derived.Tactics2
import Derived.Deep.RegionHeld3
import Derived.Deep.AppendLies
import Derived.WalkKit
import Derived.WalkSpells
import Derived.WalkLawsBesides
import Derived.Deep.QuietTactic
import Derived.BigQuiet
import Derived.Lib.Hide
import Derived.Deep.LoopGhost
namespace Go.Proofs.YtbklijcdmiffaaaGreatDoor
open Go.RowKit

theorem own_only {g : Nat} {w w' : World} {e : TypeId} {size n : Nat} {v : Value} {xs : List Value} (h : w.ownsRow (g + 1) e size v n xs) (ho : OnlyB g w w') : w'.ownsRow (g + 1) e size v n xs := by
  refine ⟨h.1, ?_⟩
  rcases h.2 with h0 | ⟨b, cap, cur, hv, hb, hg, rest⟩
  · exact .inl h0
  · refine .inr ⟨b, cap, cur, hv, hb, ?_, rest⟩
    exact (ho.block b (Array.getElem?_eq_some_iff.1 hg).1 (fun e => by simp at e; omega)).trans hg
/-- a token's cells -/
def tokC (k : Int) (t : ByteArray) (l c : Int) : List Value := [.int .i64 k, .string t, .int .i64 l, .int .i64 c]
theorem tokC_one (k : Int) (t : ByteArray) (l c : Int) : ∀ u ∈ tokC k t l c, u.oneCell' = true := by simp [tokC, Value.oneCell']
theorem token_info : (Tryz.prog.info? 71).map (fun i => (i.zero, i.size, i.bytes)) = some (some (.agg #[.int .i64 0, .string ⟨#[]⟩, .int .i64 0, .int .i64 0]), 4, 40) := by kernel_rfl
/-- put's end -/
def PutRes (w : World) (g : Nat) (s : ByteArray) (a l c size : Nat) (k : Int) (n : Nat) (xs : List Value) (e : Ending) (w' : World) : Prop :=
  e = .returned (.tuple #[]) ∧ ∃ c' v', c' ≤ c + size ∧ Mach w' g s (a + size) l c' true v' ∧ w'.ownsRow (g + 1) 71 4 v' (n + 1) (xs ++ tokC k (s.extract a (a + size)) l c) ∧ Below g w w'
set_option maxRecDepth 100000 in
set_option maxHeartbeats 4000000 in
theorem mput_any (g : Nat) (s : ByteArray) (a l c size : Nat) (k : Int) (o : Bool) (v : Value) (n : Nat) (xs : List Value) (w : World) (hm : Mach w g s a l c o v) (hown : w.ownsRow (g + 1) 71 4 v n xs) (hle : a + size ≤ s.size) (hs : s.size ≤ 1048576) (hc : c ≤ 1048577) (hn : n ≤ 1048576) :
    Calls Tryz.prog 55 #[.pointer (some ⟨g, 0, none⟩), .int .i64 k, .int .i64 (size : Int)] w (PutRes w g s a l c size k n xs) := by
  obtain ⟨i0, hi0, hz0, hz1, hz2⟩ := info_parts token_info
  have HM := Lib.hid hm
  have HOWN := Lib.hid hown
  have hgl := hm.lt
  clear hm hown
  have m0 := HM.out.text
  have m1 := HM.out.at'
  have m2 := HM.out.line
  have m3 := HM.out.col
  have m5 := HM.out.tokens
  have mf := HM.out.free 5
  have hne : some g ≠ v.ownBlock := fun e => by
    have := own_base HOWN.out _ e.symm
    omega
  have hb1 : (a : Int) ≤ (a : Int) + (size : Int) := by omega
  have hb2 : (a : Int) + (size : Int) ≤ (s.size : Int) := by omega
  have hb3 : (0 : Int) ≤ (a : Int) + (size : Int) := by omega
  have hx1 : ((a : Int) + (size : Int)).toNat = a + size := by omega
  have hw1 : IntKind.i64.wrap ((a : Int) + (size : Int)) = (a : Int) + (size : Int) := IntWalk.i64_in _ (by omega)
  go_enter Tryz.func55, Tryz.ntmps55
  go_wp2_with fail
  rw [← id_eq (Op.load 67 (Operand.tmp 9))]
  go_region_held3 (fun w' => w'.cell? ⟨g, 0, none⟩ = some (.string s) ∧ w'.cell? ⟨g, 1, none⟩ = some (.int .i64 (a : Int)) ∧ w'.cell? ⟨g, 2, none⟩ = some (.int .i64 (l : Int)) ∧ w'.cell? ⟨g, 3, none⟩ = some (.int .i64 (c : Int)))
    (first
      | go_keep
      | (go_split_ands
         refine ⟨?_, ?_, ?_, ?_⟩ <;> (rw [World.cell?_setCell_other _ _ _ _ (by simp)]; assumption))
      | (go_split_ands
         refine ⟨?_, ?_, ?_, ?_⟩
         · (rw [hgrow.cell_far _ (by simp; omega) hne]; assumption)
         · (rw [hgrow.cell_far _ (by simp; omega) hne]; assumption)
         · (rw [hgrow.cell_far _ (by simp; omega) hne]; assumption)
         · (rw [hgrow.cell_far _ (by simp; omega) hne]; assumption)))
    ((refine step_append_lies _ (by rfl) _ _ _ (by rfl) (g + 1) 71 i0 _ 4 40 Tryz.underlying67 hi0 hz0 hz1 hz2 rfl (by decide) v n xs (by rfl) ((HOWN.out.alloc _).drew)
        ⟨w.heap.size, 0, none⟩ 1 1 [.int .i64 k, .string (s.extract a (a + size)), .int .i64 (l : Int), .int .i64 (c : Int)] (by rfl) (by rfl) (World.news_of_block (cs := #[.int .i64 k, .string (s.extract a (a + size)), .int .i64 (l : Int), .int .i64 (c : Int)]) (t := 71) (fr := (0, 0)) (heap_alloc_new w _)) (by simp [Value.oneCell'])
        (by omega) (by unfold maxLen; omega) (by omega) (by simp; omega) (w.heap.size + 1) (by simp) ?_; intro gg cap w1 hown1 hgrow hat hlt; have hc5 : w1.cell? ⟨g, 5, none⟩ = some v := (hgrow.cell_far ⟨g, 5, none⟩ (by simp; omega) hne).trans ((World.cell?_alloc_lt w _ ⟨g, 5, none⟩ hgl).trans m5); have hf5 : w1.frozen? ⟨g, 5, none⟩ = false := (hgrow.frozen_far ⟨g, 5, none⟩ (by simp; omega) hne).trans ((World.frozen?_of_block (Below.heap_alloc w _ g hgl)).trans mf)))
  all_goals
    clear hb1 hb2 hb3 hx1 hw1 m0 m1 m2 m3 m5 mf hc5 hf5
    have HM1 : Mach w1 g s a l c o v := (hgrow.block g (by simp; omega) hne).trans ((Below.heap_alloc w _ g hgl).trans HM.out)
    have hgg := own_base hown1 gg rfl
    have HM2 := HM1.setTokens (.slice (some ⟨gg, 0, none⟩) (n + 1) cap)
    have HB1 : Below g w w1 := ((below_drewN (Below.refl g w) 1).alloc (Nat.le_of_lt hgl) _).grown hgrow (by simp; omega) (fun k hk => by have := own_base HOWN.out k hk; omega)
    have HB2 := HB1.setCell (p := ⟨g, 5, none⟩) (Nat.le_refl g) (.slice (some ⟨gg, 0, none⟩) (n + 1) cap)
    have HO2 := ownsRow_setCell_other hown1 (a := ⟨g, 5, none⟩) (by simp [Value.ownBlock]; omega) (.slice (some ⟨gg, 0, none⟩) (n + 1) cap)
    generalize w1.setCell ⟨g, 5, none⟩ (.slice (some ⟨gg, 0, none⟩) (n + 1) cap) = w2 at *
    have HM3 := HM2.setOpen true
    have HB3 := HB2.setCell (p := ⟨g, 4, none⟩) (Nat.le_refl g) (.bool true)
    have HO3 := ownsRow_setCell_other HO2 (a := ⟨g, 4, none⟩) (by simp [Value.ownBlock]; omega) (.bool true)
    have f4 := HM2.open'
    have f4' := HM2.free 4
    have HFW := Lib.hid (forward_any g s a l c size true _ _ HM3 hle hs (by omega))
    have HB4 := Lib.hid HB3
    have HO4 := Lib.hid HO3
    clear HM1 HM2 HM3 HB1 HB2 HB3 HO2 HO3 hown1 hgrow hat hlt hne
    go_wp2_with fail
    refine HFW.out.mono ?_
    rintro e w4 ⟨rfl, c', hc', hm4, ho4⟩
    have HM5 := Lib.hid hm4
    have HB5 := Lib.hid (HB4.out.trans (ho4.below (Nat.le_refl g) (Nat.le_trans (Nat.le_of_lt hgl) HB4.out.size)))
    have HO5 := Lib.hid (own_only HO4.out ho4)
    clear hm4 ho4 HFW
    go_wp2
    go_end0
    exact ⟨rfl, c', _, hc', HM5.out, HO5.out, HB5.out⟩
end Go.Proofs.YtbklijcdmiffaaaGreatDoor
