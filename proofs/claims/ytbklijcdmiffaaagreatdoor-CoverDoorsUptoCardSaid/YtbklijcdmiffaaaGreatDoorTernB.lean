/-
  tern.Parse: what the call answers, said of the text.
-/
import Derived.Test.YtbklijcdmiffaaaGreatDoorProg
import Derived.Test.YtbklijcdmiffaaaGreatDoorBase
import Derived.Test.YtbklijcdmiffaaaGreatDoorTernA
import Derived.Test.YtbklijcdmiffaaaGreatDoorBits
import Derived.StillTailTactics
import Derived.WalkKit
import Derived.WalkSpells
import Derived.WalkLawsBesides
import Derived.Deep.QuietTactic
import Derived.BigQuiet
import Derived.Lib.Hide
import Derived.Deep.LoopGhost
namespace Go.Proofs.YtbklijcdmiffaaaGreatDoor
open Go.RowKit

/-- the struct that is being filled, in block g: word functions C, O -/
structure CubeMem (w : World) (g : Nat) (sz : Int) (C O : Nat → Nat) : Prop where
  size : w.cell? ⟨g, 0, none⟩ = some (.int .i64 sz)
  care : ∀ q, q < 4 → w.cell? ⟨g, 1 + q, none⟩ = some (.int .u64 (C q))
  ones : ∀ q, q < 4 → w.cell? ⟨g, 5 + q, none⟩ = some (.int .u64 (O q))
  free : ∀ i, w.frozen? ⟨g, i, none⟩ = false
theorem CubeMem.putCare {w : World} {g : Nat} {sz : Int} {C O : Nat → Nat} (h : CubeMem w g sz C O) (q X : Nat) (hq : q < 4) :
    CubeMem ((w.setCell ⟨g, 1 + q, none⟩ (.int .u64 X)).drew) g sz (fun j => if j = q then X else C j) O := by
  refine ⟨?_, fun j hj => ?_, fun j hj => ?_, fun i => ?_⟩
  · show (w.setCell _ _).cell? _ = _
    rw [World.cell?_setCell_other _ _ _ _ (by intro e; injection e; omega)]
    exact h.size
  · show (w.setCell _ _).cell? _ = _
    by_cases e : j = q
    · subst e
      rw [World.cell?_setCell_same _ _ _ (h.care j hq)]
      simp
    · rw [World.cell?_setCell_other _ _ _ _ (by intro e'; injection e'; omega), h.care j hj]
      simp [e]
  · show (w.setCell _ _).cell? _ = _
    rw [World.cell?_setCell_other _ _ _ _ (by intro e'; injection e'; omega)]
    exact h.ones j hj
  · show (w.setCell _ _).frozen? _ = _
    rw [World.frozen?_setCell]
    exact h.free i
theorem CubeMem.putOnes {w : World} {g : Nat} {sz : Int} {C O : Nat → Nat} (h : CubeMem w g sz C O) (q X : Nat) (hq : q < 4) :
    CubeMem ((w.setCell ⟨g, 5 + q, none⟩ (.int .u64 X)).drew) g sz C (fun j => if j = q then X else O j) := by
  refine ⟨?_, fun j hj => ?_, fun j hj => ?_, fun i => ?_⟩
  · show (w.setCell _ _).cell? _ = _
    rw [World.cell?_setCell_other _ _ _ _ (by intro e; injection e; omega)]
    exact h.size
  · show (w.setCell _ _).cell? _ = _
    rw [World.cell?_setCell_other _ _ _ _ (by intro e'; injection e'; omega)]
    exact h.care j hj
  · show (w.setCell _ _).cell? _ = _
    by_cases e : j = q
    · subst e
      rw [World.cell?_setCell_same _ _ _ (h.ones j hq)]
      simp
    · rw [World.cell?_setCell_other _ _ _ _ (by intro e'; injection e'; omega), h.ones j hj]
      simp [e]
  · show (w.setCell _ _).frozen? _ = _
    rw [World.frozen?_setCell]
    exact h.free i
theorem CubeMem.congr {w : World} {g : Nat} {sz : Int} {C O C' O' : Nat → Nat} (h : CubeMem w g sz C O) (hC : ∀ q, C q = C' q) (hO : ∀ q, O q = O' q) : CubeMem w g sz C' O' := by
  obtain rfl : C = C' := funext hC
  obtain rfl : O = O' := funext hO
  exact h
theorem bitP_at {s : ByteArray} {p : UInt8 → Bool} {k : Nat} (h : k < s.size) : bitP s p k = p s[k] := by
  have : s.data[k]? = some s[k] := Array.getElem?_eq_getElem h
  simp [bitP, this]
theorem wordK_set {s : ByteArray} {p : UInt8 → Bool} {k : Nat} (h : bitP s p k = true) (q : Nat) : (if q = k / 64 then wordK s p k (k / 64) ||| 2 ^ (k % 64) else wordK s p k q) = wordK s p (k + 1) q := by
  by_cases e : q = k / 64
  · subst e
    rw [if_pos rfl, wordK_yes h]
  · rw [if_neg e, wordK_other (fun e' => e e'.symm)]
theorem set0 {w wr : World} {o : Nat} {u : Value} (h : Below w.heap.size w wr) : Below w.heap.size w (wr.setCell ⟨w.heap.size, o, none⟩ u) := h.setCell (Nat.le_refl _) u
theorem frozen_new (w : World) (cs : Array Value) (t : TypeId) (i : Nat) : (w.alloc (.cells cs t)).frozen? ⟨w.heap.size, i, none⟩ = false := by
  have h : (w.alloc (.cells cs t)).heap[w.heap.size]? = some (.cells cs t) := by
    show (w.heap.push _)[w.heap.size]? = _
    simp
  unfold World.frozen?
  dsimp only
  rw [h]
  simp
theorem frozen_old (w : World) (o : Obj) (x : Addr) (h : x.block < w.heap.size) : (w.alloc o).frozen? x = w.frozen? x := World.frozen?_of_block (Below.heap_alloc w o _ h)
/-- behind w: the result's zero block, and the struct's -/
structure ParseMem (w wr : World) (sz : Int) (C O : Nat → Nat) : Prop where
  cube : CubeMem wr (w.heap.size + 1) sz C O
  zero : At wr w.heap.size zeroCube
  free : ∀ i, wr.frozen? ⟨w.heap.size, i, none⟩ = false
  below : Below w.heap.size w wr
  size : w.heap.size + 2 ≤ wr.heap.size
theorem ParseMem.putCare {w wr : World} {sz : Int} {C O : Nat → Nat} (h : ParseMem w wr sz C O) (q X : Nat) (hq : q < 4) :
    ParseMem w ((wr.setCell ⟨w.heap.size + 1, 1 + q, none⟩ (.int .u64 X)).drew) sz (fun j => if j = q then X else C j) O :=
  ⟨h.cube.putCare q X hq, fun i u hu => (World.cell?_setCell_other _ _ _ _ (by intro e; injection e; omega)).trans (h.zero i u hu), fun i => (World.frozen?_setCell _ _ _ _).trans (h.free i),
    (h.below.setCell (by show w.heap.size ≤ w.heap.size + 1; omega) _).drew, Nat.le_trans h.size ((Below.refl 0 wr).setCell (Nat.zero_le _) _).size⟩
theorem ParseMem.putOnes {w wr : World} {sz : Int} {C O : Nat → Nat} (h : ParseMem w wr sz C O) (q X : Nat) (hq : q < 4) :
    ParseMem w ((wr.setCell ⟨w.heap.size + 1, 5 + q, none⟩ (.int .u64 X)).drew) sz C (fun j => if j = q then X else O j) :=
  ⟨h.cube.putOnes q X hq, fun i u hu => (World.cell?_setCell_other _ _ _ _ (by intro e; injection e; omega)).trans (h.zero i u hu), fun i => (World.frozen?_setCell _ _ _ _).trans (h.free i),
    (h.below.setCell (by show w.heap.size ≤ w.heap.size + 1; omega) _).drew, Nat.le_trans h.size ((Below.refl 0 wr).setCell (Nat.zero_le _) _).size⟩
theorem ParseMem.congr {w wr : World} {sz : Int} {C O C' O' : Nat → Nat} (h : ParseMem w wr sz C O) (hC : ∀ q, C q = C' q) (hO : ∀ q, O q = O' q) : ParseMem w wr sz C' O' := ⟨h.cube.congr hC hO, h.zero, h.free, h.below, h.size⟩
theorem ParseMem.start (w : World) (sz : Int) (t : TypeId) (C O : Nat → Nat) (hC : ∀ q, C q = 0) (hO : ∀ q, O q = 0) :
    ParseMem w ((w.alloc (.cells zeroCube.toArray t)).alloc (.cells (.int .i64 sz :: zeroCube.tail).toArray t)) sz C O := by
  have ha := At.new (w.alloc (.cells zeroCube.toArray t)) (.int .i64 sz :: zeroCube.tail) t
  have hf := frozen_new (w.alloc (.cells zeroCube.toArray t)) (.int .i64 sz :: zeroCube.tail).toArray t
  have hz : (w.alloc (.cells zeroCube.toArray t)).heap.size = w.heap.size + 1 := by simp
  rw [hz] at ha hf
  refine ⟨⟨ha 0 _ rfl, fun q hq => ?_, fun q hq => ?_, hf⟩, (At.new w zeroCube _).keep (Keeps.alloc _ _), fun i => (frozen_old _ _ _ (by rw [hz]; exact Nat.lt_succ_self _)).trans (frozen_new w _ _ i), ((Below.refl _ _).alloc (Nat.le_refl _) _).alloc (by omega) _, by simp⟩
  · rw [hC]
    rcases (by omega : q = 0 ∨ q = 1 ∨ q = 2 ∨ q = 3) with rfl | rfl | rfl | rfl
    · exact ha 1 _ rfl
    · exact ha 2 _ rfl
    · exact ha 3 _ rfl
    · exact ha 4 _ rfl
  · rw [hO]
    rcases (by omega : q = 0 ∨ q = 1 ∨ q = 2 ∨ q = 3) with rfl | rfl | rfl | rfl
    · exact ha 5 _ rfl
    · exact ha 6 _ rfl
    · exact ha 7 _ rfl
    · exact ha 8 _ rfl
theorem put_nat (g off q r W : Nat) (i : Int) (w : World) (hi : i = 64 * q + r) (hq4 : q < 4) (hr64 : r < 64) (hW : W < 18446744073709551616) (hc : w.cell? ⟨g, off + q, none⟩ = some (.int .u64 W)) (hf : w.frozen? ⟨g, off + q, none⟩ = false) :
    Calls Tryz.prog 57 #[.pointer (some ⟨g, off, none⟩), .int .i64 i] w fun e w' => e = .returned (.tuple #[]) ∧ (w.setCell ⟨g, off + q, none⟩ (.int .u64 ((W ||| 2 ^ r : Nat) : Int))).drew = w' := by
  rw [← orBit_i W r hW hr64]
  exact put_any g off q r i W w hi hq4 hr64 hc hf

set_option maxRecDepth 100000 in
set_option maxHeartbeats 2000000 in
theorem parse_any (s : ByteArray) (w : World) (hs : s.size ≤ 1048576) :
    Calls Tryz.prog 46 #[.string s] w fun e w' => ParseRes s e ∧ Below w.heap.size w w' := by
  by_cases h1 : 256 < s.size
  · have HF : Hid (¬ cubeOk s) := fun h => by have := h.2.1; omega
    go_enter Tryz.func46, Tryz.ntmps46
    go_wp2
    refine bodyPost_ret (v := .tuple #[.agg zeroCube.toArray, .int .i64 2]) (by simp [results, Tryz.results46, go_sem, zeroCube]) rfl ⟨.inr ⟨HF.out, 2, .inl rfl, ⟨fun _ => h1, fun _ => rfl⟩, rfl⟩, (Below.refl _ _).alloc (Nat.le_refl _) _⟩
  by_cases h0 : s.size = 0
  · have HF : Hid (¬ cubeOk s) := fun h => by have := h.1; omega
    have hnil : s.toList = [] := by rw [ByteArray.toList_eq]; exact List.eq_nil_of_length_eq_zero h0
    clear h0
    have hnil' : s.toList.isEmpty = true := by simp [hnil]
    go_enter Tryz.func46, Tryz.ntmps46
    go_wp2
    refine bodyPost_ret (v := .tuple #[.agg zeroCube.toArray, .int .i64 10]) (by simp [results, Tryz.results46, go_sem, zeroCube]) rfl ⟨.inr ⟨HF.out, 10, .inr rfl, ⟨fun h => absurd h (by omega), fun h => absurd h h1⟩, rfl⟩, (Below.refl _ _).alloc (Nat.le_refl _) _⟩
  have h0' : s.toList.isEmpty = false := by
    rw [ByteArray.toList_eq]
    cases h : s.data.toList with
    | nil => exact absurd (show s.data.toList.length = 0 by rw [h]; rfl) h0
    | cons => rfl
  have H0 : Hid (1 ≤ s.size) := by unfold Hid; omega
  clear h0
  have hst := Lib.hid (ParseMem.start w s.size 86 (wordK s careP 0) (wordK s oneP 0) (wordK_zero s _) (wordK_zero s _))
  go_enter Tryz.func46, Tryz.ntmps46
  go_wp2
  go_loopw [5, 18] (fun _ i wr => ∃ k : Nat, k ≤ s.size ∧ i = .int .i64 k ∧ Hid (∀ j (h : j < s.size), j < k → s[j].toNat = 48 ∨ s[j].toNat = 49 ∨ s[j].toNat = 120) ∧ Hid (ParseMem w wr s.size (wordK s careP k) (wordK s oneP k))) (fun _ i _ => s.size - (intOf i).toNat)
  case atStart => exact ⟨0, Nat.zero_le _, rfl, fun j _ h => absurd h (by omega), hst⟩
  case round =>
    obtain ⟨k, hk, rfl, hq, hm⟩ := hrel
    by_cases hlt : k < s.size
    · by_cases hb : s[k].toNat = 48 ∨ s[k].toNat = 49 ∨ s[k].toNat = 120
      · have HQ : Hid (∀ j (h : j < s.size), j < k + 1 → s[j].toNat = 48 ∨ s[j].toNat = 49 ∨ s[j].toNat = 120) := by
          intro j h hj
          by_cases e : j = k
          · subst e; exact hb
          · exact hq.out j h (by omega)
        have hkq : (k : Int) = 64 * ((k / 64 : Nat) : Int) + ((k % 64 : Nat) : Int) := by omega
        have HKQ := Lib.hid hkq
        have hq4 : k / 64 < 4 := by omega
        have hr64 : k % 64 < 64 := by omega
        have HQ4 := Lib.hid hq4
        have HR := Lib.hid hr64
        clear hkq hq4 hr64
        rcases hb with hb | hb | hb
        · have HB1 : Hid (bitP s careP k = true) := by unfold Hid; rw [bitP_at hlt]; simp [careP, ← UInt8.toNat_inj, hb]
          have HB2 : Hid (bitP s oneP k = false) := by unfold Hid; rw [bitP_at hlt]; simp [oneP, ← UInt8.toNat_inj, hb]
          have HP := Lib.hid (put_nat (w.heap.size + 1) 1 (k / 64) (k % 64) (wordK s careP k (k / 64)) k wr HKQ.out HQ4.out HR.out (wordK_lt _ _ _ _) (hm.out.cube.care _ HQ4.out) (hm.out.cube.free _))
          have HM := Lib.hid (((hm.out.putCare (k / 64) (wordK s careP k (k / 64) ||| 2 ^ (k % 64)) HQ4.out)).congr (wordK_set HB1.out) (fun q => (wordK_no HB2.out q).symm))
          go_wp2_with fail
          refine HP.out.mono ?_
          rintro e w2 ⟨rfl, hw2⟩
          rw [hw2] at HM
          clear hw2 HP hm
          go_wp2
          go_roundw
          case rel => exact ⟨k + 1, by omega, by go_num, HQ, HM⟩
          case measure => simp [intOf]; omega
        · have HB1 : Hid (bitP s careP k = true) := by unfold Hid; rw [bitP_at hlt]; simp [careP, ← UInt8.toNat_inj, hb]
          have HB2 : Hid (bitP s oneP k = true) := by unfold Hid; rw [bitP_at hlt]; simp [oneP, ← UInt8.toNat_inj, hb]
          have HP := Lib.hid (put_nat (w.heap.size + 1) 5 (k / 64) (k % 64) (wordK s oneP k (k / 64)) k wr HKQ.out HQ4.out HR.out (wordK_lt _ _ _ _) (hm.out.cube.ones _ HQ4.out) (hm.out.cube.free _))
          have HM := Lib.hid (((hm.out.putOnes (k / 64) (wordK s oneP k (k / 64) ||| 2 ^ (k % 64)) HQ4.out)).congr (fun _ => rfl) (wordK_set HB2.out))
          go_wp2_with fail
          refine HP.out.mono ?_
          rintro e w2 ⟨rfl, hw2⟩
          rw [hw2] at HM
          clear hw2 HP hm
          have HP := Lib.hid (put_nat (w.heap.size + 1) 1 (k / 64) (k % 64) (wordK s careP k (k / 64)) k w2 HKQ.out HQ4.out HR.out (wordK_lt _ _ _ _) (HM.out.cube.care _ HQ4.out) (HM.out.cube.free _))
          have HM2 := Lib.hid (((HM.out.putCare (k / 64) (wordK s careP k (k / 64) ||| 2 ^ (k % 64)) HQ4.out)).congr (wordK_set HB1.out) (fun _ => rfl))
          go_wp2_with fail
          refine HP.out.mono ?_
          rintro e w3 ⟨rfl, hw3⟩
          rw [hw3] at HM2
          clear hw3 HP HM
          go_wp2
          go_roundw
          case rel => exact ⟨k + 1, by omega, by go_num, HQ, HM2⟩
          case measure => simp [intOf]; omega
        · have HB1 : Hid (bitP s careP k = false) := by unfold Hid; rw [bitP_at hlt]; simp [careP, ← UInt8.toNat_inj, hb]
          have HB2 : Hid (bitP s oneP k = false) := by unfold Hid; rw [bitP_at hlt]; simp [oneP, ← UInt8.toNat_inj, hb]
          have HM := Lib.hid (hm.out.congr (fun q => (wordK_no HB1.out q).symm) (fun q => (wordK_no HB2.out q).symm))
          clear hm
          go_wp2
          go_roundw
          case rel => exact ⟨k + 1, by omega, by go_num, HQ, HM⟩
          case measure => simp [intOf]; omega
      · have HF : Hid (¬ cubeOk s) := fun h => hb (h.2.2 k hlt)
        have hb1 : ((s[k].toNat : Int) == 48) = false := by simp; omega
        have hb2 : ((s[k].toNat : Int) == 49) = false := by simp; omega
        have hb3 : ((s[k].toNat : Int) == 120) = false := by simp; omega
        clear hb
        have z0 := hm.out.zero 0 _ rfl
        have f0 := hm.out.free 0
        have z1 := hm.out.zero 1 _ rfl
        have f1 := hm.out.free 1
        have z2 := hm.out.zero 2 _ rfl
        have f2 := hm.out.free 2
        have z3 := hm.out.zero 3 _ rfl
        have f3 := hm.out.free 3
        have z4 := hm.out.zero 4 _ rfl
        have f4 := hm.out.free 4
        have z5 := hm.out.zero 5 _ rfl
        have f5 := hm.out.free 5
        have z6 := hm.out.zero 6 _ rfl
        have f6 := hm.out.free 6
        have z7 := hm.out.zero 7 _ rfl
        have f7 := hm.out.free 7
        have z8 := hm.out.zero 8 _ rfl
        have f8 := hm.out.free 8
        have hbel := Lib.hid hm.out.below
        go_wp2
        refine bodyPost_ret (v := .tuple #[.agg zeroCube.toArray, .int .i64 10]) (by simp [results, Tryz.results46, go_sem, zeroCube, z0,z1,z2,z3,z4,z5,z6,z7,z8]) rfl ⟨.inr ⟨HF.out, 10, .inr rfl, ⟨fun h => absurd h (by omega), fun h => absurd h h1⟩, rfl⟩, ?_⟩
        iterate 9 (refine set0 ?_)
        exact hbel.out
    · obtain rfl : k = s.size := by omega
      have HY : Hid (cubeOk s) := ⟨H0.out, by omega, fun j h => hq.out j h h⟩
      have HM := Lib.hid (hm.out.congr (wordK_all s careP) (wordK_all s oneP))
      have hbel := Lib.hid hm.out.below
      clear hm
      have c0 := HM.out.cube.size
      have c1 : wr.cell? ⟨w.heap.size + 1, 1, none⟩ = some (.int .u64 (wordS s careP 0)) := HM.out.cube.care 0 (by omega)
      have c2 : wr.cell? ⟨w.heap.size + 1, 2, none⟩ = some (.int .u64 (wordS s careP 1)) := HM.out.cube.care 1 (by omega)
      have c3 : wr.cell? ⟨w.heap.size + 1, 3, none⟩ = some (.int .u64 (wordS s careP 2)) := HM.out.cube.care 2 (by omega)
      have c4 : wr.cell? ⟨w.heap.size + 1, 4, none⟩ = some (.int .u64 (wordS s careP 3)) := HM.out.cube.care 3 (by omega)
      have c5 : wr.cell? ⟨w.heap.size + 1, 5, none⟩ = some (.int .u64 (wordS s oneP 0)) := HM.out.cube.ones 0 (by omega)
      have c6 : wr.cell? ⟨w.heap.size + 1, 6, none⟩ = some (.int .u64 (wordS s oneP 1)) := HM.out.cube.ones 1 (by omega)
      have c7 : wr.cell? ⟨w.heap.size + 1, 7, none⟩ = some (.int .u64 (wordS s oneP 2)) := HM.out.cube.ones 2 (by omega)
      have c8 : wr.cell? ⟨w.heap.size + 1, 8, none⟩ = some (.int .u64 (wordS s oneP 3)) := HM.out.cube.ones 3 (by omega)
      have z0 := HM.out.zero 0 _ rfl
      have f0 := HM.out.free 0
      have z1 := HM.out.zero 1 _ rfl
      have f1 := HM.out.free 1
      have z2 := HM.out.zero 2 _ rfl
      have f2 := HM.out.free 2
      have z3 := HM.out.zero 3 _ rfl
      have f3 := HM.out.free 3
      have z4 := HM.out.zero 4 _ rfl
      have f4 := HM.out.free 4
      have z5 := HM.out.zero 5 _ rfl
      have f5 := HM.out.free 5
      have z6 := HM.out.zero 6 _ rfl
      have f6 := HM.out.free 6
      have z7 := HM.out.zero 7 _ rfl
      have f7 := HM.out.free 7
      have z8 := HM.out.zero 8 _ rfl
      have f8 := HM.out.free 8
      go_wp2
      refine bodyPost_ret (v := .tuple #[.agg (cubeCells s).toArray, .int .i64 0]) (by simp [results, Tryz.results46, go_sem, cubeCells, z0,z1,z2,z3,z4,z5,z6,z7,z8]) rfl ⟨.inl ⟨HY.out, rfl⟩, ?_⟩
      iterate 9 (refine set0 ?_)
      exact hbel.out
end Go.Proofs.YtbklijcdmiffaaaGreatDoor
