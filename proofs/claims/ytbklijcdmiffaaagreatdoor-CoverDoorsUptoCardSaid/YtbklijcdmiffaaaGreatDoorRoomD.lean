/-
  Roomy: the same numbers with marked room behind the lists.
-/
import Derived.Test.YtbklijcdmiffaaaGreatDoorProg
import Derived.Test.YtbklijcdmiffaaaGreatDoorBase
import Derived.Test.YtbklijcdmiffaaaGreatDoorRoomC
import Derived.StillTailTactics
import Derived.OneCell
import Derived.Tactics
import Derived.Tactics2
import Derived.WalkMore
import Derived.Lib.SmallJoins
import Derived.Deep.RegionHeld3
import Derived.Deep.AppendLies
import Derived.WalkKit
import Derived.WalkSpells
import Derived.WalkLawsBesides
import Derived.Deep.QuietTactic
import Derived.BigQuiet
import Derived.Lib.Hide
import Derived.Deep.LoopGhost
namespace Go.Proofs.YtbklijcdmiffaaaGreatDoor
open Go.RowKit

/-- the state of Roomy: the box, the blocks of the two results, the copy's block -/
structure RoomyS (w0 : World) (cs : List Value) (n : NetD) (M : List Nat) (v1 v2 v3 : Value) (wr : World) : Prop where
  box : At (mask M wr) w0.heap.size cs
  r1 : wr.heap[w0.heap.size + 1]? = some (.cells #[.int .i64 0, .slice none 0 0, .slice none 0 0, .slice none 0 0] 26 (0, 0))
  r2 : wr.heap[w0.heap.size + 1 + 1]? = some (.cells #[.int .i64 0, .slice none 0 0, .slice none 0 0, .slice none 0 0] 26 (0, 0))
  copy : wr.heap[w0.heap.size + 1 + 1 + 1]? = some (.cells #[.int .i64 n.bits, v1, v2, v3] 26 (0, 0))
  masked : ∀ b, b ∈ M → w0.heap.size + 1 ≤ b ∧ b < wr.heap.size
  below : Below w0.heap.size w0 wr
section
variable {w0 wr : World} {cs : List Value} {n : NetD} {M : List Nat} {v1 v2 v3 : Value}
theorem RoomyS.cell (h : RoomyS w0 cs n M v1 v2 v3 wr) (j : Nat) (u : Value) (hj : cs[j]? = some u) : wr.cell? ⟨w0.heap.size, j, none⟩ = some u := mask_keeps M wr _ _ (h.box j u hj)
theorem RoomyS.lt (h : RoomyS w0 cs n M v1 v2 v3 wr) : w0.heap.size + 1 + 1 + 1 < wr.heap.size := (Array.getElem?_eq_some_iff.1 h.copy).1
theorem RoomyS.turn (h : RoomyS w0 cs n M v1 v2 v3 wr) {M' : List Nat} {w' : World} (hk : Keeps (mask M wr) (mask M' w')) (hb : ∀ b, w0.heap.size < b → b ≤ w0.heap.size + 1 + 1 + 1 → w'.heap[b]? = wr.heap[b]?)
    (hM : ∀ b, b ∈ M' → w0.heap.size + 1 ≤ b ∧ b < w'.heap.size) (hbel : Below w0.heap.size w0 w') : RoomyS w0 cs n M' v1 v2 v3 w' where
  box := h.box.keep hk
  r1 := (hb _ (by omega) (by omega)).trans h.r1
  r2 := (hb _ (by omega) (by omega)).trans h.r2
  copy := (hb _ (by omega) (by omega)).trans h.copy
  masked := hM
  below := hbel
theorem RoomyS.next (h : RoomyS w0 cs n M v1 v2 v3 wr) {w' : World} (hb : Below wr.heap.size wr w') : RoomyS w0 cs n M v1 v2 v3 w' :=
  h.turn (mask_below hb) (fun b _ h3 => hb.block b (by have := h.lt; omega)) (fun b hm => by have := h.masked b hm; have := hb.size; omega) (h.below.trans (hb.mono h.below.size))
theorem RoomyS.down (h : RoomyS w0 cs n M v1 v2 v3 wr) {M' : List Nat} (hM : ∀ b, b ∈ M' → b ∈ M) : RoomyS w0 cs n M' v1 v2 v3 wr :=
  h.turn (mask_down M wr hM) (fun _ _ _ => rfl) (fun b hb => h.masked b (hM b hb)) h.below
/-- a new row, to be masked -/
theorem RoomyS.make (h : RoomyS w0 cs n M v1 v2 v3 wr) (o : Obj) : RoomyS w0 cs n (wr.heap.size :: M) v1 v2 v3 (wr.alloc o) :=
  h.turn (mask_more ((Keeps.alloc wr o).x M) (fun b hb => by
    rcases List.mem_cons.1 hb with rfl | h
    · exact .inr (Nat.le_refl _)
    · exact .inl h)) (fun b _ h3 => Below.heap_alloc wr o b (by have := h.lt; omega)) (fun b hb => by
    have := h.lt
    rcases List.mem_cons.1 hb with rfl | hm
    · simp; omega
    · have := h.masked b hm
      simp; omega) (h.below.alloc h.below.size o)
/-- cells of a masked row are stored -/
theorem RoomyS.cells (h : RoomyS w0 cs n M v1 v2 v3 wr) (g : Nat) (hg : g ∈ M) (hg3 : w0.heap.size + 1 + 1 + 1 < g) (o : Nat) (vs : List Value) : RoomyS w0 cs n M v1 v2 v3 (wr.setCells g o vs) := by
  induction vs generalizing wr o with
  | nil => exact h
  | cons v r ih =>
    rw [World.setCells]
    refine ih (wr := wr.setCell ⟨g, o, none⟩ v) (h.turn (mask_set _ _ hg) (fun b _ hb => Below.heap_setCell wr _ _ _ (by simp; omega)) (fun b hb => by simpa using h.masked b hb) (h.below.setCell (by simp; omega) _)) (o + 1)
theorem RoomyS.set (h : RoomyS w0 cs n M v1 v2 v3 wr) (hm : w0.heap.size + 1 + 1 + 1 ∈ M) (i : Nat) (x : Value) {v1' v2' v3' : Value}
    (hc : (#[Value.int .i64 n.bits, v1, v2, v3] : Array Value).setIfInBounds i x = #[.int .i64 n.bits, v1', v2', v3']) : RoomyS w0 cs n M v1' v2' v3' (wr.setCell ⟨w0.heap.size + 1 + 1 + 1, i, none⟩ x) where
  box := h.box.keep (mask_set _ _ hm)
  r1 := (Below.heap_setCell wr ⟨w0.heap.size + 1 + 1 + 1, i, none⟩ x _ (by simp)).trans h.r1
  r2 := (Below.heap_setCell wr ⟨w0.heap.size + 1 + 1 + 1, i, none⟩ x _ (by simp)).trans h.r2
  copy := by
    have := Joins.block_setCell h.copy (i := i) x
    rw [hc] at this
    exact this
  masked := fun b hb => by simpa using h.masked b hb
  below := h.below.setCell (by show w0.heap.size ≤ w0.heap.size + 1 + 1 + 1; omega) _
end

theorem roomy_start (w : World) (n : NetD) (ap at_ ag : Option Addr) (cp ct cg : Nat) (v1 : Value) : RoomyS w [.int .i64 n.bits, .slice ap n.ports.length cp, .slice at_ n.tables.length ct, .slice ag n.guards.length cg] n [w.heap.size + 1 + 1 + 1, w.heap.size + 1 + 1, w.heap.size + 1] v1 (.slice none 0 0) (.slice none 0 0) ((((w.alloc (.cells #[.int .i64 n.bits, .slice ap n.ports.length cp, .slice at_ n.tables.length ct, .slice ag n.guards.length cg] 26)).alloc (.cells #[.int .i64 0, .slice none 0 0, .slice none 0 0, .slice none 0 0] 26)).alloc (.cells #[.int .i64 0, .slice none 0 0, .slice none 0 0, .slice none 0 0] 26)).alloc (.cells #[.int .i64 n.bits, v1, .slice none 0 0, .slice none 0 0] 26)) := by
  refine ⟨fun i u hu => mask_cell (Keeps.alloc _ _ _ _ (Keeps.alloc _ _ _ _ (Keeps.alloc _ _ _ _ (At.new w [.int .i64 n.bits, .slice ap n.ports.length cp, .slice at_ n.tables.length ct, .slice ag n.guards.length cg] 26 i u hu)))) (fun hb => by simp at hb; omega), ?_, ?_, ?_, fun b hb => ?_, ?_⟩
  · have := heap_alloc_new (w.alloc (.cells #[.int .i64 n.bits, .slice ap n.ports.length cp, .slice at_ n.tables.length ct, .slice ag n.guards.length cg] 26)) (.cells #[.int .i64 0, .slice none 0 0, .slice none 0 0, .slice none 0 0] 26)
    rw [Below.heap_alloc _ _ _ (by simp), Below.heap_alloc _ _ _ (by simp)]
    simpa using this
  · have := heap_alloc_new ((w.alloc (.cells #[.int .i64 n.bits, .slice ap n.ports.length cp, .slice at_ n.tables.length ct, .slice ag n.guards.length cg] 26)).alloc (.cells #[.int .i64 0, .slice none 0 0, .slice none 0 0, .slice none 0 0] 26)) (.cells #[.int .i64 0, .slice none 0 0, .slice none 0 0, .slice none 0 0] 26)
    rw [Below.heap_alloc _ _ _ (by simp)]
    simpa using this
  · have := heap_alloc_new (((w.alloc (.cells #[.int .i64 n.bits, .slice ap n.ports.length cp, .slice at_ n.tables.length ct, .slice ag n.guards.length cg] 26)).alloc (.cells #[.int .i64 0, .slice none 0 0, .slice none 0 0, .slice none 0 0] 26)).alloc (.cells #[.int .i64 0, .slice none 0 0, .slice none 0 0, .slice none 0 0] 26)) (.cells #[.int .i64 n.bits, v1, .slice none 0 0, .slice none 0 0] 26)
    simpa using this
  · simp at hb
    rcases hb with rfl | rfl | rfl <;> simp <;> omega
  · exact ((((Below.refl _ _).alloc (Nat.le_refl _) _).alloc (by simp) _).alloc (by simp; omega) _).alloc (by simp; omega) _
theorem roomPort_info : (Tryz.prog.info? 32).map (fun i => (i.zero, i.size, i.bytes)) = some (some (.agg #[.string ⟨#[]⟩, .int .i64 0, .bool false, .int .i64 0]), 4, 40) := by kernel_rfl

theorem box_one {α : Type} {sz : Nat} {E : World → List Value → α → Prop} (M : List Nat) (w : World) (hM : w.heap.size ∉ M) (t : TypeId) (cs : List Value) (x : α) (hcs : cs.length = sz) (hx : E (mask M (w.alloc (.cells cs.toArray t))) cs x) :
    Sl sz E (mask M (w.alloc (.cells cs.toArray t))) (.slice (some ⟨w.heap.size, 0, none⟩) 1 1) [x] := by
  refine ⟨_, _, rfl, Nat.le_refl _, by simp, fun i y hy => ?_⟩
  cases i with
  | succ i => simp at hy
  | zero =>
    simp at hy
    subst hy
    refine ⟨_, 0, cs, rfl, hcs, hx, fun j u hu => ?_⟩
    have := At.new w cs t j u hu
    exact mask_cell (by simpa using this) hM

set_option maxRecDepth 100000 in
set_option maxHeartbeats 16000000 in
theorem roomy_any (cs : List Value) (n : NetD) (w : World) (hn : netE w cs n) :
    Calls Tryz.prog 5 #[.agg cs.toArray] w fun e w' => (∃ c1 c2, e = .returned (.tuple #[.agg c1.toArray, .agg c2.toArray]) ∧ netR w' c1 n ∧ netK w' c2 n) ∧ Below w.heap.size w w' := by
  obtain ⟨vp, vt, vg, rfl, hbits, ⟨ap, cp, rfl, -, hp⟩, ⟨at_, ct, rfl, -, ht⟩, ⟨ag, cg, rfl, -, hg⟩⟩ := hn
  have hlt_ := ht.1
  have hlp_ := hp.1
  have hlg_ := hg.1
  have HB := Lib.hid hbits
  have HP := Lib.hid hp
  have HT := Lib.hid ht
  have HG := Lib.hid hg
  clear hbits hp ht hg
  have hmp := run_make_rows (P := Tryz.prog) 22 32 (.agg #[.string ⟨#[]⟩, .int .i64 0, .bool false, .int .i64 0]) 4 40 Tryz.underlying22 roomPort_info .i64 .i64 (n.ports.length + 1) (by omega) (by omega)
  have hmt := run_make_rows (P := Tryz.prog) 23 42 (.slice none 0 0) 1 24 Tryz.underlying23 table_info .i64 .i64 (n.tables.length + 1) (by omega) (by omega)
  have hmg := run_make_rows (P := Tryz.prog) 24 47 (.slice none 0 0) 1 24 Tryz.underlying24 guards_info .i64 .i64 (n.guards.length + 1) (by omega) (by omega)
  rw [show ((n.ports.length + 1 : Nat) : Int) = (n.ports.length : Int) + 1 by omega] at hmp
  rw [show ((n.tables.length + 1 : Nat) : Int) = (n.tables.length : Int) + 1 by omega] at hmt
  rw [show ((n.guards.length + 1 : Nat) : Int) = (n.guards.length : Int) + 1 by omega] at hmg
  simp only [Nat.mul_one] at hmt hmg
  have HMT := Lib.hid hmt
  have HMG := Lib.hid hmg
  clear hmt hmg
  have HS0 : Hid (RoomyS w [.int .i64 n.bits, .slice ap n.ports.length cp, .slice at_ n.tables.length ct, .slice ag n.guards.length cg] n ((w.heap.size + 1 + 1 + 1 + 1) :: [w.heap.size + 1 + 1 + 1, w.heap.size + 1 + 1, w.heap.size + 1]) (.slice (some ⟨(w.heap.size + 1 + 1 + 1 + 1), 0, none⟩) (n.ports.length + 1) (n.ports.length + 1)) (.slice none 0 0) (.slice none 0 0) (((((w.alloc (.cells #[.int .i64 n.bits, .slice ap n.ports.length cp, .slice at_ n.tables.length ct, .slice ag n.guards.length cg] 26)).alloc (.cells #[.int .i64 0, .slice none 0 0, .slice none 0 0, .slice none 0 0] 26)).alloc (.cells #[.int .i64 0, .slice none 0 0, .slice none 0 0, .slice none 0 0] 26)).alloc (.cells #[.int .i64 n.bits, (.slice (some ⟨(w.heap.size + 1 + 1 + 1 + 1), 0, none⟩) (n.ports.length + 1) (n.ports.length + 1)), .slice none 0 0, .slice none 0 0] 26)).alloc (.cells (madeCells #[.string ⟨#[]⟩, .int .i64 0, .bool false, .int .i64 0] ((n.ports.length + 1) * 4)) 32))) := by
    have := (roomy_start w n ap at_ ag cp ct cg (.slice (some ⟨(w.heap.size + 1 + 1 + 1 + 1), 0, none⟩) (n.ports.length + 1) (n.ports.length + 1))).make (.cells (madeCells #[.string ⟨#[]⟩, .int .i64 0, .bool false, .int .i64 0] ((n.ports.length + 1) * 4)) 32)
    simpa [Hid] using this
  have HF0 : Hid (Fill 4 portE ((w.heap.size + 1 + 1 + 1 + 1) :: [w.heap.size + 1 + 1 + 1, w.heap.size + 1 + 1, w.heap.size + 1]) 32 (((((w.alloc (.cells #[.int .i64 n.bits, .slice ap n.ports.length cp, .slice at_ n.tables.length ct, .slice ag n.guards.length cg] 26)).alloc (.cells #[.int .i64 0, .slice none 0 0, .slice none 0 0, .slice none 0 0] 26)).alloc (.cells #[.int .i64 0, .slice none 0 0, .slice none 0 0, .slice none 0 0] 26)).alloc (.cells #[.int .i64 n.bits, (.slice (some ⟨(w.heap.size + 1 + 1 + 1 + 1), 0, none⟩) (n.ports.length + 1) (n.ports.length + 1)), .slice none 0 0, .slice none 0 0] 26)).alloc (.cells (madeCells #[.string ⟨#[]⟩, .int .i64 0, .bool false, .int .i64 0] ((n.ports.length + 1) * 4)) 32)) (w.heap.size + 1 + 1 + 1 + 1) (n.ports ++ [pm1]) 0 (n.ports.length + 1)) := by
    have := Fill.new (w := ((((w.alloc (.cells #[.int .i64 n.bits, .slice ap n.ports.length cp, .slice at_ n.tables.length ct, .slice ag n.guards.length cg] 26)).alloc (.cells #[.int .i64 0, .slice none 0 0, .slice none 0 0, .slice none 0 0] 26)).alloc (.cells #[.int .i64 0, .slice none 0 0, .slice none 0 0, .slice none 0 0] 26)).alloc (.cells #[.int .i64 n.bits, (.slice (some ⟨(w.heap.size + 1 + 1 + 1 + 1), 0, none⟩) (n.ports.length + 1) (n.ports.length + 1)), .slice none 0 0, .slice none 0 0] 26))) (E := portE) (M := (w.heap.size + 1 + 1 + 1 + 1) :: [w.heap.size + 1 + 1 + 1, w.heap.size + 1 + 1, w.heap.size + 1]) (t := 32) (N := n.ports.length + 1) (sz := 4) (by simp) (madeCells #[.string ⟨#[]⟩, .int .i64 0, .bool false, .int .i64 0] ((n.ports.length + 1) * 4)) (by simp [size_madeCells]) (n.ports ++ [pm1])
    simpa [Hid] using this
  generalize hW : (((((w.alloc (.cells #[.int .i64 n.bits, .slice ap n.ports.length cp, .slice at_ n.tables.length ct, .slice ag n.guards.length cg] 26)).alloc (.cells #[.int .i64 0, .slice none 0 0, .slice none 0 0, .slice none 0 0] 26)).alloc (.cells #[.int .i64 0, .slice none 0 0, .slice none 0 0, .slice none 0 0] 26)).alloc (.cells #[.int .i64 n.bits, (.slice (some ⟨(w.heap.size + 1 + 1 + 1 + 1), 0, none⟩) (n.ports.length + 1) (n.ports.length + 1)), .slice none 0 0, .slice none 0 0] 26)).alloc (.cells (madeCells #[.string ⟨#[]⟩, .int .i64 0, .bool false, .int .i64 0] ((n.ports.length + 1) * 4)) 32)) = W at *
  go_enter Tryz.func5, Tryz.ntmps5
  go_wp2
  clear hW
  go_loopw [5] (fun i wr => ∃ k : Nat, k ≤ n.ports.length ∧ i = .int .i64 k ∧ Hid (RoomyS w [.int .i64 n.bits, .slice ap n.ports.length cp, .slice at_ n.tables.length ct, .slice ag n.guards.length cg] n ((w.heap.size + 1 + 1 + 1 + 1) :: [w.heap.size + 1 + 1 + 1, w.heap.size + 1 + 1, w.heap.size + 1]) (.slice (some ⟨(w.heap.size + 1 + 1 + 1 + 1), 0, none⟩) (n.ports.length + 1) (n.ports.length + 1)) (.slice none 0 0) (.slice none 0 0) wr) ∧ Hid (Fill 4 portE ((w.heap.size + 1 + 1 + 1 + 1) :: [w.heap.size + 1 + 1 + 1, w.heap.size + 1 + 1, w.heap.size + 1]) 32 wr ((w.heap.size + 1 + 1 + 1 + 1)) (n.ports ++ [pm1]) k (n.ports.length + 1))) (fun i _ => n.ports.length - (intOf i).toNat)
  case atStart => exact ⟨0, Nat.zero_le _, rfl, HS0, HF0⟩
  case round =>
    clear HS0 HF0 hmp
    obtain ⟨wp, rfl⟩ : ∃ wp : World, wp = wr := ⟨_, rfl⟩
    obtain ⟨k, hk, rfl, hz, hf⟩ := hrel
    have x1 := hz.out.cell 1 _ rfl
    have c1 := Joins.cell_of_block hz.out.copy 1
    simp only [List.getElem?_toArray, List.getElem?_cons_zero, List.getElem?_cons_succ] at c1
    by_cases hlt : k < n.ports.length
    · obtain ⟨b, o, rfl, e0, e1, e2, e3, hpn, hpb, hpt⟩ := ports_at HP.out hlt
      have hkk := Keeps.of_below hz.out.below
      have f0 := hkk _ _ e0
      have f1 := hkk _ _ e1
      have f2 := hkk _ _ e2
      have f3 := hkk _ _ e3
      clear hkk e0 e1 e2 e3
      have hi0 : (0 : Int) ≤ (k : Int) := by omega
      have hi1 : (k : Int) < (n.ports.length : Int) := by omega
      have hi2 : (k : Int) < (n.ports.length : Int) + 1 := by omega
      obtain ⟨y0, d0⟩ := hf.out.cell (i := k * 4) (by omega)
      obtain ⟨y1, d1⟩ := hf.out.cell (i := k * 4 + 1) (by omega)
      obtain ⟨y2, d2⟩ := hf.out.cell (i := k * 4 + 2) (by omega)
      obtain ⟨y3, d3⟩ := hf.out.cell (i := k * 4 + 3) (by omega)
      have z0 := hf.out.frozen (k * 4)
      have z1 := hf.out.frozen (k * 4 + 1)
      have z2 := hf.out.frozen (k * 4 + 2)
      have z3 := hf.out.frozen (k * 4 + 3)
      have HS := Lib.hid ((hf.out.keep (w' := wp.drew) (fun _ _ _ h => h) rfl portE_stays).set (cs := [.string n.ports[k].name, .int .i64 n.ports[k].box, .bool n.ports[k].inn, .int .i64 n.ports[k].to]) (by omega) rfl (fun x hx => by
        rw [List.getElem?_append_left hlt, List.getElem?_eq_getElem hlt] at hx
        cases hx
        exact ⟨rfl, hpn, hpb, hpt⟩) portE_stays)
      have HZ := Lib.hid ((hz.out.next (w' := wp.drew) (below_drewN (Below.refl _ _) 1)).cells ((w.heap.size + 1 + 1 + 1 + 1)) (by simp) (by omega) (k * 4) [.string n.ports[k].name, .int .i64 n.ports[k].box, .bool n.ports[k].inn, .int .i64 n.ports[k].to])
      generalize n.ports[k] = p at *
      simp only [World.setCells] at HS HZ
      clear hpn hpb hpt hz hf
      go_wp2_with fail
      go_still_tail 9, (by kernel_rfl)
      change wpList _ _ _ _ _ wp.drew
      go_wp2
      go_roundw
      case rel => exact ⟨k + 1, by omega, by go_num, HZ, HS⟩
      case measure => simp [intOf]; omega
    · obtain rfl : k = n.ports.length := by omega
      clear hlt hk
      obtain ⟨y0, d0⟩ := hf.out.cell (i := n.ports.length * 4) (by omega)
      obtain ⟨y1, d1⟩ := hf.out.cell (i := n.ports.length * 4 + 1) (by omega)
      obtain ⟨y2, d2⟩ := hf.out.cell (i := n.ports.length * 4 + 2) (by omega)
      obtain ⟨y3, d3⟩ := hf.out.cell (i := n.ports.length * 4 + 3) (by omega)
      have z0 := hf.out.frozen (n.ports.length * 4)
      have z1 := hf.out.frozen (n.ports.length * 4 + 1)
      have z2 := hf.out.frozen (n.ports.length * 4 + 2)
      have z3 := hf.out.frozen (n.ports.length * 4 + 3)
      have HS := hf.out.set (cs := [.string ⟨#[98, 101, 104, 105, 110, 100, 32, 116, 104, 101, 32, 101, 110, 100]⟩, .int .i64 0, .bool false, .int .i64 0]) (by omega) rfl (fun x hx => by
        rw [List.getElem?_append_right (Nat.le_refl _), Nat.sub_self] at hx
        cases hx
        exact ⟨rfl, by decide, (show I64 0 by unfold I64; omega), (show I64 0 by unfold I64; omega)⟩) portE_stays
      have HZ := hz.out.cells (w.heap.size + 1 + 1 + 1 + 1) (by simp) (by omega) (n.ports.length * 4) [.string ⟨#[98, 101, 104, 105, 110, 100, 32, 116, 104, 101, 32, 101, 110, 100]⟩, .int .i64 0, .bool false, .int .i64 0]
      simp only [World.setCells] at HS HZ
      generalize hW2 : ((((wp.setCell ⟨(w.heap.size + 1 + 1 + 1 + 1), n.ports.length * 4, none⟩ (.string ⟨#[98, 101, 104, 105, 110, 100, 32, 116, 104, 101, 32, 101, 110, 100]⟩)).setCell ⟨(w.heap.size + 1 + 1 + 1 + 1), n.ports.length * 4 + 1, none⟩ (.int .i64 0)).setCell ⟨(w.heap.size + 1 + 1 + 1 + 1), n.ports.length * 4 + 1 + 1, none⟩ (.bool false)).setCell ⟨(w.heap.size + 1 + 1 + 1 + 1), n.ports.length * 4 + 1 + 1 + 1, none⟩ (.int .i64 0)) = W2 at *
      have a1 := Joins.cell_of_block HZ.copy 1
      have a2 := Joins.cell_of_block HZ.copy 2
      have a3 := HZ.cell 1 _ rfl
      have a4 := HZ.cell 2 _ rfl
      have a5 := Joins.unfrozen_of_block HZ.copy 1
      simp only [List.getElem?_toArray, List.getElem?_cons_zero, List.getElem?_cons_succ] at a1 a2
      have HPR : Hid (RoomS 4 portE portE (mask ([w.heap.size + 1 + 1 + 1, w.heap.size + 1 + 1, w.heap.size + 1]) W2) (.slice (some ⟨(w.heap.size + 1 + 1 + 1 + 1), 0, none⟩) n.ports.length (n.ports.length + 1)) n.ports [pm1]) := roomS_same (HS.done (by simp) portE_stays ([w.heap.size + 1 + 1 + 1, w.heap.size + 1 + 1, w.heap.size + 1]) (fun b hb => List.mem_cons_of_mem _ hb) (by simp; omega)) (by simp) hlp_
      have HZ2 := HZ.down (M' := [w.heap.size + 1 + 1 + 1, w.heap.size + 1 + 1, w.heap.size + 1]) (fun b hb => List.mem_cons_of_mem _ hb)
      have HPR3 := Lib.hid (HPR.out.keep (mask_set ⟨w.heap.size + 1 + 1 + 1, 1, none⟩ (.slice (some ⟨(w.heap.size + 1 + 1 + 1 + 1), 0, none⟩) n.ports.length (n.ports.length + 1)) (by simp)) portE_stays portE_stays)
      have HZ3 := HZ2.set (by simp) 1 (.slice (some ⟨(w.heap.size + 1 + 1 + 1 + 1), 0, none⟩) n.ports.length (n.ports.length + 1)) rfl
      generalize hW3 : W2.setCell ⟨w.heap.size + 1 + 1 + 1, 1, none⟩ (.slice (some ⟨(w.heap.size + 1 + 1 + 1 + 1), 0, none⟩) n.ports.length (n.ports.length + 1)) = W3 at *
      have b2 := Joins.cell_of_block HZ3.copy 2
      have b4 := HZ3.cell 2 _ rfl
      have b5 := Joins.unfrozen_of_block HZ3.copy 2
      simp only [List.getElem?_toArray, List.getElem?_cons_zero, List.getElem?_cons_succ] at b2
      have hmt := HMT.out
      have HFP := Lib.hid HPR3.out
      clear HPR3
      clear HS HZ HZ2 HPR hz hf
      have FP := HFP
      clear HFP
  
      have HF4 := Lib.hid (Fill.new (w := W3) (E := Mix tableR tableE) (M := W3.heap.size :: [w.heap.size + 1 + 1 + 1, w.heap.size + 1 + 1, w.heap.size + 1]) (t := 42) (N := n.tables.length + 1) (sz := 1) (by simp) (madeCells #[.slice none 0 0] (n.tables.length + 1)) (by simp [size_madeCells]) (mixed n.tables [[em1]]))
      have HZ4 := HZ3.make (.cells (madeCells #[.slice none 0 0] (n.tables.length + 1)) 42)
      replace FP := Lib.hid (FP.out.keep (mask_more (M := [w.heap.size + 1 + 1 + 1, w.heap.size + 1 + 1, w.heap.size + 1]) (M' := W3.heap.size :: [w.heap.size + 1 + 1 + 1, w.heap.size + 1 + 1, w.heap.size + 1]) ((Keeps.alloc W3 (.cells (madeCells #[.slice none 0 0] (n.tables.length + 1)) 42)).x _) (fun b hb => by rcases List.mem_cons.1 hb with rfl | h; exact .inr (Nat.le_refl _); exact .inl h)) portE_stays portE_stays)
      generalize hW4 : W3.alloc (.cells (madeCells #[.slice none 0 0] (n.tables.length + 1)) 42) = W4 at *
      generalize hTT : W3.heap.size = T at *
      have q2 := Joins.cell_of_block HZ4.copy 2
      have q5 := Joins.unfrozen_of_block HZ4.copy 2
      simp only [List.getElem?_toArray, List.getElem?_cons_zero, List.getElem?_cons_succ] at q2
      have HT3 : Hid (w.heap.size + 1 + 1 + 1 < T) := by
        have := HZ3.lt
        unfold Hid
        omega
      have HZ5 := Lib.hid (HZ4.set (by simp) 2 (.slice (some ⟨T, 0, none⟩) (n.tables.length + 1) (n.tables.length + 1)) rfl)
      have HF5 := Lib.hid (HF4.out.keep (KeepsX.setCell W4 _ ⟨w.heap.size + 1 + 1 + 1, 2, none⟩ (.slice (some ⟨T, 0, none⟩) (n.tables.length + 1) (n.tables.length + 1)) (by simp)) (Below.heap_setCell W4 _ _ _ (by have := HT3.out; simp; omega)) (tableR_stays.mix tableE_stays))
      replace FP := Lib.hid (FP.out.keep (mask_set ⟨w.heap.size + 1 + 1 + 1, 2, none⟩ (.slice (some ⟨T, 0, none⟩) (n.tables.length + 1) (n.tables.length + 1)) (by simp)) portE_stays portE_stays)
      clear HF4
      go_wp2
      clear hW2 hW3 hW4 hTT a1 a2 a3 a4 a5 b2 b4 b5 q2 q5 HZ3 HZ4 hmt
      go_loopw [6] (fun i wr => ∃ k : Nat, k ≤ n.tables.length ∧ i = .int .i64 k ∧ Hid (RoomyS w [.int .i64 n.bits, .slice ap n.ports.length cp, .slice at_ n.tables.length ct, .slice ag n.guards.length cg] n (T :: [w.heap.size + 1 + 1 + 1, w.heap.size + 1 + 1, w.heap.size + 1]) (.slice (some ⟨(w.heap.size + 1 + 1 + 1 + 1), 0, none⟩) n.ports.length (n.ports.length + 1)) (.slice (some ⟨T, 0, none⟩) (n.tables.length + 1) (n.tables.length + 1)) (.slice none 0 0) wr) ∧ Hid (Fill 1 (Mix tableR tableE) (T :: [w.heap.size + 1 + 1 + 1, w.heap.size + 1 + 1, w.heap.size + 1]) 42 wr T (mixed n.tables [[em1]]) k (n.tables.length + 1)) ∧ Hid (RoomS 4 portE portE (mask (T :: [w.heap.size + 1 + 1 + 1, w.heap.size + 1 + 1, w.heap.size + 1]) wr) (.slice (some ⟨(w.heap.size + 1 + 1 + 1 + 1), 0, none⟩) n.ports.length (n.ports.length + 1)) n.ports [pm1])) (fun i _ => n.tables.length - (intOf i).toNat)
      case atStart => exact ⟨0, Nat.zero_le _, rfl, HZ5, HF5, FP⟩
      case round =>
        clear HZ5 HF5 FP
        obtain ⟨wp, rfl⟩ : ∃ wp : World, wp = wr := ⟨_, rfl⟩
        obtain ⟨k, hk, rfl, hz, hf, FP⟩ := hrel
        have x2 := hz.out.cell 2 _ rfl
        have c2 := Joins.cell_of_block hz.out.copy 2
        simp only [List.getElem?_toArray, List.getElem?_cons_zero, List.getElem?_cons_succ] at c2
        by_cases hlt : k < n.tables.length
        · obtain ⟨b, o, v, rfl, e1, s1⟩ := tables_at HT.out hlt
          have hkk := Keeps.of_below hz.out.below
          have hbw := cell_lt e1
          dsimp only at hbw
          have f1 := hkk _ _ e1
          obtain ⟨a1, ca1, rfl, s2⟩ := s1
          have HS1 : Hid (Sl 5 entryE wp.drew (.slice a1 n.tables[k].length ca1) n.tables[k]) := entries_keep (Keeps.drewN wp 1) (entries_keep hkk ⟨a1, ca1, rfl, s2⟩)
          clear hkk e1 s2
          have hi0 : (0 : Int) ≤ (k : Int) := by omega
          have hi1 : (k : Int) < (n.tables.length : Int) := by omega
          have hi2 : (k : Int) < (n.tables.length : Int) + 1 := by omega
          obtain ⟨y0, d0⟩ := hf.out.cell (i := k) (by omega)
          have HZF := Lib.hid (hf.out.frozen k)
          have hg := hf.out.lt
          have HMB : Hid (∀ b' ∈ T :: [w.heap.size + 1 + 1 + 1, w.heap.size + 1 + 1, w.heap.size + 1], b' < wp.drew.heap.size) := fun b' hb' => (hz.out.masked b' hb').2
          have HR := Lib.hid (roomTable_any _ n.tables[k] wp.drew HS1.out (T :: [w.heap.size + 1 + 1 + 1, w.heap.size + 1 + 1, w.heap.size + 1]) HMB.out)
          have HGB : Hid (w.heap.size < wp.heap.size) := by have := hz.out.lt; unfold Hid; omega
          have HT3' := HT3.out
          go_wp2_with fail
          go_region_held3 (fun w' => w'.cell? ⟨w.heap.size + 1 + 1 + 1, 2, none⟩ = some (.slice (some ⟨T, 0, none⟩) (n.tables.length + 1) (n.tables.length + 1)) ∧ w'.cell? ⟨w.heap.size, 2, none⟩ = some (.slice (some ⟨b, o, none⟩) n.tables.length ct) ∧ w'.cell? ⟨b, o + k, none⟩ = some (.slice a1 n.tables[k].length ca1))
            (first
              | exact ⟨c2, x2, f1⟩
              | exact ⟨(Keeps.of_below hb1) _ _ c2, (Keeps.of_below hb1) _ _ x2, (Keeps.of_below hb1) _ _ f1⟩
              | (refine ⟨?_, ?_, ?_⟩
                 · rw [World.cell?_setCell_other _ _ _ _ (by simp <;> omega)]
                   exact (Keeps.of_below hb1) _ _ c2
                 · rw [World.cell?_setCell_other _ _ _ _ (by simp <;> omega)]
                   exact (Keeps.of_below hb1) _ _ x2
                 · rw [World.cell?_setCell_other _ _ _ _ (by simp <;> omega)]
                   exact (Keeps.of_below hb1) _ _ f1))
            ((go_at_call 10; refine HR.out.mono ?_; rintro e w1 ⟨⟨v1, rfl, a2, cap2, rfl, hr1⟩, hb1⟩; have e0 := (Keeps.of_below hb1) _ _ d0; have z0 : w1.frozen? ⟨T, k, none⟩ = false := (World.frozen?_of_block (hb1.block _ hg)).trans HZF.out))
          have HS := (hf.out.keep (w' := wp.drew) (fun _ _ _ h => h) rfl (tableR_stays.mix tableE_stays)).below hb1 (tableR_stays.mix tableE_stays)
          have HS2 := Lib.hid (HS.set (cs := [.slice a2 n.tables[k].length cap2]) (by omega) rfl (fun x hx => by
            rw [mixed_left n.tables [[em1]] k n.tables[k] (List.getElem?_eq_getElem hlt)] at hx
            cases hx
            exact ⟨_, rfl, _, _, rfl, hr1⟩) (tableR_stays.mix tableE_stays))
          have HZ2 := Lib.hid (((hz.out.next (w' := wp.drew) (below_drewN (Below.refl _ _) 1)).next hb1).cells T (by simp) HT3.out (k * 1) [.slice a2 n.tables[k].length cap2])
          replace FP := Lib.hid (FP.out.keep (mask_drewN _ wp 1) portE_stays portE_stays)
          replace FP := Lib.hid (FP.out.keep (mask_below hb1) portE_stays portE_stays)
          replace FP := Lib.hid (FP.out.keep (mask_set ⟨T, k, none⟩ (.slice a2 n.tables[k].length cap2) (by simp)) portE_stays portE_stays)
          simp only [World.setCells, Nat.mul_one] at HS2 HZ2
          clear HS hr1 hb1 hz hf HR HS1 HMB HZF HGB
          go_wp2
          go_roundw
          case rel => exact ⟨k + 1, by omega, by go_num, HZ2, HS2, FP⟩
          case measure => simp [intOf]; omega
        · obtain rfl : k = n.tables.length := by omega
          clear hlt hk
          have hT3 := HT3.out
          have hwl := hz.out.lt
          have hgl := hf.out.lt
          have hMn : wp.heap.size ∉ T :: [w.heap.size + 1 + 1 + 1, w.heap.size + 1 + 1, w.heap.size + 1] := fun hb => by have := (hz.out.masked _ hb).2; omega
          have hbw : Below wp.heap.size wp (wp.alloc (.cells #[.string ⟨#[98, 101, 104, 105, 110, 100, 32, 116, 104, 101, 32, 101, 110, 100]⟩, .slice none 0 0, .slice none 0 0, .string ⟨#[]⟩, .slice none 0 0] 46)) := (Below.refl _ _).alloc (Nat.le_refl _) _
          have hbox : Sl 5 entryE (mask (T :: [w.heap.size + 1 + 1 + 1, w.heap.size + 1 + 1, w.heap.size + 1]) (wp.alloc (.cells #[.string ⟨#[98, 101, 104, 105, 110, 100, 32, 116, 104, 101, 32, 101, 110, 100]⟩, .slice none 0 0, .slice none 0 0, .string ⟨#[]⟩, .slice none 0 0] 46))) (.slice (some ⟨wp.heap.size, 0, none⟩) 1 1) [em1] :=
            box_one (T :: [w.heap.size + 1 + 1 + 1, w.heap.size + 1 + 1, w.heap.size + 1]) wp hMn 46 [.string ⟨#[98, 101, 104, 105, 110, 100, 32, 116, 104, 101, 32, 101, 110, 100]⟩, .slice none 0 0, .slice none 0 0, .string ⟨#[]⟩, .slice none 0 0] em1 rfl ⟨_, _, _, rfl, (by decide), (by decide), sl_nil _ _ _, sl_nil _ _ _, sl_nil _ _ _⟩
          have hf1 := hf.out.below hbw (tableR_stays.mix tableE_stays)
          obtain ⟨y0, d0⟩ := hf1.cell (i := n.tables.length) (by omega)
          have z0 := hf1.frozen n.tables.length
          have HS := hf1.set (cs := [.slice (some ⟨wp.heap.size, 0, none⟩) 1 1]) (by omega) rfl (fun x hx => by
            have hmr : (mixed n.tables [[em1]])[n.tables.length]? = some ([em1], false) := mixed_right n.tables [[em1]] 0 [em1] rfl
            rw [hmr] at hx
            cases hx
            exact ⟨_, rfl, hbox⟩) (tableR_stays.mix tableE_stays)
          have HZ := (hz.out.next hbw).cells T (by simp) hT3 (n.tables.length * 1) [.slice (some ⟨wp.heap.size, 0, none⟩) 1 1]
          replace FP := Lib.hid (FP.out.keep (mask_below hbw) portE_stays portE_stays)
          replace FP := Lib.hid (FP.out.keep (mask_set ⟨T, n.tables.length, none⟩ (.slice (some ⟨wp.heap.size, 0, none⟩) 1 1) (by simp)) portE_stays portE_stays)
          simp only [World.setCells, Nat.mul_one] at HS HZ
          generalize hW2 : (wp.alloc (.cells #[.string ⟨#[98, 101, 104, 105, 110, 100, 32, 116, 104, 101, 32, 101, 110, 100]⟩, .slice none 0 0, .slice none 0 0, .string ⟨#[]⟩, .slice none 0 0] 46)).setCell ⟨T, n.tables.length, none⟩ (.slice (some ⟨wp.heap.size, 0, none⟩) 1 1) = W2 at *
          have a1 := Joins.cell_of_block HZ.copy 2
          have a3 := HZ.cell 2 _ rfl
          have a5 := Joins.unfrozen_of_block HZ.copy 2
          have a2 := Joins.cell_of_block HZ.copy 3
          have a4 := HZ.cell 3 _ rfl
          simp only [List.getElem?_toArray, List.getElem?_cons_zero, List.getElem?_cons_succ] at a1 a2
          have FT : Hid (RoomS 1 tableR tableE (mask ([w.heap.size + 1 + 1 + 1, w.heap.size + 1 + 1, w.heap.size + 1]) W2) (.slice (some ⟨T, 0, none⟩) n.tables.length (n.tables.length + 1)) n.tables [[em1]]) := Lib.hid (RoomS.of (HS.done (by simp [mixed_length]) (tableR_stays.mix tableE_stays) ([w.heap.size + 1 + 1 + 1, w.heap.size + 1 + 1, w.heap.size + 1]) (fun b hb => List.mem_cons_of_mem _ hb) (by simp; omega)) (by simp) hlt_)
          have HZ2 := HZ.down (M' := [w.heap.size + 1 + 1 + 1, w.heap.size + 1 + 1, w.heap.size + 1]) (fun b hb => List.mem_cons_of_mem _ hb)
          replace FP := Lib.hid (FP.out.keep (mask_down (T :: [w.heap.size + 1 + 1 + 1, w.heap.size + 1 + 1, w.heap.size + 1]) W2 (M' := [w.heap.size + 1 + 1 + 1, w.heap.size + 1 + 1, w.heap.size + 1]) (fun b hb => List.mem_cons_of_mem _ hb)) portE_stays portE_stays)
          replace FT := Lib.hid (FT.out.keep (mask_set ⟨w.heap.size + 1 + 1 + 1, 2, none⟩ (.slice (some ⟨T, 0, none⟩) n.tables.length (n.tables.length + 1)) (by simp)) tableR_stays tableE_stays)
          replace FP := Lib.hid (FP.out.keep (mask_set ⟨w.heap.size + 1 + 1 + 1, 2, none⟩ (.slice (some ⟨T, 0, none⟩) n.tables.length (n.tables.length + 1)) (by simp)) portE_stays portE_stays)
          have HZ3 := HZ2.set (by simp) 2 (.slice (some ⟨T, 0, none⟩) n.tables.length (n.tables.length + 1)) rfl
          generalize hW3 : W2.setCell ⟨w.heap.size + 1 + 1 + 1, 2, none⟩ (.slice (some ⟨T, 0, none⟩) n.tables.length (n.tables.length + 1)) = W3 at *
          clear HS HZ HZ2 hz hf hbox hf1 hbw
          have b2 := Joins.cell_of_block HZ3.copy 3
          have b4 := HZ3.cell 3 _ rfl
          have b5 := Joins.unfrozen_of_block HZ3.copy 3
          simp only [List.getElem?_toArray, List.getElem?_cons_zero, List.getElem?_cons_succ] at b2
          have hmg := HMG.out
          have HF4 := Lib.hid (Fill.new (w := W3) (E := Mix guardsR guardsE) (M := W3.heap.size :: [w.heap.size + 1 + 1 + 1, w.heap.size + 1 + 1, w.heap.size + 1]) (t := 47) (N := n.guards.length + 1) (sz := 1) (by simp) (madeCells #[.slice none 0 0] (n.guards.length + 1)) (by simp [size_madeCells]) (mixed n.guards [[gm1]]))
          have HZ4 := HZ3.make (.cells (madeCells #[.slice none 0 0] (n.guards.length + 1)) 47)
          replace FP := Lib.hid (FP.out.keep (mask_more (M := [w.heap.size + 1 + 1 + 1, w.heap.size + 1 + 1, w.heap.size + 1]) (M' := W3.heap.size :: [w.heap.size + 1 + 1 + 1, w.heap.size + 1 + 1, w.heap.size + 1]) ((Keeps.alloc W3 (.cells (madeCells #[.slice none 0 0] (n.guards.length + 1)) 47)).x _) (fun b hb => by rcases List.mem_cons.1 hb with rfl | h; exact .inr (Nat.le_refl _); exact .inl h)) portE_stays portE_stays)
          replace FT := Lib.hid (FT.out.keep (mask_more (M := [w.heap.size + 1 + 1 + 1, w.heap.size + 1 + 1, w.heap.size + 1]) (M' := W3.heap.size :: [w.heap.size + 1 + 1 + 1, w.heap.size + 1 + 1, w.heap.size + 1]) ((Keeps.alloc W3 (.cells (madeCells #[.slice none 0 0] (n.guards.length + 1)) 47)).x _) (fun b hb => by rcases List.mem_cons.1 hb with rfl | h; exact .inr (Nat.le_refl _); exact .inl h)) tableR_stays tableE_stays)
          generalize hW4 : W3.alloc (.cells (madeCells #[.slice none 0 0] (n.guards.length + 1)) 47) = W4 at *
          generalize hTT : W3.heap.size = G at *
          have q2 := Joins.cell_of_block HZ4.copy 3
          have q5 := Joins.unfrozen_of_block HZ4.copy 3
          simp only [List.getElem?_toArray, List.getElem?_cons_zero, List.getElem?_cons_succ] at q2
          have HG3 : Hid (w.heap.size + 1 + 1 + 1 < G) := by
            have := HZ3.lt
            unfold Hid
            omega
          have HZ5 := Lib.hid (HZ4.set (by simp) 3 (.slice (some ⟨G, 0, none⟩) (n.guards.length + 1) (n.guards.length + 1)) rfl)
          have HF5 := Lib.hid (HF4.out.keep (KeepsX.setCell W4 _ ⟨w.heap.size + 1 + 1 + 1, 3, none⟩ (.slice (some ⟨G, 0, none⟩) (n.guards.length + 1) (n.guards.length + 1)) (by simp)) (Below.heap_setCell W4 _ _ _ (by have := HG3.out; simp; omega)) (guardsR_stays.mix guardsE_stays))
          replace FP := Lib.hid (FP.out.keep (mask_set ⟨w.heap.size + 1 + 1 + 1, 3, none⟩ (.slice (some ⟨G, 0, none⟩) (n.guards.length + 1) (n.guards.length + 1)) (by simp)) portE_stays portE_stays)
          replace FT := Lib.hid (FT.out.keep (mask_set ⟨w.heap.size + 1 + 1 + 1, 3, none⟩ (.slice (some ⟨G, 0, none⟩) (n.guards.length + 1) (n.guards.length + 1)) (by simp)) tableR_stays tableE_stays)
          clear HF4
          go_wp2
          clear hW2 hW3 hW4 hTT a1 a2 a3 a4 a5 b2 b4 b5 q2 q5 HZ3 HZ4 hmg
          go_loopw [7] (fun i wr => ∃ k : Nat, k ≤ n.guards.length ∧ i = .int .i64 k ∧ Hid (RoomyS w [.int .i64 n.bits, .slice ap n.ports.length cp, .slice at_ n.tables.length ct, .slice ag n.guards.length cg] n (G :: [w.heap.size + 1 + 1 + 1, w.heap.size + 1 + 1, w.heap.size + 1]) (.slice (some ⟨(w.heap.size + 1 + 1 + 1 + 1), 0, none⟩) n.ports.length (n.ports.length + 1)) (.slice (some ⟨T, 0, none⟩) n.tables.length (n.tables.length + 1)) (.slice (some ⟨G, 0, none⟩) (n.guards.length + 1) (n.guards.length + 1)) wr) ∧ Hid (Fill 1 (Mix guardsR guardsE) (G :: [w.heap.size + 1 + 1 + 1, w.heap.size + 1 + 1, w.heap.size + 1]) 47 wr G (mixed n.guards [[gm1]]) k (n.guards.length + 1)) ∧ Hid (RoomS 4 portE portE (mask (G :: [w.heap.size + 1 + 1 + 1, w.heap.size + 1 + 1, w.heap.size + 1]) wr) (.slice (some ⟨(w.heap.size + 1 + 1 + 1 + 1), 0, none⟩) n.ports.length (n.ports.length + 1)) n.ports [pm1]) ∧ Hid (RoomS 1 tableR tableE (mask (G :: [w.heap.size + 1 + 1 + 1, w.heap.size + 1 + 1, w.heap.size + 1]) wr) (.slice (some ⟨T, 0, none⟩) n.tables.length (n.tables.length + 1)) n.tables [[em1]])) (fun i _ => n.guards.length - (intOf i).toNat)
          case atStart => exact ⟨0, Nat.zero_le _, rfl, HZ5, HF5, FP, FT⟩
          case round =>
            clear HZ5 HF5 FP FT
            obtain ⟨wp, rfl⟩ : ∃ wp : World, wp = wr := ⟨_, rfl⟩
            obtain ⟨k, hk, rfl, hz, hf, FP, FT⟩ := hrel
            have x3 := hz.out.cell 3 _ rfl
            have c3 := Joins.cell_of_block hz.out.copy 3
            simp only [List.getElem?_toArray, List.getElem?_cons_zero, List.getElem?_cons_succ] at c3
            by_cases hlt : k < n.guards.length
            · obtain ⟨b, o, v, rfl, e1, s1⟩ := guardss_at HG.out hlt
              have hkk := Keeps.of_below hz.out.below
              have hbw := cell_lt e1
              dsimp only at hbw
              have f1 := hkk _ _ e1
              obtain ⟨a1, ca1, rfl, s2⟩ := s1
              have HS1 : Hid (Sl 2 guardE wp.drew (.slice a1 n.guards[k].length ca1) n.guards[k]) := guards_keep (Keeps.drewN wp 1) (guards_keep hkk ⟨a1, ca1, rfl, s2⟩)
              clear hkk e1 s2
              have hi0 : (0 : Int) ≤ (k : Int) := by omega
              have hi1 : (k : Int) < (n.guards.length : Int) := by omega
              have hi2 : (k : Int) < (n.guards.length : Int) + 1 := by omega
              obtain ⟨y0, d0⟩ := hf.out.cell (i := k) (by omega)
              have HZF := Lib.hid (hf.out.frozen k)
              have hg := hf.out.lt
              have HMB : Hid (∀ b' ∈ G :: [w.heap.size + 1 + 1 + 1, w.heap.size + 1 + 1, w.heap.size + 1], b' < wp.drew.heap.size) := fun b' hb' => (hz.out.masked b' hb').2
              have HR := Lib.hid (roomGuard_any _ n.guards[k] wp.drew HS1.out (G :: [w.heap.size + 1 + 1 + 1, w.heap.size + 1 + 1, w.heap.size + 1]) HMB.out)
              have HGB : Hid (w.heap.size < wp.heap.size) := by have := hz.out.lt; unfold Hid; omega
              have HG3' := HG3.out
              go_wp2_with fail
              go_region_held3 (fun w' => w'.cell? ⟨w.heap.size + 1 + 1 + 1, 3, none⟩ = some (.slice (some ⟨G, 0, none⟩) (n.guards.length + 1) (n.guards.length + 1)) ∧ w'.cell? ⟨w.heap.size, 3, none⟩ = some (.slice (some ⟨b, o, none⟩) n.guards.length cg) ∧ w'.cell? ⟨b, o + k, none⟩ = some (.slice a1 n.guards[k].length ca1))
                (first
                  | exact ⟨c3, x3, f1⟩
                  | exact ⟨(Keeps.of_below hb1) _ _ c3, (Keeps.of_below hb1) _ _ x3, (Keeps.of_below hb1) _ _ f1⟩
                  | (refine ⟨?_, ?_, ?_⟩
                     · rw [World.cell?_setCell_other _ _ _ _ (by simp <;> omega)]
                       exact (Keeps.of_below hb1) _ _ c3
                     · rw [World.cell?_setCell_other _ _ _ _ (by simp <;> omega)]
                       exact (Keeps.of_below hb1) _ _ x3
                     · rw [World.cell?_setCell_other _ _ _ _ (by simp <;> omega)]
                       exact (Keeps.of_below hb1) _ _ f1))
                ((go_at_call 11; refine HR.out.mono ?_; rintro e w1 ⟨⟨v1, rfl, a2, cap2, rfl, hr1⟩, hb1⟩; have e0 := (Keeps.of_below hb1) _ _ d0; have z0 : w1.frozen? ⟨G, k, none⟩ = false := (World.frozen?_of_block (hb1.block _ hg)).trans HZF.out))
              have HS := (hf.out.keep (w' := wp.drew) (fun _ _ _ h => h) rfl (guardsR_stays.mix guardsE_stays)).below hb1 (guardsR_stays.mix guardsE_stays)
              have HS2 := Lib.hid (HS.set (cs := [.slice a2 n.guards[k].length cap2]) (by omega) rfl (fun x hx => by
                rw [mixed_left n.guards [[gm1]] k n.guards[k] (List.getElem?_eq_getElem hlt)] at hx
                cases hx
                exact ⟨_, rfl, _, _, rfl, hr1⟩) (guardsR_stays.mix guardsE_stays))
              have HZ2 := Lib.hid (((hz.out.next (w' := wp.drew) (below_drewN (Below.refl _ _) 1)).next hb1).cells G (by simp) HG3.out (k * 1) [.slice a2 n.guards[k].length cap2])
              replace FP := Lib.hid (FP.out.keep (mask_drewN _ wp 1) portE_stays portE_stays)
              replace FT := Lib.hid (FT.out.keep (mask_drewN _ wp 1) tableR_stays tableE_stays)
              replace FP := Lib.hid (FP.out.keep (mask_below hb1) portE_stays portE_stays)
              replace FT := Lib.hid (FT.out.keep (mask_below hb1) tableR_stays tableE_stays)
              replace FP := Lib.hid (FP.out.keep (mask_set ⟨G, k, none⟩ (.slice a2 n.guards[k].length cap2) (by simp)) portE_stays portE_stays)
              replace FT := Lib.hid (FT.out.keep (mask_set ⟨G, k, none⟩ (.slice a2 n.guards[k].length cap2) (by simp)) tableR_stays tableE_stays)
              simp only [World.setCells, Nat.mul_one] at HS2 HZ2
              clear HS hr1 hb1 hz hf HR HS1 HMB HZF HGB
              go_wp2
              go_roundw
              case rel => exact ⟨k + 1, by omega, by go_num, HZ2, HS2, FP, FT⟩
              case measure => simp [intOf]; omega
            · obtain rfl : k = n.guards.length := by omega
              clear hlt hk
              have hG3 := HG3.out
              have hwl := hz.out.lt
              have hgl := hf.out.lt
              have hMn : wp.heap.size ∉ G :: [w.heap.size + 1 + 1 + 1, w.heap.size + 1 + 1, w.heap.size + 1] := fun hb => by have := (hz.out.masked _ hb).2; omega
              have hbw1 : Below wp.heap.size wp (wp.alloc (.cells #[.string ⟨#[98, 101, 104, 105, 110, 100, 32, 116, 104, 101, 32, 101, 110, 100]⟩] 9)) := (Below.refl _ _).alloc (Nat.le_refl _) _
              have hbw : Below wp.heap.size wp ((wp.alloc (.cells #[.string ⟨#[98, 101, 104, 105, 110, 100, 32, 116, 104, 101, 32, 101, 110, 100]⟩] 9)).alloc (.cells #[.bool false, .slice (some ⟨wp.heap.size, 0, none⟩) 1 1] 50)) := hbw1.alloc (by simp) _
              have hMn1 : wp.heap.size + 1 ∉ G :: [w.heap.size + 1 + 1 + 1, w.heap.size + 1 + 1, w.heap.size + 1] := fun hb => by have := (hz.out.masked _ hb).2; omega
              have hbox1 : Sl 1 strE (mask (G :: [w.heap.size + 1 + 1 + 1, w.heap.size + 1 + 1, w.heap.size + 1]) (wp.alloc (.cells #[.string ⟨#[98, 101, 104, 105, 110, 100, 32, 116, 104, 101, 32, 101, 110, 100]⟩] 9))) (.slice (some ⟨wp.heap.size, 0, none⟩) 1 1) [mark1] := text_box (G :: [w.heap.size + 1 + 1 + 1, w.heap.size + 1 + 1, w.heap.size + 1]) wp hMn 9 mark1 (by decide)
              have hbox : Sl 2 guardE (mask (G :: [w.heap.size + 1 + 1 + 1, w.heap.size + 1 + 1, w.heap.size + 1]) ((wp.alloc (.cells #[.string ⟨#[98, 101, 104, 105, 110, 100, 32, 116, 104, 101, 32, 101, 110, 100]⟩] 9)).alloc (.cells #[.bool false, .slice (some ⟨wp.heap.size, 0, none⟩) 1 1] 50))) (.slice (some ⟨wp.heap.size + 1, 0, none⟩) 1 1) [gm1] := by
                have := box_one (E := guardE) (sz := 2) (G :: [w.heap.size + 1 + 1 + 1, w.heap.size + 1 + 1, w.heap.size + 1]) (wp.alloc (.cells #[.string ⟨#[98, 101, 104, 105, 110, 100, 32, 116, 104, 101, 32, 101, 110, 100]⟩] 9)) (by simpa using hMn1) 50 [.bool false, .slice (some ⟨wp.heap.size, 0, none⟩) 1 1] gm1 rfl ⟨_, rfl, strs_keep ((Keeps.alloc _ _).x _).mask hbox1⟩
                simpa using this
              clear hbox1
              have hf1 := hf.out.below hbw (guardsR_stays.mix guardsE_stays)
              obtain ⟨y0, d0⟩ := hf1.cell (i := n.guards.length) (by omega)
              have z0 := hf1.frozen n.guards.length
              have HS := hf1.set (cs := [.slice (some ⟨wp.heap.size + 1, 0, none⟩) 1 1]) (by omega) rfl (fun x hx => by
                have hmr : (mixed n.guards [[gm1]])[n.guards.length]? = some ([gm1], false) := mixed_right n.guards [[gm1]] 0 [gm1] rfl
                rw [hmr] at hx
                cases hx
                exact ⟨_, rfl, hbox⟩) (guardsR_stays.mix guardsE_stays)
              have HZ := (hz.out.next hbw).cells G (by simp) hG3 (n.guards.length * 1) [.slice (some ⟨wp.heap.size + 1, 0, none⟩) 1 1]
              replace FP := Lib.hid (FP.out.keep (mask_below hbw) portE_stays portE_stays)
              replace FT := Lib.hid (FT.out.keep (mask_below hbw) tableR_stays tableE_stays)
              replace FP := Lib.hid (FP.out.keep (mask_set ⟨G, n.guards.length, none⟩ (.slice (some ⟨wp.heap.size + 1, 0, none⟩) 1 1) (by simp)) portE_stays portE_stays)
              replace FT := Lib.hid (FT.out.keep (mask_set ⟨G, n.guards.length, none⟩ (.slice (some ⟨wp.heap.size + 1, 0, none⟩) 1 1) (by simp)) tableR_stays tableE_stays)
              simp only [World.setCells, Nat.mul_one] at HS HZ
              generalize hW2 : ((wp.alloc (.cells #[.string ⟨#[98, 101, 104, 105, 110, 100, 32, 116, 104, 101, 32, 101, 110, 100]⟩] 9)).alloc (.cells #[.bool false, .slice (some ⟨wp.heap.size, 0, none⟩) 1 1] 50)).setCell ⟨G, n.guards.length, none⟩ (.slice (some ⟨wp.heap.size + 1, 0, none⟩) 1 1) = W2 at *
              have a1 := Joins.cell_of_block HZ.copy 3
              have a3 := HZ.cell 3 _ rfl
              have a5 := Joins.unfrozen_of_block HZ.copy 3
              have a2 := a1
              have a4 := a3
              simp only [List.getElem?_toArray, List.getElem?_cons_zero, List.getElem?_cons_succ] at a1 a2
              have FG : Hid (RoomS 1 guardsR guardsE (mask ([w.heap.size + 1 + 1 + 1, w.heap.size + 1 + 1, w.heap.size + 1]) W2) (.slice (some ⟨G, 0, none⟩) n.guards.length (n.guards.length + 1)) n.guards [[gm1]]) := Lib.hid (RoomS.of (HS.done (by simp [mixed_length]) (guardsR_stays.mix guardsE_stays) ([w.heap.size + 1 + 1 + 1, w.heap.size + 1 + 1, w.heap.size + 1]) (fun b hb => List.mem_cons_of_mem _ hb) (by simp; omega)) (by simp) hlg_)
              have HZ2 := HZ.down (M' := [w.heap.size + 1 + 1 + 1, w.heap.size + 1 + 1, w.heap.size + 1]) (fun b hb => List.mem_cons_of_mem _ hb)
              replace FP := Lib.hid (FP.out.keep (mask_down (G :: [w.heap.size + 1 + 1 + 1, w.heap.size + 1 + 1, w.heap.size + 1]) W2 (M' := [w.heap.size + 1 + 1 + 1, w.heap.size + 1 + 1, w.heap.size + 1]) (fun b hb => List.mem_cons_of_mem _ hb)) portE_stays portE_stays)
              replace FT := Lib.hid (FT.out.keep (mask_down (G :: [w.heap.size + 1 + 1 + 1, w.heap.size + 1 + 1, w.heap.size + 1]) W2 (M' := [w.heap.size + 1 + 1 + 1, w.heap.size + 1 + 1, w.heap.size + 1]) (fun b hb => List.mem_cons_of_mem _ hb)) tableR_stays tableE_stays)
              replace FG := Lib.hid (FG.out.keep (mask_set ⟨w.heap.size + 1 + 1 + 1, 3, none⟩ (.slice (some ⟨G, 0, none⟩) n.guards.length (n.guards.length + 1)) (by simp)) guardsR_stays guardsE_stays)
              replace FP := Lib.hid (FP.out.keep (mask_set ⟨w.heap.size + 1 + 1 + 1, 3, none⟩ (.slice (some ⟨G, 0, none⟩) n.guards.length (n.guards.length + 1)) (by simp)) portE_stays portE_stays)
              replace FT := Lib.hid (FT.out.keep (mask_set ⟨w.heap.size + 1 + 1 + 1, 3, none⟩ (.slice (some ⟨G, 0, none⟩) n.guards.length (n.guards.length + 1)) (by simp)) tableR_stays tableE_stays)
              have HZ3 := HZ2.set (by simp) 3 (.slice (some ⟨G, 0, none⟩) n.guards.length (n.guards.length + 1)) rfl
              generalize hW3 : W2.setCell ⟨w.heap.size + 1 + 1 + 1, 3, none⟩ (.slice (some ⟨G, 0, none⟩) n.guards.length (n.guards.length + 1)) = W3 at *
              clear HS HZ HZ2 hz hf hbox hf1 hbw
              have HNR : Hid (netR (mask ([w.heap.size + 1 + 1 + 1, w.heap.size + 1 + 1, w.heap.size + 1]) W3) [.int .i64 n.bits, (.slice (some ⟨(w.heap.size + 1 + 1 + 1 + 1), 0, none⟩) n.ports.length (n.ports.length + 1)), (.slice (some ⟨T, 0, none⟩) n.tables.length (n.tables.length + 1)), (.slice (some ⟨G, 0, none⟩) n.guards.length (n.guards.length + 1))] n) := ⟨_, _, _, rfl, HB.out, FP.out, FT.out, FG.out⟩
              have m0 := Joins.cell_of_block HZ3.copy 0
              have m1 := Joins.cell_of_block HZ3.copy 1
              have m2 := Joins.cell_of_block HZ3.copy 2
              have m3 := Joins.cell_of_block HZ3.copy 3
              simp only [List.getElem?_toArray, List.getElem?_cons_zero, List.getElem?_cons_succ] at m0 m1 m2 m3
              have HR1 := Lib.hid HZ3.r1
              have HR2 := Lib.hid HZ3.r2
              have HLT := HZ3.lt
              have HBW := Lib.hid HZ3.below
              have HMK := Lib.hid HZ3.masked
              have HNK : Hid (netK (mask ([w.heap.size + 1 + 1 + 1, w.heap.size + 1 + 1, w.heap.size + 1]) W3.drew) [.int .i64 n.bits, (.slice (some ⟨(w.heap.size + 1 + 1 + 1 + 1), 0, none⟩) n.ports.length (n.ports.length + 1)), (.slice (some ⟨T, 0, none⟩) n.tables.length (n.tables.length + 1)), (.slice (some ⟨G, 0, none⟩) n.guards.length (n.guards.length + 1))] n) := netK_stays _ _ (mask_drewN _ W3 1) _ _ (netR_K HNR.out)
              have HELD := Lib.hid (held_any _ n W3.drew ([w.heap.size + 1 + 1 + 1, w.heap.size + 1 + 1, w.heap.size + 1]) (fun b hb => HMK.out b hb |>.2) HNK.out)
              clear FP FT FG HZ3
              go_wp2_with fail
              clear hW2 hW3 a1 a2 a3 a4 a5
              go_region_held3 (fun w' => w'.cell? ⟨w.heap.size + 1 + 1 + 1, 0, none⟩ = some (.int .i64 n.bits) ∧ w'.cell? ⟨w.heap.size + 1 + 1 + 1, 1, none⟩ = some (.slice (some ⟨(w.heap.size + 1 + 1 + 1 + 1), 0, none⟩) n.ports.length (n.ports.length + 1)) ∧ w'.cell? ⟨w.heap.size + 1 + 1 + 1, 2, none⟩ = some (.slice (some ⟨T, 0, none⟩) n.tables.length (n.tables.length + 1)) ∧ w'.cell? ⟨w.heap.size + 1 + 1 + 1, 3, none⟩ = some (.slice (some ⟨G, 0, none⟩) n.guards.length (n.guards.length + 1)))
                (first
                  | (refine ⟨?_, ?_, ?_, ?_⟩ <;> (rw [World.cell?_setCell_other _ _ _ _ (by simp), World.cell?_setCell_other _ _ _ _ (by simp), World.cell?_setCell_other _ _ _ _ (by simp), World.cell?_setCell_other _ _ _ _ (by simp), World.cell?_setCell_other _ _ _ _ (by simp), World.cell?_setCell_other _ _ _ _ (by simp), World.cell?_setCell_other _ _ _ _ (by simp), World.cell?_setCell_other _ _ _ _ (by simp)]; assumption))
                  | (refine ⟨?_, ?_, ?_, ?_⟩ <;> (rw [World.cell?_setCell_other _ _ _ _ (by simp), World.cell?_setCell_other _ _ _ _ (by simp), World.cell?_setCell_other _ _ _ _ (by simp), World.cell?_setCell_other _ _ _ _ (by simp)]; assumption))
                  | exact ⟨m0, m1, m2, m3⟩
                  | exact ⟨k0, k1, k2, k3⟩)
                (first
                | (go_at_call 12; refine HELD.out.mono ?_; rintro e w1 ⟨⟨c2, rfl, vp2, vt2, vg2, rfl, hbits2, ⟨p2, pc2, rfl, hp1, hp2⟩, ⟨t2, tc2, rfl, ht1, ht2⟩, ⟨g2, gc2, rfl, hg1, hg2⟩⟩, hb1⟩
                   have HNK2 : Hid (netK (mask ([w.heap.size + 1 + 1 + 1, w.heap.size + 1 + 1, w.heap.size + 1]) w1) [.int .i64 n.bits, .slice p2 n.ports.length pc2, .slice t2 n.tables.length tc2, .slice g2 n.guards.length gc2] n) := ⟨_, _, _, rfl, hbits2, ⟨p2, pc2, rfl, hp1, hp2⟩, ⟨t2, tc2, rfl, ht1, ht2⟩, ⟨g2, gc2, rfl, hg1, hg2⟩⟩
                   have R1 := Lib.hid ((hb1.block _ (by show w.heap.size + 1 < W3.heap.size; omega)).trans HR1.out)
                   have R2 := Lib.hid ((hb1.block _ (by show w.heap.size + 1 + 1 < W3.heap.size; omega)).trans HR2.out)
                   have HB1 := Lib.hid (below_after (below_drewN HBW.out 1) (show w.heap.size ≤ W3.heap.size by omega) hb1)
                   have HKM := Lib.hid ((mask_drewN ([w.heap.size + 1 + 1 + 1, w.heap.size + 1 + 1, w.heap.size + 1]) W3 1).trans (mask_below hb1))
                   have HNR2 := Lib.hid (netR_stays _ _ HKM.out _ _ HNR.out)
                   have k0 := (Keeps.of_below hb1) _ _ m0
                   have k1 := (Keeps.of_below hb1) _ _ m1
                   have k2 := (Keeps.of_below hb1) _ _ m2
                   have k3 := (Keeps.of_below hb1) _ _ m3
                   clear hb1 hp1 hp2 ht1 ht2 hg1 hg2 hbits2 HELD HNK HNR HKM m0 m1 m2 m3 HR1 HR2 HBW HMK
                   have q0 := Joins.cell_of_block R1.out 0
                   have q1 := Joins.cell_of_block R1.out 1
                   have q2 := Joins.cell_of_block R1.out 2
                   have q3 := Joins.cell_of_block R1.out 3
                   have s0 := Joins.cell_of_block R2.out 0
                   have s1 := Joins.cell_of_block R2.out 1
                   have s2 := Joins.cell_of_block R2.out 2
                   have s3 := Joins.cell_of_block R2.out 3
                   have q4 := Joins.unfrozen_of_block R1.out 0
                   have q5 := Joins.unfrozen_of_block R1.out 1
                   have q6 := Joins.unfrozen_of_block R1.out 2
                   have q7 := Joins.unfrozen_of_block R1.out 3
                   have s4 := Joins.unfrozen_of_block R2.out 0
                   have s5 := Joins.unfrozen_of_block R2.out 1
                   have s6 := Joins.unfrozen_of_block R2.out 2
                   have s7 := Joins.unfrozen_of_block R2.out 3
                   simp only [List.getElem?_toArray, List.getElem?_cons_zero, List.getElem?_cons_succ] at q0 q1 q2 q3 s0 s1 s2 s3))
              have HKK : Hid (Keeps (mask ([w.heap.size + 1 + 1 + 1, w.heap.size + 1 + 1, w.heap.size + 1]) w1) (((((((((w1.setCell ⟨w.heap.size + 1, 0, none⟩ (.int .i64 n.bits)).setCell ⟨w.heap.size + 1, 1, none⟩ (.slice (some ⟨(w.heap.size + 1 + 1 + 1 + 1), 0, none⟩) n.ports.length (n.ports.length + 1))).setCell ⟨w.heap.size + 1, 2, none⟩ (.slice (some ⟨T, 0, none⟩) n.tables.length (n.tables.length + 1))).setCell ⟨w.heap.size + 1, 3, none⟩ (.slice (some ⟨G, 0, none⟩) n.guards.length (n.guards.length + 1))).setCell ⟨w.heap.size + 1 + 1, 0, none⟩ (.int .i64 n.bits)).setCell ⟨w.heap.size + 1 + 1, 1, none⟩ (.slice p2 n.ports.length pc2)).setCell ⟨w.heap.size + 1 + 1, 2, none⟩ (.slice t2 n.tables.length tc2)).setCell ⟨w.heap.size + 1 + 1, 3, none⟩ (.slice g2 n.guards.length gc2)))) := ((((((((mask_set ⟨w.heap.size + 1, 0, none⟩ (.int .i64 n.bits) (by simp)).trans (mask_set ⟨w.heap.size + 1, 1, none⟩ (.slice (some ⟨(w.heap.size + 1 + 1 + 1 + 1), 0, none⟩) n.ports.length (n.ports.length + 1)) (by simp))).trans (mask_set ⟨w.heap.size + 1, 2, none⟩ (.slice (some ⟨T, 0, none⟩) n.tables.length (n.tables.length + 1)) (by simp))).trans (mask_set ⟨w.heap.size + 1, 3, none⟩ (.slice (some ⟨G, 0, none⟩) n.guards.length (n.guards.length + 1)) (by simp))).trans (mask_set ⟨w.heap.size + 1 + 1, 0, none⟩ (.int .i64 n.bits) (by simp))).trans (mask_set ⟨w.heap.size + 1 + 1, 1, none⟩ (.slice p2 n.ports.length pc2) (by simp))).trans (mask_set ⟨w.heap.size + 1 + 1, 2, none⟩ (.slice t2 n.tables.length tc2) (by simp))).trans (mask_set ⟨w.heap.size + 1 + 1, 3, none⟩ (.slice g2 n.guards.length gc2) (by simp))).trans (mask_keeps _ _)
              have HBB : Hid (Below w.heap.size w (((((((((w1.setCell ⟨w.heap.size + 1, 0, none⟩ (.int .i64 n.bits)).setCell ⟨w.heap.size + 1, 1, none⟩ (.slice (some ⟨(w.heap.size + 1 + 1 + 1 + 1), 0, none⟩) n.ports.length (n.ports.length + 1))).setCell ⟨w.heap.size + 1, 2, none⟩ (.slice (some ⟨T, 0, none⟩) n.tables.length (n.tables.length + 1))).setCell ⟨w.heap.size + 1, 3, none⟩ (.slice (some ⟨G, 0, none⟩) n.guards.length (n.guards.length + 1))).setCell ⟨w.heap.size + 1 + 1, 0, none⟩ (.int .i64 n.bits)).setCell ⟨w.heap.size + 1 + 1, 1, none⟩ (.slice p2 n.ports.length pc2)).setCell ⟨w.heap.size + 1 + 1, 2, none⟩ (.slice t2 n.tables.length tc2)).setCell ⟨w.heap.size + 1 + 1, 3, none⟩ (.slice g2 n.guards.length gc2)))) := ((((((((HB1.out).setCell (by simp <;> omega) _).setCell (by simp <;> omega) _).setCell (by simp <;> omega) _).setCell (by simp <;> omega) _).setCell (by simp <;> omega) _).setCell (by simp <;> omega) _).setCell (by simp <;> omega) _).setCell (by simp <;> omega) _
              have HA1 : Hid ((((((w1.setCell ⟨w.heap.size + 1, 0, none⟩ (.int .i64 n.bits)).setCell ⟨w.heap.size + 1, 1, none⟩ (.slice (some ⟨(w.heap.size + 1 + 1 + 1 + 1), 0, none⟩) n.ports.length (n.ports.length + 1))).setCell ⟨w.heap.size + 1, 2, none⟩ (.slice (some ⟨T, 0, none⟩) n.tables.length (n.tables.length + 1))).setCell ⟨w.heap.size + 1, 3, none⟩ (.slice (some ⟨G, 0, none⟩) n.guards.length (n.guards.length + 1)))).heap[w.heap.size + 1]? = some (.cells #[(.int .i64 n.bits), (.slice (some ⟨(w.heap.size + 1 + 1 + 1 + 1), 0, none⟩) n.ports.length (n.ports.length + 1)), (.slice (some ⟨T, 0, none⟩) n.tables.length (n.tables.length + 1)), (.slice (some ⟨G, 0, none⟩) n.guards.length (n.guards.length + 1))] 26 (0, 0))) := Joins.block_setCell (Joins.block_setCell (Joins.block_setCell (Joins.block_setCell (R1.out) _) _) _) _
              have HA2 : Hid ((((((w1.setCell ⟨w.heap.size + 1, 0, none⟩ (.int .i64 n.bits)).setCell ⟨w.heap.size + 1, 1, none⟩ (.slice (some ⟨(w.heap.size + 1 + 1 + 1 + 1), 0, none⟩) n.ports.length (n.ports.length + 1))).setCell ⟨w.heap.size + 1, 2, none⟩ (.slice (some ⟨T, 0, none⟩) n.tables.length (n.tables.length + 1))).setCell ⟨w.heap.size + 1, 3, none⟩ (.slice (some ⟨G, 0, none⟩) n.guards.length (n.guards.length + 1)))).heap[w.heap.size + 1 + 1]? = some (.cells #[.int .i64 0, .slice none 0 0, .slice none 0 0, .slice none 0 0] 26 (0, 0))) := by
                unfold Hid
                rw [Below.heap_setCell _ _ _ _ (by simp), Below.heap_setCell _ _ _ _ (by simp), Below.heap_setCell _ _ _ _ (by simp), Below.heap_setCell _ _ _ _ (by simp)]
                exact R2.out
              have HB21 : Hid ((((((((((w1.setCell ⟨w.heap.size + 1, 0, none⟩ (.int .i64 n.bits)).setCell ⟨w.heap.size + 1, 1, none⟩ (.slice (some ⟨(w.heap.size + 1 + 1 + 1 + 1), 0, none⟩) n.ports.length (n.ports.length + 1))).setCell ⟨w.heap.size + 1, 2, none⟩ (.slice (some ⟨T, 0, none⟩) n.tables.length (n.tables.length + 1))).setCell ⟨w.heap.size + 1, 3, none⟩ (.slice (some ⟨G, 0, none⟩) n.guards.length (n.guards.length + 1))).setCell ⟨w.heap.size + 1 + 1, 0, none⟩ (.int .i64 n.bits)).setCell ⟨w.heap.size + 1 + 1, 1, none⟩ (.slice p2 n.ports.length pc2)).setCell ⟨w.heap.size + 1 + 1, 2, none⟩ (.slice t2 n.tables.length tc2)).setCell ⟨w.heap.size + 1 + 1, 3, none⟩ (.slice g2 n.guards.length gc2))).heap[w.heap.size + 1]? = some (.cells #[(.int .i64 n.bits), (.slice (some ⟨(w.heap.size + 1 + 1 + 1 + 1), 0, none⟩) n.ports.length (n.ports.length + 1)), (.slice (some ⟨T, 0, none⟩) n.tables.length (n.tables.length + 1)), (.slice (some ⟨G, 0, none⟩) n.guards.length (n.guards.length + 1))] 26 (0, 0))) := by
                unfold Hid
                rw [Below.heap_setCell _ _ _ _ (by simp), Below.heap_setCell _ _ _ _ (by simp), Below.heap_setCell _ _ _ _ (by simp), Below.heap_setCell _ _ _ _ (by simp)]
                exact HA1.out
              have HB22 : Hid ((((((((((w1.setCell ⟨w.heap.size + 1, 0, none⟩ (.int .i64 n.bits)).setCell ⟨w.heap.size + 1, 1, none⟩ (.slice (some ⟨(w.heap.size + 1 + 1 + 1 + 1), 0, none⟩) n.ports.length (n.ports.length + 1))).setCell ⟨w.heap.size + 1, 2, none⟩ (.slice (some ⟨T, 0, none⟩) n.tables.length (n.tables.length + 1))).setCell ⟨w.heap.size + 1, 3, none⟩ (.slice (some ⟨G, 0, none⟩) n.guards.length (n.guards.length + 1))).setCell ⟨w.heap.size + 1 + 1, 0, none⟩ (.int .i64 n.bits)).setCell ⟨w.heap.size + 1 + 1, 1, none⟩ (.slice p2 n.ports.length pc2)).setCell ⟨w.heap.size + 1 + 1, 2, none⟩ (.slice t2 n.tables.length tc2)).setCell ⟨w.heap.size + 1 + 1, 3, none⟩ (.slice g2 n.guards.length gc2))).heap[w.heap.size + 1 + 1]? = some (.cells #[(.int .i64 n.bits), (.slice p2 n.ports.length pc2), (.slice t2 n.tables.length tc2), (.slice g2 n.guards.length gc2)] 26 (0, 0))) := Joins.block_setCell (Joins.block_setCell (Joins.block_setCell (Joins.block_setCell HA2.out _) _) _) _
              clear q0 q1 q2 q3 q4 q5 q6 q7 s0 s1 s2 s3 s4 s5 s6 s7 k0 k1 k2 k3 HA1 HA2 HB1
              go_wp2
              have d0 := Joins.cell_of_block HB21.out 0
              have d1 := Joins.cell_of_block HB21.out 1
              have d2 := Joins.cell_of_block HB21.out 2
              have d3 := Joins.cell_of_block HB21.out 3
              have e0 := Joins.cell_of_block HB22.out 0
              have e1 := Joins.cell_of_block HB22.out 1
              have e2 := Joins.cell_of_block HB22.out 2
              have e3 := Joins.cell_of_block HB22.out 3
              simp only [List.getElem?_toArray, List.getElem?_cons_zero, List.getElem?_cons_succ] at d0 d1 d2 d3 e0 e1 e2 e3
              refine bodyPost_ret (v := .tuple #[.agg #[(.int .i64 n.bits), (.slice (some ⟨(w.heap.size + 1 + 1 + 1 + 1), 0, none⟩) n.ports.length (n.ports.length + 1)), (.slice (some ⟨T, 0, none⟩) n.tables.length (n.tables.length + 1)), (.slice (some ⟨G, 0, none⟩) n.guards.length (n.guards.length + 1))], .agg #[(.int .i64 n.bits), (.slice p2 n.ports.length pc2), (.slice t2 n.tables.length tc2), (.slice g2 n.guards.length gc2)]]) (by simp [results, Tryz.results5, go_sem, d0, d1, d2, d3, e0, e1, e2, e3]) rfl ⟨⟨_, _, rfl, ?_, ?_⟩, HBB.out⟩
              · exact netR_stays _ _ HKK.out _ _ HNR2.out
              · exact netK_stays _ _ HKK.out _ _ HNK2.out

end Go.Proofs.YtbklijcdmiffaaaGreatDoor
