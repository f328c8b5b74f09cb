/-
  Guards and tables, new, with marked room.
-/
import Derived.Test.YtbklijcdmiffaaaGreatDoorProg
import Derived.Test.YtbklijcdmiffaaaGreatDoorBase
import Derived.Test.YtbklijcdmiffaaaGreatDoorRoomA
import Derived.StillTailTactics
import Derived.Deep.RegionHeld3
import Derived.Deep.AppendLies
import Derived.WalkKit
import Derived.WalkSpells
import Derived.WalkLawsBesides
import Derived.Deep.QuietTactic
import Derived.BigQuiet
import Derived.Lib.Hide
import Derived.Deep.LoopGhost
namespace Go.Proofs.YtbklijcdmiffaaaGreatDoor
open Go.RowKit

/-- a guard line whose list has marked room -/
def guardR (w : World) (cs : List Value) (x : GuardD) : Prop := ∃ vc, cs = [.bool x.permit, vc] ∧ RoomS 1 strE strE w vc x.cubes [mark1, mark2]
/-- an entry whose lists have marked room -/
def entryR (w : World) (cs : List Value) (x : EntryD) : Prop :=
  ∃ vi vc vo, cs = [.string x.name, vi, vc, .string x.write, vo] ∧ x.name.size ≤ 1048576 ∧ x.write.size ≤ 1048576 ∧ RoomS 1 intE intE w vi x.ins [-4711, -4712] ∧ RoomS 1 strE strE w vc x.cubes [mark1, mark2] ∧ RoomS 1 intE intE w vo x.outs [-4711, -4712]
theorem guardE_stays : Stays guardE := fun _ _ hk cs x h => guardE_keep hk cs x h
theorem entryE_stays : Stays entryE := fun _ _ hk cs x h => entryE_keep hk cs x h
theorem guardR_stays : Stays guardR := fun _ _ hk _ _ ⟨vc, h1, h2⟩ => ⟨vc, h1, h2.keep hk strE_stays strE_stays⟩
theorem entryR_stays : Stays entryR := fun _ _ hk _ _ ⟨vi, vc, vo, h1, h2, h3, h4, h5, h6⟩ => ⟨vi, vc, vo, h1, h2, h3, h4.keep hk intE_stays intE_stays, h5.keep hk strE_stays strE_stays, h6.keep hk intE_stays intE_stays⟩
theorem guardR_plain {w : World} {cs : List Value} {x : GuardD} (h : guardR w cs x) : guardE w cs x := let ⟨vc, h1, h2⟩ := h; ⟨vc, h1, h2.sl (fun _ _ e => e)⟩
theorem entryR_plain {w : World} {cs : List Value} {x : EntryD} (h : entryR w cs x) : entryE w cs x :=
  let ⟨vi, vc, vo, h1, h2, h3, h4, h5, h6⟩ := h; ⟨vi, vc, vo, h1, h2, h3, h4.sl (fun _ _ e => e), h5.sl (fun _ _ e => e), h6.sl (fun _ _ e => e)⟩

theorem guard_info : (Tryz.prog.info? 50).map (fun i => (i.zero, i.size, i.bytes)) = some (some (.agg #[.bool false, .slice none 0 0]), 2, 32) := by kernel_rfl
def gm1 : GuardD := ⟨false, [mark1]⟩
def gm2 : GuardD := ⟨false, [mark2]⟩
theorem text_box (M : List Nat) (w : World) (hM : w.heap.size ∉ M) (t : TypeId) (s : ByteArray) (hs : s.size ≤ 1048576) : Sl 1 strE (mask M (w.alloc (.cells #[.string s] t))) (.slice (some ⟨w.heap.size, 0, none⟩) 1 1) [s] := by
  refine ⟨_, _, rfl, Nat.le_refl _, by simp, fun i x hx => ?_⟩
  cases i with
  | succ i => simp at hx
  | zero =>
    simp at hx
    subst hx
    refine ⟨_, 0, [.string s], rfl, rfl, ⟨rfl, hs⟩, fun j u hu => ?_⟩
    have := At.new w [.string s] t j u hu
    exact mask_cell (by simpa using this) hM
theorem guard_mark {M : List Nat} {t t' : TypeId} {wr : World} {g k N : Nat} {L : List (GuardD × Bool)} (hf : Fill 2 (Mix guardR guardE) M t wr g L k N) (hk : k < N) (s : ByteArray) (hs : s.size ≤ 1048576)
    (hx : L[k]? = some (⟨false, [s]⟩, false)) (hM : wr.heap.size ∉ M) : Fill 2 (Mix guardR guardE) M t ((wr.alloc (.cells #[.string s] t')).setCells g (k * 2) [.bool false, .slice (some ⟨wr.heap.size, 0, none⟩) 1 1]) g L (k + 1) N := by
  refine (hf.below ((Below.refl wr.heap.size wr).alloc (Nat.le_refl _) _) (guardR_stays.mix guardE_stays)).set hk rfl (fun x hx' => ?_) (guardR_stays.mix guardE_stays)
  rw [hx] at hx'
  cases hx'
  exact ⟨_, rfl, text_box M wr hM t' s hs⟩
/-- behind an alloc the row's cells are there, and may be written -/
theorem Fill.cells2 {α : Type} {sz : Nat} {E : World → List Value → α → Prop} {M : List Nat} {t : TypeId} {w : World} {g : Nat} {l : List α} {k N : Nat} (hf : Fill sz E M t w g l k N) (o : Obj) (i : Nat) (hi : i < N * sz) :
    (∃ u, (w.alloc o).cell? ⟨g, i, none⟩ = some u) ∧ (w.alloc o).frozen? ⟨g, i, none⟩ = false := by
  obtain ⟨u, hu⟩ := hf.cell hi
  exact ⟨⟨u, Keeps.alloc w o _ _ hu⟩, (World.frozen?_of_block (Below.heap_alloc w o g hf.lt)).trans (hf.frozen i)⟩
set_option maxRecDepth 100000 in
set_option maxHeartbeats 4000000 in
theorem roomGuard_any (A : Value) (l : List GuardD) (w : World) (ha : Sl 2 guardE w A l) (N : List Nat) (hN : ∀ b ∈ N, b < w.heap.size) :
    Calls Tryz.prog 11 #[A] w fun e w' => (∃ v, e = .returned v ∧ RoomS 2 guardR guardE (mask N w') v l [gm1, gm2]) ∧ Below w.heap.size w w' := by
  obtain ⟨a, ca, rfl, -, ha⟩ := ha
  have hla := ha.1
  have Ha := Lib.hid ha
  clear ha
  have hmk := run_make_rows (P := Tryz.prog) 47 50 (.agg #[.bool false, .slice none 0 0]) 2 32 Tryz.underlying47 guard_info .i64 .i64 (l.length + 2) (by omega) (by omega)
  have ec : ((l.length + 2 : Nat) : Int) = (l.length : Int) + 2 := by omega
  rw [ec] at hmk
  clear ec
  obtain ⟨M, HM⟩ : ∃ M : List Nat, Hid (M = w.heap.size :: N) := ⟨_, rfl⟩
  have HF : Hid (Fill 2 (Mix guardR guardE) M 50 (w.alloc (.cells (madeCells #[.bool false, .slice none 0 0] ((l.length + 2) * 2)) 50)) w.heap.size (mixed l [gm1, gm2]) 0 (l.length + 2)) := Fill.new (by rw [HM.out]; simp) _ (by simp [size_madeCells]) _
  have HB : Hid (Below w.heap.size w (w.alloc (.cells (madeCells #[.bool false, .slice none 0 0] ((l.length + 2) * 2)) 50))) := (Below.refl _ _).alloc (Nat.le_refl _) _
  generalize hW : w.alloc (.cells (madeCells #[.bool false, .slice none 0 0] ((l.length + 2) * 2)) 50) = W at *
  go_enter Tryz.func11, Tryz.ntmps11
  go_wp2
  go_loopw [4] (fun i wr => ∃ k : Nat, k ≤ l.length ∧ i = .int .i64 k ∧ Hid (Fill 2 (Mix guardR guardE) M 50 wr w.heap.size (mixed l [gm1, gm2]) k (l.length + 2)) ∧ Hid (Below w.heap.size w wr)) (fun i _ => l.length - (intOf i).toNat)
  case atStart => exact ⟨0, Nat.zero_le _, rfl, HF, HB⟩
  case round =>
    clear HF HB hmk
    obtain ⟨k, hk, rfl, hf, hb⟩ := hrel
    by_cases hlt : k < l.length
    · obtain ⟨b, o, vc, rfl, h1, h2, h3⟩ := guards_at Ha.out hlt
      have f1 := (Keeps.of_below hb.out) _ _ h1
      have f2 := (Keeps.of_below hb.out) _ _ h2
      have HC := Lib.hid (strs_keep (Keeps.of_below hb.out) h3)
      have hbw := cell_lt h1
      dsimp only at hbw
      clear h1 h2 h3
      have hI0 : (0 : Int) ≤ (k : Int) := by omega
      have hI1 : (k : Int) < (l.length : Int) := by omega
      have hI2 : (k : Int) < (l.length : Int) + 2 := by omega
      obtain ⟨x0, c0⟩ := hf.out.cell (i := k * 2) (by omega)
      obtain ⟨x1, c1⟩ := hf.out.cell (i := k * 2 + 1) (by omega)
      have hg := hf.out.lt
      have HR := Lib.hid (roomTexts_any vc l[k].cubes wr.drew (strs_keep (Keeps.drewN wr 1) HC.out) M (by
        rw [HM.out]
        intro b' hb'
        show b' < wr.heap.size
        have := hb.out.size
        have := hf.out.lt
        rcases List.mem_cons.1 hb' with rfl | h
        · omega
        · have := hN _ h
          omega))
      go_wp2_with fail
      go_region_held3 (fun w' => w'.cell? ⟨b, o + k * 2, none⟩ = some (.bool l[k].permit) ∧ w'.cell? ⟨b, o + k * 2 + 1, none⟩ = some vc)
        (first
          | exact ⟨f1, f2⟩
          | exact ⟨(Keeps.of_below hb1) _ _ f1, (Keeps.of_below hb1) _ _ f2⟩
          | (refine ⟨?_, ?_⟩
             · rw [World.cell?_setCell_other _ _ _ _ (by simp <;> omega), World.cell?_setCell_other _ _ _ _ (by simp <;> omega)]
               exact (Keeps.of_below hb1) _ _ f1
             · rw [World.cell?_setCell_other _ _ _ _ (by simp <;> omega), World.cell?_setCell_other _ _ _ _ (by simp <;> omega)]
               exact (Keeps.of_below hb1) _ _ f2))
        (first | (go_at_call 22; refine HR.out.mono ?_; rintro e w1 ⟨⟨v1, rfl, a1, cap1, rfl, hr1⟩, hb1⟩; have e0 := (Keeps.of_below hb1) _ _ c0; have e1 := (Keeps.of_below hb1) _ _ c1; have z0 : w1.frozen? ⟨w.heap.size, k * 2, none⟩ = false := (World.frozen?_of_block (hb1.block _ hg)).trans (hf.out.frozen _); have z1 : w1.frozen? ⟨w.heap.size, k * 2 + 1, none⟩ = false := (World.frozen?_of_block (hb1.block _ hg)).trans (hf.out.frozen _)))
      have HS : Hid (Fill 2 (Mix guardR guardE) M 50 (w1.setCells w.heap.size (k * 2) [.bool l[k].permit, .slice a1 l[k].cubes.length cap1]) w.heap.size (mixed l [gm1, gm2]) (k + 1) (l.length + 2)) :=
        ((hf.out.keep (w' := wr.drew) (fun _ _ _ h => h) rfl (guardR_stays.mix guardE_stays)).below hb1 (guardR_stays.mix guardE_stays)).set (by omega) rfl (fun x hx => by
          rw [mixed_left l [gm1, gm2] k l[k] (List.getElem?_eq_getElem hlt)] at hx
          cases hx
          exact ⟨_, rfl, _, _, rfl, hr1⟩) (guardR_stays.mix guardE_stays)
      have HB2 : Hid (Below w.heap.size w (w1.setCells w.heap.size (k * 2) [.bool l[k].permit, .slice a1 l[k].cubes.length cap1])) := ((below_after (below_drewN hb.out 1) hb.out.size hb1).setCell (Nat.le_refl _) _).setCell (Nat.le_refl _) _
      clear hr1 hb1 hf hb HR HC
      go_wp2
      go_roundw
      case rel => exact ⟨k + 1, by omega, by go_num, HS, HB2⟩
      case measure => simp [intOf]; omega
    · obtain rfl : k = l.length := by omega
      clear hlt hk
      have hMn : wr.heap.size ∉ M := by
        rw [HM.out]
        intro hb'
        have := hb.out.size
        have := hf.out.lt
        rcases List.mem_cons.1 hb' with h | h
        · omega
        · have := hN _ h
          omega
      obtain ⟨⟨x0, c0⟩, z0⟩ := hf.out.cells2 (.cells #[.string ⟨#[98, 101, 104, 105, 110, 100, 32, 116, 104, 101, 32, 101, 110, 100]⟩] 9) (l.length * 2) (by omega)
      obtain ⟨⟨x1, c1⟩, z1⟩ := hf.out.cells2 (.cells #[.string ⟨#[98, 101, 104, 105, 110, 100, 32, 116, 104, 101, 32, 101, 110, 100]⟩] 9) (l.length * 2 + 1) (by omega)
      have HS := guard_mark (t' := 9) hf.out (by omega) mark1 (by decide) (mixed_right l [gm1, gm2] 0 gm1 rfl) hMn
      have HB2 : Below w.heap.size w ((wr.alloc (.cells #[.string ⟨#[98, 101, 104, 105, 110, 100, 32, 116, 104, 101, 32, 101, 110, 100]⟩] 9)).setCells w.heap.size (l.length * 2) [.bool false, .slice (some ⟨wr.heap.size, 0, none⟩) 1 1]) := ((hb.out.alloc hb.out.size _).setCell (Nat.le_refl _) _).setCell (Nat.le_refl _) _
      have hsz : ((wr.alloc (.cells #[.string ⟨#[98, 101, 104, 105, 110, 100, 32, 116, 104, 101, 32, 101, 110, 100]⟩] 9)).setCells w.heap.size (l.length * 2) [.bool false, .slice (some ⟨wr.heap.size, 0, none⟩) 1 1]).heap.size = wr.heap.size + 1 := by simp [World.setCells]
      change Fill _ _ M _ (((wr.alloc (.cells #[.string ⟨#[98, 101, 104, 105, 110, 100, 32, 116, 104, 101, 32, 101, 110, 100]⟩] 9)).setCell ⟨w.heap.size, l.length * 2, none⟩ (.bool false)).setCell ⟨w.heap.size, l.length * 2 + 1, none⟩ (.slice (some ⟨wr.heap.size, 0, none⟩) 1 1)) _ _ _ _ at HS
      change Below _ _ (((wr.alloc (.cells #[.string ⟨#[98, 101, 104, 105, 110, 100, 32, 116, 104, 101, 32, 101, 110, 100]⟩] 9)).setCell ⟨w.heap.size, l.length * 2, none⟩ (.bool false)).setCell ⟨w.heap.size, l.length * 2 + 1, none⟩ (.slice (some ⟨wr.heap.size, 0, none⟩) 1 1)) at HB2
      change (((wr.alloc (.cells #[.string ⟨#[98, 101, 104, 105, 110, 100, 32, 116, 104, 101, 32, 101, 110, 100]⟩] 9)).setCell ⟨w.heap.size, l.length * 2, none⟩ (.bool false)).setCell ⟨w.heap.size, l.length * 2 + 1, none⟩ (.slice (some ⟨wr.heap.size, 0, none⟩) 1 1)).heap.size = _ at hsz
      generalize hW2 : (((wr.alloc (.cells #[.string ⟨#[98, 101, 104, 105, 110, 100, 32, 116, 104, 101, 32, 101, 110, 100]⟩] 9)).setCell ⟨w.heap.size, l.length * 2, none⟩ (.bool false)).setCell ⟨w.heap.size, l.length * 2 + 1, none⟩ (.slice (some ⟨wr.heap.size, 0, none⟩) 1 1)) = W2 at *
      have hMn2 : W2.heap.size ∉ M := by
        rw [HM.out, hsz]
        intro hb'
        have := hb.out.size
        have := hf.out.lt
        rcases List.mem_cons.1 hb' with h | h
        · omega
        · have := hN _ h
          omega
      obtain ⟨⟨x2, c2⟩, z2⟩ := HS.cells2 (.cells #[.string ⟨#[98, 101, 104, 105, 110, 100, 32, 116, 104, 101, 32, 101, 110, 100, 50]⟩] 9) ((l.length + 1) * 2) (by omega)
      obtain ⟨⟨x3, c3⟩, z3⟩ := HS.cells2 (.cells #[.string ⟨#[98, 101, 104, 105, 110, 100, 32, 116, 104, 101, 32, 101, 110, 100, 50]⟩] 9) ((l.length + 1) * 2 + 1) (by omega)
      have HS3 := Lib.hid (guard_mark (t' := 9) HS (by omega) mark2 (by decide) (mixed_right l [gm1, gm2] 1 gm2 rfl) hMn2)
      have HB3 : Hid (Below w.heap.size w ((W2.alloc (.cells #[.string ⟨#[98, 101, 104, 105, 110, 100, 32, 116, 104, 101, 32, 101, 110, 100, 50]⟩] 9)).setCells w.heap.size ((l.length + 1) * 2) [.bool false, .slice (some ⟨W2.heap.size, 0, none⟩) 1 1])) := ((HB2.alloc HB2.size _).setCell (Nat.le_refl _) _).setCell (Nat.le_refl _) _
      rw [hsz] at HS3 HB3
      clear HS HB2 hMn hMn2 hb hf
      go_wp2
      go_ret
      refine ⟨⟨_, rfl, RoomS.of ?_ (by simp) hla⟩, HB3.out⟩
      exact HS3.out.done (by simp [mixed_length]) (guardR_stays.mix guardE_stays) N (fun b hb => by rw [HM.out]; exact List.mem_cons_of_mem _ hb) (fun h => by have := hN _ h; omega)

theorem entry_info : (Tryz.prog.info? 46).map (fun i => (i.zero, i.size, i.bytes)) = some (some (.agg #[.string ⟨#[]⟩, .slice none 0 0, .slice none 0 0, .string ⟨#[]⟩, .slice none 0 0]), 5, 104) := by kernel_rfl
def em1 : EntryD := ⟨mark1, [], [], ⟨#[]⟩, []⟩
def em2 : EntryD := ⟨mark2, [], [], ⟨#[]⟩, []⟩
theorem entry_mark {M : List Nat} {t : TypeId} {wr : World} {g k N : Nat} {L : List (EntryD × Bool)} (hf : Fill 5 (Mix entryR entryE) M t wr g L k N) (hk : k < N) (s : ByteArray) (hs : s.size ≤ 1048576)
    (hx : L[k]? = some (⟨s, [], [], ⟨#[]⟩, []⟩, false)) : Fill 5 (Mix entryR entryE) M t (wr.setCells g (k * 5) [.string s, .slice none 0 0, .slice none 0 0, .string ⟨#[]⟩, .slice none 0 0]) g L (k + 1) N := by
  refine hf.set hk rfl (fun x hx' => ?_) (entryR_stays.mix entryE_stays)
  rw [hx] at hx'
  cases hx'
  exact ⟨_, _, _, rfl, hs, Nat.zero_le _, sl_nil _ _ _, sl_nil _ _ _, sl_nil _ _ _⟩
theorem Fill.cells1 {α : Type} {sz : Nat} {E : World → List Value → α → Prop} {M : List Nat} {t : TypeId} {w : World} {g : Nat} {l : List α} {k N : Nat} (hf : Fill sz E M t w g l k N) (i : Nat) (hi : i < N * sz) :
    (∃ u, w.cell? ⟨g, i, none⟩ = some u) ∧ w.frozen? ⟨g, i, none⟩ = false := ⟨hf.cell hi, hf.frozen i⟩
set_option maxRecDepth 100000 in
set_option maxHeartbeats 16000000 in
theorem roomTable_any (A : Value) (l : List EntryD) (w : World) (ha : Sl 5 entryE w A l) (N : List Nat) (hN : ∀ b ∈ N, b < w.heap.size) :
    Calls Tryz.prog 10 #[A] w fun e w' => (∃ v, e = .returned v ∧ RoomS 5 entryR entryE (mask N w') v l [em1, em2]) ∧ Below w.heap.size w w' := by
  obtain ⟨a, ca, rfl, -, ha⟩ := ha
  have hla := ha.1
  have Ha := Lib.hid ha
  clear ha
  have hmk := run_make_rows (P := Tryz.prog) 42 46 (.agg #[.string ⟨#[]⟩, .slice none 0 0, .slice none 0 0, .string ⟨#[]⟩, .slice none 0 0]) 5 104 Tryz.underlying42 entry_info .i64 .i64 (l.length + 2) (by omega) (by omega)
  have ec : ((l.length + 2 : Nat) : Int) = (l.length : Int) + 2 := by omega
  rw [ec] at hmk
  clear ec
  obtain ⟨M, HM⟩ : ∃ M : List Nat, Hid (M = w.heap.size :: N) := ⟨_, rfl⟩
  have HF : Hid (Fill 5 (Mix entryR entryE) M 46 (w.alloc (.cells (madeCells #[.string ⟨#[]⟩, .slice none 0 0, .slice none 0 0, .string ⟨#[]⟩, .slice none 0 0] ((l.length + 2) * 5)) 46)) w.heap.size (mixed l [em1, em2]) 0 (l.length + 2)) := Fill.new (by rw [HM.out]; simp) _ (by simp [size_madeCells]) _
  have HB : Hid (Below w.heap.size w (w.alloc (.cells (madeCells #[.string ⟨#[]⟩, .slice none 0 0, .slice none 0 0, .string ⟨#[]⟩, .slice none 0 0] ((l.length + 2) * 5)) 46))) := (Below.refl _ _).alloc (Nat.le_refl _) _
  generalize hW : w.alloc (.cells (madeCells #[.string ⟨#[]⟩, .slice none 0 0, .slice none 0 0, .string ⟨#[]⟩, .slice none 0 0] ((l.length + 2) * 5)) 46) = W at *
  have ES := Lib.hid (entryR_stays.mix entryE_stays)
  go_enter Tryz.func10, Tryz.ntmps10
  go_wp2
  go_loopw [4] (fun i wr => ∃ k : Nat, k ≤ l.length ∧ i = .int .i64 k ∧ Hid (Fill 5 (Mix entryR entryE) M 46 wr w.heap.size (mixed l [em1, em2]) k (l.length + 2)) ∧ Hid (Below w.heap.size w wr)) (fun i _ => l.length - (intOf i).toNat)
  case atStart => exact ⟨0, Nat.zero_le _, rfl, HF, HB⟩
  case round =>
    clear HF HB hmk
    obtain ⟨k, hk, rfl, hf, hb⟩ := hrel
    by_cases hlt : k < l.length
    · obtain ⟨b, o, vi, vc, vo, rfl, h0, h1, h2, h3, h4, hn1, hn2, h5, h6, h7⟩ := entries_at Ha.out hlt
      have f0 := (Keeps.of_below hb.out) _ _ h0
      have f1 := (Keeps.of_below hb.out) _ _ h1
      have f2 := (Keeps.of_below hb.out) _ _ h2
      have f3 := (Keeps.of_below hb.out) _ _ h3
      have f4 := (Keeps.of_below hb.out) _ _ h4
      have HI := Lib.hid (ints_keep (Keeps.of_below hb.out) h5)
      have HC := Lib.hid (strs_keep (Keeps.of_below hb.out) h6)
      have HO := Lib.hid (ints_keep (Keeps.of_below hb.out) h7)
      have hbw := cell_lt h1
      dsimp only at hbw
      clear h0 h1 h2 h3 h4 h5 h6 h7
      have hI0 : (0 : Int) ≤ (k : Int) := by omega
      have hI1 : (k : Int) < (l.length : Int) := by omega
      have hI2 : (k : Int) < (l.length : Int) + 2 := by omega
      obtain ⟨x0, c0⟩ := hf.out.cell (i := k * 5) (by omega)
      obtain ⟨x1, c1⟩ := hf.out.cell (i := k * 5 + 1) (by omega)
      obtain ⟨x2, c2⟩ := hf.out.cell (i := k * 5 + 2) (by omega)
      obtain ⟨x3, c3⟩ := hf.out.cell (i := k * 5 + 3) (by omega)
      obtain ⟨x4, c4⟩ := hf.out.cell (i := k * 5 + 4) (by omega)
      have hg := hf.out.lt
      have HMB : Hid (∀ b' ∈ M, b' < wr.heap.size) := by
        unfold Hid
        rw [HM.out]
        intro b' hb'
        have := hb.out.size
        rcases List.mem_cons.1 hb' with rfl | h
        · omega
        · have := hN _ h
          omega
      have HR := Lib.hid (roomInts_any vi l[k].ins wr.drew (ints_keep (Keeps.drewN wr 1) HI.out) M HMB.out)
      go_wp2_with fail
      go_region_held3 (fun w' => w'.cell? ⟨b, o + k * 5, none⟩ = some (.string l[k].name) ∧ w'.cell? ⟨b, o + k * 5 + 1, none⟩ = some vi ∧ w'.cell? ⟨b, o + k * 5 + 2, none⟩ = some vc ∧ w'.cell? ⟨b, o + k * 5 + 3, none⟩ = some (.string l[k].write) ∧ w'.cell? ⟨b, o + k * 5 + 4, none⟩ = some vo)
        (first
          | (refine ⟨?_, ?_, ?_, ?_, ?_⟩ <;> (rw [World.cell?_setCell_other _ _ _ _ (by simp <;> omega), World.cell?_setCell_other _ _ _ _ (by simp <;> omega), World.cell?_setCell_other _ _ _ _ (by simp <;> omega), World.cell?_setCell_other _ _ _ _ (by simp <;> omega), World.cell?_setCell_other _ _ _ _ (by simp <;> omega)]; assumption))
          | exact ⟨f0, f1, f2, f3, f4⟩
          | exact ⟨g0, g1, g2, g3, g4⟩
          | exact ⟨p0, p1, p2, p3, p4⟩
          | exact ⟨q0, q1, q2, q3, q4⟩)
        (first
          | (go_at_call 21; refine (roomInts_any vo l[k].outs w2 (ints_keep (((Keeps.drewN wr 1).trans (Keeps.of_below hb1)).trans (Keeps.of_below hb2)) HO.out) M (fun b' h' => Nat.lt_of_lt_of_le (HMB.out b' h') (Nat.le_trans hb1.size hb2.size))).mono ?_; rintro e w3 ⟨⟨v3, rfl, a3, cap3, rfl, hr3⟩, hb3⟩
             have hK := Keeps.of_below hb3; have q0 := hK _ _ p0; have q1 := hK _ _ p1; have q2 := hK _ _ p2; have q3 := hK _ _ p3; have q4 := hK _ _ p4
             have HBB : Hid (Below wr.heap.size wr w3) := ((below_drewN (Below.refl wr.heap.size wr) 1).trans hb1).trans ((hb2.mono hb1.size).trans (hb3.mono (Nat.le_trans hb1.size hb2.size)))
             have e0 := (Keeps.of_below HBB.out) _ _ c0; have e1 := (Keeps.of_below HBB.out) _ _ c1; have e2 := (Keeps.of_below HBB.out) _ _ c2; have e3 := (Keeps.of_below HBB.out) _ _ c3; have e4 := (Keeps.of_below HBB.out) _ _ c4
             have z0 : w3.frozen? ⟨w.heap.size, k * 5, none⟩ = false := (World.frozen?_of_block (HBB.out.block _ hg)).trans (hf.out.frozen _)
             have z1 : w3.frozen? ⟨w.heap.size, k * 5 + 1, none⟩ = false := (World.frozen?_of_block (HBB.out.block _ hg)).trans (hf.out.frozen _)
             have z2 : w3.frozen? ⟨w.heap.size, k * 5 + 2, none⟩ = false := (World.frozen?_of_block (HBB.out.block _ hg)).trans (hf.out.frozen _)
             have z3 : w3.frozen? ⟨w.heap.size, k * 5 + 3, none⟩ = false := (World.frozen?_of_block (HBB.out.block _ hg)).trans (hf.out.frozen _)
             have z4 : w3.frozen? ⟨w.heap.size, k * 5 + 4, none⟩ = false := (World.frozen?_of_block (HBB.out.block _ hg)).trans (hf.out.frozen _))
          | (go_at_call 22; refine (roomTexts_any vc l[k].cubes w1 (strs_keep ((Keeps.drewN wr 1).trans (Keeps.of_below hb1)) HC.out) M (fun b' h' => Nat.lt_of_lt_of_le (HMB.out b' h') hb1.size)).mono ?_; rintro e w2 ⟨⟨v2, rfl, a2, cap2, rfl, hr2⟩, hb2⟩
             have hK := Keeps.of_below hb2; have p0 := hK _ _ g0; have p1 := hK _ _ g1; have p2 := hK _ _ g2; have p3 := hK _ _ g3; have p4 := hK _ _ g4)
          | (go_at_call 21; refine HR.out.mono ?_; rintro e w1 ⟨⟨v1, rfl, a1, cap1, rfl, hr1⟩, hb1⟩
             have hK := Keeps.of_below hb1; have g0 := hK _ _ f0; have g1 := hK _ _ f1; have g2 := hK _ _ f2; have g3 := hK _ _ f3; have g4 := hK _ _ f4))
      have HS : Hid (Fill 5 (Mix entryR entryE) M 46 (w3.setCells w.heap.size (k * 5) [.string l[k].name, .slice a1 l[k].ins.length cap1, .slice a2 l[k].cubes.length cap2, .string l[k].write, .slice a3 l[k].outs.length cap3]) w.heap.size (mixed l [em1, em2]) (k + 1) (l.length + 2)) := by
        refine (hf.out.below HBB.out ES.out).set (by omega) rfl (fun x hx => ?_) ES.out
        rw [mixed_left l [em1, em2] k l[k] (List.getElem?_eq_getElem hlt)] at hx
        cases hx
        have k12 := ((Keeps.of_below hb2).x M).mask
        have k23 := ((Keeps.of_below hb3).x M).mask
        have r1 : RoomS 1 intE intE (mask M w1) (.slice a1 l[k].ins.length cap1) l[k].ins [-4711, -4712] := ⟨a1, cap1, rfl, hr1⟩
        have r2 : RoomS 1 strE strE (mask M w2) (.slice a2 l[k].cubes.length cap2) l[k].cubes [mark1, mark2] := ⟨a2, cap2, rfl, hr2⟩
        exact ⟨_, _, _, rfl, hn1, hn2, r1.keep (k12.trans k23) intE_stays intE_stays, r2.keep k23 strE_stays strE_stays, _, _, rfl, hr3⟩
      have HB2 : Hid (Below w.heap.size w (w3.setCells w.heap.size (k * 5) [.string l[k].name, .slice a1 l[k].ins.length cap1, .slice a2 l[k].cubes.length cap2, .string l[k].write, .slice a3 l[k].outs.length cap3])) := (((((below_after hb.out hb.out.size HBB.out).setCell (Nat.le_refl _) _).setCell (Nat.le_refl _) _).setCell (Nat.le_refl _) _).setCell (Nat.le_refl _) _).setCell (Nat.le_refl _) _
      change Hid (Fill 5 (Mix entryR entryE) M 46 (((((((((((w3).setCell ⟨w.heap.size, k * 5, none⟩ (.string l[k].name))).setCell ⟨w.heap.size, k * 5 + 1, none⟩ (.slice a1 l[k].ins.length cap1))).setCell ⟨w.heap.size, k * 5 + 2, none⟩ (.slice a2 l[k].cubes.length cap2))).setCell ⟨w.heap.size, k * 5 + 3, none⟩ (.string l[k].write))).setCell ⟨w.heap.size, k * 5 + 4, none⟩ (.slice a3 l[k].outs.length cap3))) _ _ _ _) at HS
      change Hid (Below _ _ (((((((((((w3).setCell ⟨w.heap.size, k * 5, none⟩ (.string l[k].name))).setCell ⟨w.heap.size, k * 5 + 1, none⟩ (.slice a1 l[k].ins.length cap1))).setCell ⟨w.heap.size, k * 5 + 2, none⟩ (.slice a2 l[k].cubes.length cap2))).setCell ⟨w.heap.size, k * 5 + 3, none⟩ (.string l[k].write))).setCell ⟨w.heap.size, k * 5 + 4, none⟩ (.slice a3 l[k].outs.length cap3)))) at HB2
      generalize ((((((((((w3).setCell ⟨w.heap.size, k * 5, none⟩ (.string l[k].name))).setCell ⟨w.heap.size, k * 5 + 1, none⟩ (.slice a1 l[k].ins.length cap1))).setCell ⟨w.heap.size, k * 5 + 2, none⟩ (.slice a2 l[k].cubes.length cap2))).setCell ⟨w.heap.size, k * 5 + 3, none⟩ (.string l[k].write))).setCell ⟨w.heap.size, k * 5 + 4, none⟩ (.slice a3 l[k].outs.length cap3)) = W2 at *
      clear hr1 hr2 hr3 hb1 hb2 hb3 hf hb HR HC HI HO HBB HMB
      go_wp2
      go_roundw
      case rel => exact ⟨k + 1, by omega, by go_num, HS, HB2⟩
      case measure => simp [intOf]; omega
    · obtain rfl : k = l.length := by omega
      clear hlt hk
      have HS := entry_mark hf.out (by omega) mark1 (by decide) (mixed_right l [em1, em2] 0 em1 rfl)
      have HB2 : Below w.heap.size w (wr.setCells w.heap.size (l.length * 5) [.string ⟨#[98, 101, 104, 105, 110, 100, 32, 116, 104, 101, 32, 101, 110, 100]⟩, .slice none 0 0, .slice none 0 0, .string ⟨#[]⟩, .slice none 0 0]) := ((((hb.out.setCell (Nat.le_refl _) _).setCell (Nat.le_refl _) _).setCell (Nat.le_refl _) _).setCell (Nat.le_refl _) _).setCell (Nat.le_refl _) _
      change Fill 5 (Mix entryR entryE) M 46 (((((((((((wr).setCell ⟨w.heap.size, l.length * 5, none⟩ (.string ⟨#[98, 101, 104, 105, 110, 100, 32, 116, 104, 101, 32, 101, 110, 100]⟩))).setCell ⟨w.heap.size, l.length * 5 + 1, none⟩ (.slice none 0 0))).setCell ⟨w.heap.size, l.length * 5 + 2, none⟩ (.slice none 0 0))).setCell ⟨w.heap.size, l.length * 5 + 3, none⟩ (.string ⟨#[]⟩))).setCell ⟨w.heap.size, l.length * 5 + 4, none⟩ (.slice none 0 0))) _ _ _ _ at HS
      change Below _ _ (((((((((((wr).setCell ⟨w.heap.size, l.length * 5, none⟩ (.string ⟨#[98, 101, 104, 105, 110, 100, 32, 116, 104, 101, 32, 101, 110, 100]⟩))).setCell ⟨w.heap.size, l.length * 5 + 1, none⟩ (.slice none 0 0))).setCell ⟨w.heap.size, l.length * 5 + 2, none⟩ (.slice none 0 0))).setCell ⟨w.heap.size, l.length * 5 + 3, none⟩ (.string ⟨#[]⟩))).setCell ⟨w.heap.size, l.length * 5 + 4, none⟩ (.slice none 0 0))) at HB2
      generalize hW2 : ((((((((((wr).setCell ⟨w.heap.size, l.length * 5, none⟩ (.string ⟨#[98, 101, 104, 105, 110, 100, 32, 116, 104, 101, 32, 101, 110, 100]⟩))).setCell ⟨w.heap.size, l.length * 5 + 1, none⟩ (.slice none 0 0))).setCell ⟨w.heap.size, l.length * 5 + 2, none⟩ (.slice none 0 0))).setCell ⟨w.heap.size, l.length * 5 + 3, none⟩ (.string ⟨#[]⟩))).setCell ⟨w.heap.size, l.length * 5 + 4, none⟩ (.slice none 0 0)) = W2 at *
      obtain ⟨⟨x0, c0⟩, z0⟩ := hf.out.cells1 (l.length * 5) (by omega)
      obtain ⟨⟨x1, c1⟩, z1⟩ := hf.out.cells1 (l.length * 5 + 1) (by omega)
      obtain ⟨⟨x2, c2⟩, z2⟩ := hf.out.cells1 (l.length * 5 + 2) (by omega)
      obtain ⟨⟨x3, c3⟩, z3⟩ := hf.out.cells1 (l.length * 5 + 3) (by omega)
      obtain ⟨⟨x4, c4⟩, z4⟩ := hf.out.cells1 (l.length * 5 + 4) (by omega)
      obtain ⟨⟨y0, d0⟩, t0⟩ := HS.cells1 ((l.length + 1) * 5) (by omega)
      obtain ⟨⟨y1, d1⟩, t1⟩ := HS.cells1 ((l.length + 1) * 5 + 1) (by omega)
      obtain ⟨⟨y2, d2⟩, t2⟩ := HS.cells1 ((l.length + 1) * 5 + 2) (by omega)
      obtain ⟨⟨y3, d3⟩, t3⟩ := HS.cells1 ((l.length + 1) * 5 + 3) (by omega)
      obtain ⟨⟨y4, d4⟩, t4⟩ := HS.cells1 ((l.length + 1) * 5 + 4) (by omega)
      have HS3 := Lib.hid (entry_mark HS (by omega) mark2 (by decide) (mixed_right l [em1, em2] 1 em2 rfl))
      have HB3 : Hid (Below w.heap.size w (W2.setCells w.heap.size ((l.length + 1) * 5) [.string ⟨#[98, 101, 104, 105, 110, 100, 32, 116, 104, 101, 32, 101, 110, 100, 50]⟩, .slice none 0 0, .slice none 0 0, .string ⟨#[]⟩, .slice none 0 0])) := ((((HB2.setCell (Nat.le_refl _) _).setCell (Nat.le_refl _) _).setCell (Nat.le_refl _) _).setCell (Nat.le_refl _) _).setCell (Nat.le_refl _) _
      change Hid (Fill 5 (Mix entryR entryE) M 46 (((((((((((W2).setCell ⟨w.heap.size, (l.length + 1) * 5, none⟩ (.string ⟨#[98, 101, 104, 105, 110, 100, 32, 116, 104, 101, 32, 101, 110, 100, 50]⟩))).setCell ⟨w.heap.size, (l.length + 1) * 5 + 1, none⟩ (.slice none 0 0))).setCell ⟨w.heap.size, (l.length + 1) * 5 + 2, none⟩ (.slice none 0 0))).setCell ⟨w.heap.size, (l.length + 1) * 5 + 3, none⟩ (.string ⟨#[]⟩))).setCell ⟨w.heap.size, (l.length + 1) * 5 + 4, none⟩ (.slice none 0 0))) _ _ _ _) at HS3
      change Hid (Below _ _ (((((((((((W2).setCell ⟨w.heap.size, (l.length + 1) * 5, none⟩ (.string ⟨#[98, 101, 104, 105, 110, 100, 32, 116, 104, 101, 32, 101, 110, 100, 50]⟩))).setCell ⟨w.heap.size, (l.length + 1) * 5 + 1, none⟩ (.slice none 0 0))).setCell ⟨w.heap.size, (l.length + 1) * 5 + 2, none⟩ (.slice none 0 0))).setCell ⟨w.heap.size, (l.length + 1) * 5 + 3, none⟩ (.string ⟨#[]⟩))).setCell ⟨w.heap.size, (l.length + 1) * 5 + 4, none⟩ (.slice none 0 0)))) at HB3
      generalize hW3 : ((((((((((W2).setCell ⟨w.heap.size, (l.length + 1) * 5, none⟩ (.string ⟨#[98, 101, 104, 105, 110, 100, 32, 116, 104, 101, 32, 101, 110, 100, 50]⟩))).setCell ⟨w.heap.size, (l.length + 1) * 5 + 1, none⟩ (.slice none 0 0))).setCell ⟨w.heap.size, (l.length + 1) * 5 + 2, none⟩ (.slice none 0 0))).setCell ⟨w.heap.size, (l.length + 1) * 5 + 3, none⟩ (.string ⟨#[]⟩))).setCell ⟨w.heap.size, (l.length + 1) * 5 + 4, none⟩ (.slice none 0 0)) = W3 at *
      clear HS HB2 hb hf
      go_wp2
      go_ret
      refine ⟨⟨_, rfl, RoomS.of ?_ (by simp) hla⟩, HB3.out⟩
      exact HS3.out.done (by simp [mixed_length]) ES.out N (fun b hb => by rw [HM.out]; exact List.mem_cons_of_mem _ hb) (fun h => by have := hN _ h; omega)
end Go.Proofs.YtbklijcdmiffaaaGreatDoor
