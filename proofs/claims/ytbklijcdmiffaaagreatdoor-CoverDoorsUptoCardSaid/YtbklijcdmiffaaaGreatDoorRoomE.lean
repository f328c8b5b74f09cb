/-
  Marked: do all marks stand?
-/
import Derived.Test.YtbklijcdmiffaaaGreatDoorProg
import Derived.Test.YtbklijcdmiffaaaGreatDoorBase
import Derived.Test.YtbklijcdmiffaaaGreatDoorRoomC
import Derived.Test.YtbklijcdmiffaaaGreatDoorEqn
import Derived.StillTailTactics
import Derived.IntWalk
import Derived.Deep.Cut
import Derived.WalkKit
import Derived.WalkSpells
import Derived.WalkLawsBesides
import Derived.Deep.QuietTactic
import Derived.BigQuiet
import Derived.Lib.Hide
import Derived.Deep.LoopGhost
namespace Go.Proofs.YtbklijcdmiffaaaGreatDoor
open Go.RowKit

set_option maxHeartbeats 1000000 in
theorem markInts_any (v : Value) (l : List Int) (w : World) (h : RoomS 1 intE intE w v l [-4711, -4712]) : Calls Tryz.prog 16 #[v] w fun e w' => e = .returned (.bool true) ∧ w = w' := by
  obtain ⟨a, cap, rfl, h1, h2, h3⟩ := h
  have h : RoomS 1 intE intE w (.slice a l.length cap) l [-4711, -4712] := ⟨a, cap, rfl, h1, h2, h3⟩
  obtain ⟨-, -, b, off, cs, rfl, -, ⟨rfl, -⟩, hc⟩ := h.mark (i := 0) rfl
  obtain ⟨-, -, b', off', cs', hb, -, ⟨rfl, -⟩, hc'⟩ := h.mark (i := 1) rfl
  injection hb with hb
  injection hb with e1 e2
  subst e1 e2
  have f0 : w.cell? ⟨b, off + l.length, none⟩ = some (.int .i64 (-4711)) := by
    have h := hc 0 _ rfl
    simp only [Nat.mul_one, Nat.add_zero] at h
    exact h
  have f1 : w.cell? ⟨b, off + (l.length + 1), none⟩ = some (.int .i64 (-4712)) := by
    have h := hc' 0 _ rfl
    simp only [Nat.mul_one, Nat.add_zero] at h
    exact h
  have f2 : w.cell? ⟨b, off + l.length + 1, none⟩ = some (.int .i64 (-4712)) := f1
  have hcap : (l.length : Int) + 2 ≤ (cap : Int) := by simp at h1; omega
  clear h hc hc' h1 h3
  go_enter Tryz.func16, Tryz.ntmps16
  go_wp2
  go_ret
  exact ⟨rfl, rfl⟩

set_option maxHeartbeats 1000000 in
theorem markTexts_any (v : Value) (l : List ByteArray) (w : World) (h : RoomS 1 strE strE w v l [mark1, mark2]) : Calls Tryz.prog 17 #[v] w fun e w' => e = .returned (.bool true) ∧ w = w' := by
  obtain ⟨a, cap, rfl, h1, h2, h3⟩ := h
  have h : RoomS 1 strE strE w (.slice a l.length cap) l [mark1, mark2] := ⟨a, cap, rfl, h1, h2, h3⟩
  obtain ⟨-, -, b, off, cs, rfl, -, ⟨rfl, -⟩, hc⟩ := h.mark (i := 0) rfl
  obtain ⟨-, -, b', off', cs', hb, -, ⟨rfl, -⟩, hc'⟩ := h.mark (i := 1) rfl
  injection hb with hb
  injection hb with e1 e2
  subst e1 e2
  have f0 : w.cell? ⟨b, off + l.length, none⟩ = some (.string ⟨#[98, 101, 104, 105, 110, 100, 32, 116, 104, 101, 32, 101, 110, 100]⟩) := by
    have h := hc 0 _ rfl
    simp only [Nat.mul_one, Nat.add_zero] at h
    exact h
  have f1 : w.cell? ⟨b, off + (l.length + 1), none⟩ = some (.string ⟨#[98, 101, 104, 105, 110, 100, 32, 116, 104, 101, 32, 101, 110, 100, 50]⟩) := by
    have h := hc' 0 _ rfl
    simp only [Nat.mul_one, Nat.add_zero] at h
    exact h
  have f2 : w.cell? ⟨b, off + l.length + 1, none⟩ = some (.string ⟨#[98, 101, 104, 105, 110, 100, 32, 116, 104, 101, 32, 101, 110, 100, 50]⟩) := f1
  have hcap : (l.length : Int) + 2 ≤ (cap : Int) := by simp at h1; omega
  clear h hc hc' h1 h3
  go_enter Tryz.func17, Tryz.ntmps17
  go_wp2
  go_ret
  exact ⟨rfl, rfl⟩

section
variable {α : Type} {sz : Nat} {E E' : World → List Value → α → Prop} {w : World} {a : Option Addr} {n cap : Nat} {l m : List α}
theorem RoomS.get (h : RoomS sz E E' w (.slice a n cap) l m) {k : Nat} (hk : k < l.length) : ∃ b off cs, a = some ⟨b, off, none⟩ ∧ cs.length = sz ∧ E w cs l[k] ∧ ∀ j u, cs[j]? = some u → w.cell? ⟨b, off + k * sz + j, none⟩ = some u := by
  obtain ⟨a', cap', hv, hc, hl, hs⟩ := h
  injection hv with h1 h2 h3
  subst h1 h3
  obtain ⟨b, off, cs, ha, hn, he, hcs⟩ := hs _ _ (mixed_left l m k l[k] (List.getElem?_eq_getElem hk))
  exact ⟨b, off, cs, ha, hn, by simpa [Mix] using he, hcs⟩
end
theorem tableR_marks {w : World} {a : Option Addr} {n cap : Nat} {l : List EntryD} (h : RoomS 5 entryR entryE w (.slice a n cap) l [em1, em2]) : n = l.length ∧ l.length ≤ 1048576 ∧ l.length + 2 ≤ cap ∧ ∃ b o a1 c1 a2 c2, a = some ⟨b, o, none⟩ ∧
    w.cell? ⟨b, o + l.length * 5, none⟩ = some (.string ⟨#[98, 101, 104, 105, 110, 100, 32, 116, 104, 101, 32, 101, 110, 100]⟩) ∧ w.cell? ⟨b, o + (l.length + 1) * 5, none⟩ = some (.string ⟨#[98, 101, 104, 105, 110, 100, 32, 116, 104, 101, 32, 101, 110, 100, 50]⟩) ∧
    w.cell? ⟨b, o + l.length * 5 + 2, none⟩ = some (.slice a1 0 c1) ∧ w.cell? ⟨b, o + (l.length + 1) * 5 + 2, none⟩ = some (.slice a2 0 c2) := by
  have hl := h
  obtain ⟨_, _, hv, -, hl, -⟩ := hl
  obtain ⟨h1, h2, b, o, cs, rfl, -, ⟨vi, vc, vo, rfl, -, -, -, ⟨a1, c1, rfl, -⟩, -⟩, hc⟩ := h.mark (i := 0) rfl
  obtain ⟨-, -, b', o', cs', hb, -, ⟨vi', vc', vo', rfl, -, -, -, ⟨a2, c2, rfl, -⟩, -⟩, hc'⟩ := h.mark (i := 1) rfl
  injection hb with hb
  injection hb with e1 e2
  subst e1 e2
  exact ⟨h1, hl, h2, b, o, a1, c1, a2, c2, rfl, hc 0 _ rfl, hc' 0 _ rfl, hc 2 _ rfl, hc' 2 _ rfl⟩
theorem one_text {w : World} {v : Value} {s : ByteArray} (h : Sl 1 strE w v [s]) : ∃ b o c, v = .slice (some ⟨b, o, none⟩) 1 c ∧ w.cell? ⟨b, o, none⟩ = some (.string s) := by
  obtain ⟨a, c, rfl, -, hs⟩ := h
  obtain ⟨b, o, rfl, h1, -⟩ := strs_at hs (k := 0) (by simp)
  exact ⟨b, o, c, rfl, by simpa using h1⟩
theorem guardsR_marks {w : World} {a : Option Addr} {n cap : Nat} {l : List GuardD} (h : RoomS 2 guardR guardE w (.slice a n cap) l [gm1, gm2]) : n = l.length ∧ l.length ≤ 1048576 ∧ l.length + 2 ≤ cap ∧ ∃ b o b1 o1 c1 b2 o2 c2, a = some ⟨b, o, none⟩ ∧
    w.cell? ⟨b, o + l.length * 2 + 1, none⟩ = some (.slice (some ⟨b1, o1, none⟩) 1 c1) ∧ w.cell? ⟨b, o + (l.length + 1) * 2 + 1, none⟩ = some (.slice (some ⟨b2, o2, none⟩) 1 c2) ∧
    w.cell? ⟨b1, o1, none⟩ = some (.string ⟨#[98, 101, 104, 105, 110, 100, 32, 116, 104, 101, 32, 101, 110, 100]⟩) ∧ w.cell? ⟨b2, o2, none⟩ = some (.string ⟨#[98, 101, 104, 105, 110, 100, 32, 116, 104, 101, 32, 101, 110, 100, 50]⟩) := by
  have hl := h
  obtain ⟨_, _, hv, -, hl, -⟩ := hl
  obtain ⟨h1, h2, b, o, cs, rfl, -, ⟨vc, rfl, hs⟩, hc⟩ := h.mark (i := 0) rfl
  obtain ⟨-, -, b', o', cs', hb, -, ⟨vc', rfl, hs'⟩, hc'⟩ := h.mark (i := 1) rfl
  injection hb with hb
  injection hb with e1 e2
  subst e1 e2
  obtain ⟨b1, o1, c1, rfl, q1⟩ := one_text hs
  obtain ⟨b2, o2, c2, rfl, q2⟩ := one_text hs'
  exact ⟨h1, hl, h2, b, o, b1, o1, c1, b2, o2, c2, rfl, hc 1 _ rfl, hc' 1 _ rfl, q1, q2⟩
set_option maxRecDepth 100000 in
set_option maxHeartbeats 8000000 in
theorem markLists_any (cs : List Value) (n : NetD) (w : World) (hn : netR w cs n) :
    Calls Tryz.prog 15 #[.agg cs.toArray] w fun e w' => e = .returned (.bool true) ∧ Below w.heap.size w w' := by
  obtain ⟨vp, vt, vg, rfl, -, ⟨ap, cp, rfl, -, hlp_, -⟩, hT, hG⟩ := hn
  obtain ⟨at_, ct, rfl, hct, hlt_, hT'⟩ := hT
  obtain ⟨ag, cg, rfl, hcg, hlg_, hG'⟩ := hG
  have HT : Hid (RoomS 1 tableR tableE w (.slice at_ n.tables.length ct) n.tables [[em1]]) := ⟨at_, ct, rfl, hct, hlt_, hT'⟩
  have HG : Hid (RoomS 1 guardsR guardsE w (.slice ag n.guards.length cg) n.guards [[gm1]]) := ⟨ag, cg, rfl, hcg, hlg_, hG'⟩
  clear hT' hG' hct hcg
  have HZ := Lib.hid (Boxes.one w [.int .i64 n.bits, .slice ap n.ports.length cp, .slice at_ n.tables.length ct, .slice ag n.guards.length cg] 26)
  go_enter Tryz.func15, Tryz.ntmps15
  go_wp2
  go_loopw [3, 4, 5] (fun i _ _ wr => ∃ k : Nat, k ≤ n.tables.length ∧ i = .int .i64 k ∧ Hid (Boxes w wr [[.int .i64 n.bits, .slice ap n.ports.length cp, .slice at_ n.tables.length ct, .slice ag n.guards.length cg]])) (fun i _ _ _ => n.tables.length - (intOf i).toNat)
  case atStart => exact ⟨0, Nat.zero_le _, rfl, HZ⟩
  case round =>
    clear HZ
    obtain ⟨k, hk, rfl, hz⟩ := hrel
    have x2 := hz.out.cell 0 2 _ _ rfl rfl
    have x3 := hz.out.cell 0 3 _ _ rfl rfl
    simp only [Nat.add_zero] at x2 x3
    by_cases hlt : k < n.tables.length
    · obtain ⟨b, o, cs, rfl, -, ⟨v, rfl, hr⟩, hc⟩ := HT.out.get hlt
      have f0 : w.cell? ⟨b, o + k, none⟩ = some v := by
        have h := hc 0 _ rfl
        simp only [Nat.mul_one, Nat.add_zero] at h
        exact h
      clear hc
      obtain ⟨a1, c1, rfl, hr1, hr2, hr3⟩ := hr
      have hr : RoomS 5 entryR entryE w (.slice a1 n.tables[k].length c1) n.tables[k] [em1, em2] := ⟨a1, c1, rfl, hr1, hr2, hr3⟩
      obtain ⟨-, hl2, hcap, b2, o2, a3, c3, a4, c4, rfl, g0, g1, g2, g3⟩ := tableR_marks hr
      replace f0 := hz.out.keeps _ _ f0
      replace g0 := hz.out.keeps _ _ g0
      replace g1 := hz.out.keeps _ _ g1
      replace g2 := hz.out.keeps _ _ g2
      replace g3 := hz.out.keeps _ _ g3
      clear hr hr1 hr2 hr3
      generalize n.tables[k] = T at *
      have hi0 : (0 : Int) ≤ (T.length : Int) := by omega
      have hi1 : (T.length : Int) < (T.length : Int) + 2 := by omega
      have hi2 : (0 : Int) ≤ (T.length : Int) + 1 := by omega
      have hi3 : (T.length : Int) + 1 < (T.length : Int) + 2 := by omega
      have hcI : (T.length : Int) + 2 ≤ (c1 : Int) := by omega
      have hz0 : IntKind.i64.wrap ((0 : Int) + 0) = 0 := by decide
      have hz1 : ((T.length : Int) + 1).toNat = T.length + 1 := by omega
      have hz2 : IntKind.i64.wrap ((T.length : Int) + 1) = (T.length : Int) + 1 := IntWalk.i64_in _ (by omega)
      go_upto_region 6 with (fail)
      go_quiet (fail)
      go_wp2
      go_roundw
      case rel => exact ⟨k + 1, by omega, by go_num, hz.out.quiet ⟨_, rfl⟩⟩
      case measure => simp [intOf]; omega
    · go_wp2
      clear hk hlt
      go_loopw [6, 7, 8] (fun i _ _ wr => ∃ k : Nat, k ≤ n.guards.length ∧ i = .int .i64 k ∧ Hid (Boxes w wr [[.int .i64 n.bits, .slice ap n.ports.length cp, .slice at_ n.tables.length ct, .slice ag n.guards.length cg]])) (fun i _ _ _ => n.guards.length - (intOf i).toNat)
      case atStart => exact ⟨0, Nat.zero_le _, rfl, hz⟩
      case round =>
        clear hz x2 x3
        obtain ⟨k, hk, rfl, hz⟩ := hrel
        have x3 := hz.out.cell 0 3 _ _ rfl rfl
        simp only [Nat.add_zero] at x3
        by_cases hlt : k < n.guards.length
        · obtain ⟨b, o, cs, rfl, -, ⟨v, rfl, hr⟩, hc⟩ := HG.out.get hlt
          have f0 : w.cell? ⟨b, o + k, none⟩ = some v := by
            have h := hc 0 _ rfl
            simp only [Nat.mul_one, Nat.add_zero] at h
            exact h
          clear hc
          obtain ⟨a1, c1, rfl, hr1, hr2, hr3⟩ := hr
          have hr : RoomS 2 guardR guardE w (.slice a1 n.guards[k].length c1) n.guards[k] [gm1, gm2] := ⟨a1, c1, rfl, hr1, hr2, hr3⟩
          obtain ⟨-, hl2, hcap, b2, o2, b3, o3, c3, b4, o4, c4, rfl, g0, g1, g2, g3⟩ := guardsR_marks hr
          replace f0 := hz.out.keeps _ _ f0
          replace g0 := hz.out.keeps _ _ g0
          replace g1 := hz.out.keeps _ _ g1
          replace g2 := hz.out.keeps _ _ g2
          replace g3 := hz.out.keeps _ _ g3
          clear hr hr1 hr2 hr3
          generalize n.guards[k] = T at *
          have hi0 : (0 : Int) ≤ (T.length : Int) := by omega
          have hi1 : (T.length : Int) < (T.length : Int) + 2 := by omega
          have hi2 : (0 : Int) ≤ (T.length : Int) + 1 := by omega
          have hi3 : (T.length : Int) + 1 < (T.length : Int) + 2 := by omega
          have hcI : (T.length : Int) + 2 ≤ (c1 : Int) := by omega
          have hz1 : ((T.length : Int) + 1).toNat = T.length + 1 := by omega
          go_wp2
          go_roundw
          case rel => exact ⟨k + 1, by omega, by go_num, hz⟩
          case measure => simp [intOf]; omega
        · go_wp2
          go_ret
          exact ⟨rfl, hz.out.2.1⟩

end Go.Proofs.YtbklijcdmiffaaaGreatDoor
