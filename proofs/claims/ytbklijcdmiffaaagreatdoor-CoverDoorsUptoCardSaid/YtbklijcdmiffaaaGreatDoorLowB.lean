/-
  lower: an entry of a network.
-/
import Derived.Test.YtbklijcdmiffaaaGreatDoorProg
import Derived.Test.YtbklijcdmiffaaaGreatDoorBase
import Derived.Test.YtbklijcdmiffaaaGreatDoorLowA
import Derived.StillTailTactics
import Derived.WalkKit
import Derived.WalkSpells
import Derived.WalkLawsBesides
import Derived.Deep.QuietTactic
import Derived.BigQuiet
import Derived.Lib.Hide
import Derived.Deep.LoopGhost
namespace Go.Proofs.YtbklijcdmiffaaaGreatDoor
open Go.RowKit

theorem getD_at {l : List Int} {k : Nat} {d : Int} (h : k < l.length) : l.getD k d = l[k] := by simp [List.getD, h]
theorem cubesOk_one {bits : Int} {s : ByteArray} : cubesOk bits [s] 1 ↔ (cubeOk s ∧ (s.size : Int) = bits) :=
  ⟨fun h => h.2 0 (by simp), fun h => ⟨by simp, fun k hk => by
    obtain rfl : k = 0 := by simpa using hk
    exact h⟩⟩
def insOk (n : NetD) (box : Int) (l : List Int) (m : Nat) : Prop := ∀ k (h : k < l.length), k < m → sideOk n.ports l[k] box true ∧ (∀ h0 : 0 < k, l[k - 1] < l[k])
def outsOk (n : NetD) (box : Int) (l : List Int) (m : Nat) : Prop := ∀ k (h : k < l.length), k < m → sideOk n.ports l[k] box false ∧ ∀ j (hj : j < k), l[j] ≠ l[k]
/-- the number ahead of place k, or -1 -/
def lastOf (l : List Int) (k : Nat) : Int := if k = 0 then -1 else l.getD (k - 1) (-1)
theorem insOk_succ {n : NetD} {box : Int} {l : List Int} {k : Nat} (h : insOk n box l k) (hk : k < l.length) (hs : sideOk n.ports l[k] box true) (hl : lastOf l k < l[k]) : insOk n box l (k + 1) := by
  intro j hj hjk
  by_cases e : j = k
  · subst e
    refine ⟨hs, fun h0 => ?_⟩
    unfold lastOf at hl
    rw [if_neg (by omega)] at hl
    rw [getD_at (by omega)] at hl
    exact hl
  · exact h j hj (by omega)
theorem insOk_last {n : NetD} {box : Int} {l : List Int} {k : Nat} (h : insOk n box l k) (hk : k ≤ l.length) : -1 ≤ lastOf l k := by
  unfold lastOf
  by_cases e : k = 0
  · rw [if_pos e]
    omega
  · rw [if_neg e, getD_at (by omega)]
    have := (h (k - 1) (by omega) (by omega)).1.1
    omega
theorem ins_no {n : NetD} {box : Int} {x : EntryD} {k : Nat} (hk : k < x.ins.length) (h : ¬ (sideOk n.ports x.ins[k] box true ∧ lastOf x.ins k < x.ins[k])) : ¬ entryOk n box x := fun he => h (by
  have := he.2.2.1 k hk
  refine ⟨this.1, ?_⟩
  unfold lastOf
  by_cases e : k = 0
  · rw [if_pos e]
    have := this.1.1
    omega
  · rw [if_neg e, getD_at (by omega)]
    exact this.2 (by omega))

set_option maxRecDepth 100000 in
set_option maxHeartbeats 4000000 in
theorem ventry_any (cs es : List Value) (n : NetD) (box : Int) (x : EntryD) (w : World) (hn : netE w cs n) (hx : entryE w es x) :
    Calls Tryz.prog 30 #[.agg cs.toArray, .int .i64 box, .agg es.toArray] w fun e w' => Tells (entryOk n box x) e ∧ Below w.heap.size w w' := by
  have HN := Lib.hid hn
  obtain ⟨vp, vt, vg, rfl, hbits, hp, -, -⟩ := hn
  obtain ⟨vi, vc, vo, rfl, hnm, hwr, hi, hc, ho⟩ := hx
  have HC := Lib.hid hc
  obtain ⟨ap, cp, rfl, -, hp⟩ := hp
  obtain ⟨ai, ci, rfl, -, hi⟩ := hi
  obtain ⟨ac, cc, rfl, -, -⟩ := hc
  obtain ⟨ao, co, rfl, hco, ho⟩ := ho
  have hli := hi.1
  have hlo := ho.1
  have hlp := hp.1
  have HI := Lib.hid hi
  have HO := Lib.hid ho
  have HP := Lib.hid hp
  clear hi ho hbits hp
  have hz := Lib.hid (Boxes.two w [.int .i64 n.bits, .slice ap n.ports.length cp, vt, vg] [.string x.name, .slice ai x.ins.length ci, .slice ac x.cubes.length cc, .string x.write, .slice ao x.outs.length co] 26 46)
  by_cases h1 : 256 < x.name.size
  · have HF : Hid (¬ entryOk n box x) := fun h => by have := h.1; omega
    go_enter Tryz.func30, Tryz.ntmps30
    go_wp2
    go_ret
    exact ⟨.no HF.out, hz.out.2.1⟩
  by_cases h2 : 4 < x.outs.length
  · have HF : Hid (¬ entryOk n box x) := fun h => by have := h.2.1; omega
    go_enter Tryz.func30, Tryz.ntmps30
    go_wp2
    go_ret
    exact ⟨.no HF.out, hz.out.2.1⟩
  have HV1 := Lib.hid (vcubes_any _ n _ x.cubes _ (netE_keep hz.out.keeps _ _ HN.out) (strs_keep hz.out.keeps HC.out))
  go_enter Tryz.func30, Tryz.ntmps30
  go_wp2_with fail
  refine HV1.out.mono ?_
  rintro e w1 ⟨ht, hb⟩
  have hz1 := Lib.hid (hz.out.next hb)
  clear hb hz HV1
  rcases ht.cases with ⟨rfl, hc⟩ | ⟨rfl, hc⟩
  · have HCC := Lib.hid hc
    clear hc
    have n0 := hz1.out.cell 0 0 _ _ rfl rfl
    have n1 := hz1.out.cell 0 1 _ _ rfl rfl
    have n2 := hz1.out.cell 0 2 _ _ rfl rfl
    have n3 := hz1.out.cell 0 3 _ _ rfl rfl
    simp only [Nat.add_zero] at n0 n1 n2 n3
    have d3 := hz1.out.cell 1 3 _ _ rfl rfl
    have HV2 := Lib.hid (vcube_any _ n x.write w1 (netE_keep hz1.out.keeps _ _ HN.out) hwr)
    go_wp2_with fail
    refine HV2.out.mono ?_
    rintro e w2 ⟨ht2, hb⟩
    have hz2 := Lib.hid (hz1.out.next hb)
    clear hb HV2 n0 n1 n2 n3 d3 hz1
    rcases ht2.cases with ⟨rfl, hc⟩ | ⟨rfl, hc⟩
    · have HCW := Lib.hid (cubesOk_one.2 hc)
      clear hc
      have d1 := hz2.out.cell 1 1 _ _ rfl rfl
      go_wp2
      go_loopw [7, 9, 41] (fun la _ i wr => ∃ k : Nat, k ≤ x.ins.length ∧ i = .int .i64 k ∧ la = .int .i64 (lastOf x.ins k) ∧ Hid (insOk n box x.ins k) ∧ Hid (Boxes w wr [[.int .i64 n.bits, .slice ap n.ports.length cp, vt, vg], [.string x.name, .slice ai x.ins.length ci, .slice ac x.cubes.length cc, .string x.write, .slice ao x.outs.length co]])) (fun _ _ i _ => x.ins.length - (intOf i).toNat)
      case atStart => exact ⟨0, Nat.zero_le _, rfl, rfl, fun j _ h => absurd h (by omega), hz2⟩
      case round =>
        clear hz2 d1
        obtain ⟨k, hk, rfl, rfl, hq, hz⟩ := hrel
        have hlast := insOk_last hq.out hk
        by_cases hlt : k < x.ins.length
        · obtain ⟨b, o, rfl, hcell, hint⟩ := ints_at HI.out hlt
          have hcell' := hz.out.keeps _ _ hcell
          have m1 := hz.out.cell 0 1 _ _ rfl rfl
          simp only [Nat.add_zero] at m1
          have HNO := Lib.hid (ins_no (n := n) (box := box) hlt)
          have HSU := Lib.hid (insOk_succ hq.out hlt)
          generalize hPe : x.ins[k] = P at *
          generalize lastOf x.ins k = L at *
          have HPE := Lib.hid hPe
          have HINT := Lib.hid hint
          clear hint hPe
          by_cases c1 : P ≤ L
          · have HF : Hid (¬ entryOk n box x) := HNO.out fun h => by have := h.2; omega
            go_wp2
            go_ret
            exact ⟨.no HF.out, hz.out.2.1⟩
          by_cases c2 : (n.ports.length : Int) ≤ P
          · have HF : Hid (¬ entryOk n box x) := HNO.out fun h => by obtain ⟨_, h, _⟩ := h.1; omega
            go_wp2
            go_ret
            exact ⟨.no HF.out, hz.out.2.1⟩
          have hP0 : 0 ≤ P := by omega
          have hPl : P.toNat < n.ports.length := by omega
          obtain ⟨b0, o0, rfl, -, e1, e2, -⟩ := ports_at HP.out hPl
          have e1' := hz.out.keeps _ _ e1
          have e2' := hz.out.keeps _ _ e2
          clear e1 e2
          have HS : Hid (sideOk n.ports P box true ↔ (n.ports[P.toNat].box = box ∧ n.ports[P.toNat].inn = true)) := ⟨fun ⟨_, _, h⟩ => h, fun h => ⟨hP0, hPl, h⟩⟩
          generalize n.ports[P.toNat].box = bo at *
          generalize n.ports[P.toNat].inn = bi at *
          cases bi with
          | false =>
            have HF : Hid (¬ entryOk n box x) := HNO.out fun h => by have := (HS.out.1 h.1).2; cases this
            go_wp2
            go_ret
            exact ⟨.no HF.out, hz.out.2.1⟩
          | true =>
            by_cases c3 : bo = box
            · have c3' : (bo != box) = false := by simp [c3]
              have HQ : Hid (insOk n box x.ins (k + 1)) := HSU.out (HS.out.2 ⟨c3, rfl⟩) (by omega)
              have HL : Hid (P = lastOf x.ins (k + 1)) := by
                unfold Hid lastOf
                rw [if_neg (by omega), Nat.add_sub_cancel, getD_at hlt, HPE.out]
              clear c3
              go_wp2
              go_roundw
              case rel => exact ⟨k + 1, by omega, by go_num, by rw [← HL.out], HQ, hz⟩
              case measure => simp [intOf]; omega
            · have c3' : (bo != box) = true := by simpa using c3
              have HF : Hid (¬ entryOk n box x) := HNO.out fun h => c3 (HS.out.1 h.1).1
              clear c3
              go_wp2
              go_ret
              exact ⟨.no HF.out, hz.out.2.1⟩
        · have HALL : Hid (∀ j (h : j < x.ins.length), sideOk n.ports x.ins[j] box true ∧ (∀ h0 : 0 < j, x.ins[j - 1] < x.ins[j])) := fun j h => hq.out j h (by omega)
          clear hq hlast
          have d4 := hz.out.cell 1 4 _ _ rfl rfl
          obtain ⟨wo, rfl⟩ : ∃ wo : World, wo = wr := ⟨_, rfl⟩
          go_wp2
          go_loopw [10, 11, 13, 79] (fun _ _ _ i wr => ∃ k : Nat, k ≤ x.outs.length ∧ i = .int .i64 k ∧ Hid (outsOk n box x.outs k) ∧ Hid (Boxes w wr [[.int .i64 n.bits, .slice ap n.ports.length cp, vt, vg], [.string x.name, .slice ai x.ins.length ci, .slice ac x.cubes.length cc, .string x.write, .slice ao x.outs.length co]])) (fun _ _ _ i _ => x.outs.length - (intOf i).toNat)
          case atStart => exact ⟨0, Nat.zero_le _, rfl, fun j _ h => absurd h (by omega), hz⟩
          case round =>
            clear hz d4
            obtain ⟨k2, hk2, rfl, hq, hz⟩ := hrel
            by_cases hlt2 : k2 < x.outs.length
            · obtain ⟨b, o, rfl, hcell, hint⟩ := ints_at HO.out hlt2
              have hcell' := hz.out.keeps _ _ hcell
              have m1 := hz.out.cell 0 1 _ _ rfl rfl
              have m4 := hz.out.cell 1 4 _ _ rfl rfl
              simp only [Nat.add_zero] at m1
              have HNO : Hid ((¬ (sideOk n.ports x.outs[k2] box false ∧ ∀ j (hj : j < k2), x.outs[j] ≠ x.outs[k2])) → ¬ entryOk n box x) := fun h he => h (he.2.2.2.1 k2 hlt2)
              have HSU : Hid (sideOk n.ports x.outs[k2] box false → (∀ j (hj : j < k2), x.outs[j] ≠ x.outs[k2]) → outsOk n box x.outs (k2 + 1)) := fun h1 h2 j hj hjk => by
                by_cases e : j = k2
                · subst e; exact ⟨h1, h2⟩
                · exact hq.out j hj (by omega)
              generalize hPe : x.outs[k2] = P at *
              have HPE := Lib.hid hPe
              have HINT := Lib.hid hint
              clear hint hPe
              have hcap : (k2 : Int) ≤ (co : Int) := by omega
              by_cases c1 : P < 0
              · have HF : Hid (¬ entryOk n box x) := HNO.out fun h => by have := h.1.1; omega
                go_wp2
                go_ret
                exact ⟨.no HF.out, hz.out.2.1⟩
              by_cases c2 : (n.ports.length : Int) ≤ P
              · have HF : Hid (¬ entryOk n box x) := HNO.out fun h => by obtain ⟨_, h, _⟩ := h.1; omega
                go_wp2
                go_ret
                exact ⟨.no HF.out, hz.out.2.1⟩
              have hP0 : 0 ≤ P := by omega
              have hPl : P.toNat < n.ports.length := by omega
              obtain ⟨b0, o0, rfl, -, e1, e2, -⟩ := ports_at HP.out hPl
              have e1' := hz.out.keeps _ _ e1
              have e2' := hz.out.keeps _ _ e2
              clear e1 e2
              have HS : Hid (sideOk n.ports P box false ↔ (n.ports[P.toNat].box = box ∧ n.ports[P.toNat].inn = false)) := ⟨fun ⟨_, _, h⟩ => h, fun h => ⟨hP0, hPl, h⟩⟩
              generalize n.ports[P.toNat].box = bo at *
              generalize n.ports[P.toNat].inn = bi at *
              cases bi with
              | true =>
                have HF : Hid (¬ entryOk n box x) := HNO.out fun h => by have := (HS.out.1 h.1).2; cases this
                go_wp2
                go_ret
                exact ⟨.no HF.out, hz.out.2.1⟩
              | false =>
                by_cases c3 : bo = box
                · have c3' : (bo != box) = false := by simp [c3]
                  have HSD := Lib.hid (HS.out.2 ⟨c3, rfl⟩)
                  clear c3
                  obtain ⟨wq, rfl⟩ : ∃ wq : World, wq = wr := ⟨_, rfl⟩
                  go_wp2
                  go_loopw [13, 116] (fun _ i wr => ∃ m : Nat, m ≤ k2 ∧ i = .int .i64 m ∧ Hid (∀ j (hj : j < x.outs.length), j < m → x.outs[j] ≠ P) ∧ Hid (Boxes w wr [[.int .i64 n.bits, .slice (some ⟨b0, o0, none⟩) n.ports.length cp, vt, vg], [.string x.name, .slice ai x.ins.length ci, .slice ac x.cubes.length cc, .string x.write, .slice (some ⟨b, o, none⟩) x.outs.length co]])) (fun _ i _ => k2 - (intOf i).toNat)
                  case atStart => exact ⟨0, Nat.zero_le _, rfl, fun j _ h => absurd h (by omega), hz⟩
                  case round =>
                    clear hz m1 m4 e1' e2' hcell'
                    obtain ⟨m, hm, rfl, hqm, hz⟩ := hrel
                    by_cases hmk : m < k2
                    · have hlt3 : m < x.outs.length := by omega
                      obtain ⟨b', o', hbo, hcellm, -⟩ := ints_at HO.out hlt3
                      injection hbo with hbo
                      injection hbo with y1 y2
                      subst y1 y2
                      have hcm := hz.out.keeps _ _ hcellm
                      by_cases he : x.outs[m] = P
                      · have HF : Hid (¬ entryOk n box x) := HNO.out fun h => h.2 m hmk he
                        have hd : (x.outs[m] == P) = true := by simp [he]
                        clear he
                        go_wp2
                        go_ret
                        exact ⟨.no HF.out, hz.out.2.1⟩
                      · have HQ : Hid (∀ j (hj : j < x.outs.length), j < m + 1 → x.outs[j] ≠ P) := by
                          intro j hj h
                          by_cases e : j = m
                          · subst e; exact he
                          · exact hqm.out j hj (by omega)
                        have hd : (x.outs[m] == P) = false := by simpa using he
                        clear he
                        go_wp2
                        go_roundw
                        case rel => exact ⟨m + 1, by omega, by go_num, HQ, hz⟩
                        case measure => simp [intOf]; omega
                    · have HQ : Hid (outsOk n box x.outs (k2 + 1)) := HSU.out HSD.out (fun j hj => hqm.out j (by omega) (by omega))
                      go_wp2
                      go_roundw
                      case rel => exact ⟨k2 + 1, by omega, by go_num, HQ, hz⟩
                      case measure => simp [intOf]; omega
                · have c3' : (bo != box) = true := by simpa using c3
                  have HF : Hid (¬ entryOk n box x) := HNO.out fun h => c3 (HS.out.1 h.1).1
                  clear c3
                  go_wp2
                  go_ret
                  exact ⟨.no HF.out, hz.out.2.1⟩
            · have HY : Hid (entryOk n box x) := ⟨by omega, by omega, HALL.out, fun j h => hq.out j h (by omega), HCW.out, HCC.out⟩
              go_wp2
              go_ret
              exact ⟨.yes HY.out, hz.out.2.1⟩
    · have HF : Hid (¬ entryOk n box x) := fun h => hc (cubesOk_one.1 h.2.2.2.2.1)
      clear hc
      go_wp2
      go_ret
      exact ⟨.no HF.out, hz2.out.2.1⟩
  · have HF : Hid (¬ entryOk n box x) := fun h => hc h.2.2.2.2.2
    clear hc
    go_wp2
    go_ret
    exact ⟨.no HF.out, hz1.out.2.1⟩
end Go.Proofs.YtbklijcdmiffaaaGreatDoor
