/-
  The doors by the reference.
-/
import Derived.Test.YtbklijcdmiffaaaGreatDoorProg
import Derived.Test.YtbklijcdmiffaaaGreatDoorBase
import Derived.Test.YtbklijcdmiffaaaGreatDoorRefG
import Derived.StillTailTactics
import Derived.WalkKit
import Derived.WalkSpells
import Derived.WalkLawsBesides
import Derived.Deep.QuietTactic
import Derived.BigQuiet
import Derived.Lib.Hide
import Derived.Deep.LoopGhost
namespace Go.Proofs.YtbklijcdmiffaaaGreatDoor
open Go.RowKit
theorem int_info : (Tryz.prog.info? 3).map (fun i => (i.zero, i.size, i.bytes)) = some (some (.int .i64 0), 1, 8) := by kernel_rfl

set_option maxRecDepth 100000 in
set_option maxHeartbeats 2000000 in
theorem refDoors_any (cs : List Value) (n : NetD) (w : World) (hn : netE w cs n) :
    Calls Tryz.prog 6 #[.agg cs.toArray] w fun e w' => DoorsRes n w' e ∧ Below w.heap.size w w' := by
  have HN := Lib.hid hn
  obtain ⟨i0, hi0, hz0, hz1, hz2⟩ := info_parts int_info
  obtain ⟨vp, vt, vg, rfl, -, hp, -, -⟩ := hn
  obtain ⟨ap, cp, rfl, -, hp⟩ := hp
  have hlp_ := hp.1
  have HP := Lib.hid hp
  clear hp
  have hz := Lib.hid (Boxes.one w [.int .i64 n.bits, .slice ap n.ports.length cp, vt, vg] 26)
  go_enter Tryz.func6, Tryz.ntmps6
  go_wp2_with fail
  have hs := Lib.hid (refValid_any _ n _ (netE_keep hz.out.keeps _ _ HN.out))
  refine hs.out.mono ?_
  rintro e w1 ⟨ht, hb⟩
  have hz1' := Lib.hid (hz.out.next hb)
  clear hs hb hz
  rcases ht with ⟨rfl, hok⟩ | ⟨rfl, hok⟩
  · have HOK := Lib.hid hok
    clear hok
    have n1 := hz1'.out.cell 0 1 _ _ rfl rfl
    simp only [Nat.add_zero] at n1
    go_wp2
    go_loopw [5, 6, 7, 8] (fun l i _ _ wr => ∃ (k : Nat), k ≤ n.ports.length ∧ i = .int .i64 k ∧
      Hid (wr.ownsRow (w.heap.size + 1) 3 1 l (doorsTo n k).length ((doorsTo n k).map (.int .i64))) ∧ Hid (Boxes w wr [[.int .i64 n.bits, .slice ap n.ports.length cp, vt, vg]])) (fun _ i _ _ _ => n.ports.length - (intOf i).toNat)
    case atStart => exact ⟨0, Nat.zero_le _, rfl, ⟨by simp [doorsTo], .inl ⟨rfl, by simp [doorsTo]⟩⟩, hz1'⟩
    case round =>
      obtain ⟨wo, rfl⟩ : ∃ wo : World, wo = wr := ⟨_, rfl⟩
      obtain ⟨k, hk, rfl, hown, hz⟩ := hrel
      clear hz1' n1
      have n1 := hz.out.cell 0 1 _ _ rfl rfl
      simp only [Nat.add_zero] at n1
      by_cases hlt : k < n.ports.length
      · obtain ⟨b, o, rfl, -, -, e2, -⟩ := ports_at HP.out hlt
        have f2 := hz.out.keeps _ _ e2
        go_wp2
        go_loopw [7, 8] (fun t i wr => ∃ m : Nat, m ≤ n.ports.length ∧ i = .int .i64 m ∧ t = .bool ((n.ports.take m).any fun q => q.to == (k : Int)) ∧ Quiet wo wr) (fun _ i _ => n.ports.length - (intOf i).toNat)
        case atStart => exact ⟨0, Nat.zero_le _, rfl, rfl, Quiet.refl _⟩
        case round =>
          obtain ⟨m, hm, rfl, rfl, nq, rfl⟩ := hrel
          by_cases hml : m < n.ports.length
          · obtain ⟨b', o', hbo, -, -, -, e3, -⟩ := ports_at HP.out hml
            injection hbo with hbo
            injection hbo with x1 x2
            subst x1 x2
            have f3 := hz.out.keeps _ _ e3
            have HS := Lib.hid (any_take_succ n.ports k m hml)
            by_cases he : n.ports[m].to = k
            · have he' : (n.ports[m].to == (k : Int)) = true := by simp [he]
              have HE : Hid (true = (n.ports.take (m + 1)).any fun q => q.to == (k : Int)) := by unfold Hid; rw [HS.out, he', Bool.or_true]
              clear he
              go_wp2
              go_roundw
              case rel => exact ⟨m + 1, by omega, by go_num, by rw [← HE.out], Quiet.drewN _⟩
              case measure => simp [intOf]; omega
            · have he' : (n.ports[m].to == (k : Int)) = false := by simpa using he
              have HE : Hid (((n.ports.take m).any fun q => q.to == (k : Int)) = (n.ports.take (m + 1)).any fun q => q.to == (k : Int)) := by unfold Hid; rw [HS.out, he', Bool.or_false]
              clear he
              go_wp2
              go_roundw
              case rel => exact ⟨m + 1, by omega, by go_num, by rw [← HE.out], Quiet.drewN _⟩
              case measure => simp [intOf]; omega
          · obtain rfl : m = n.ports.length := by omega
            have hled : ((n.ports.take n.ports.length).any fun q => q.to == (k : Int)) = ledB n k := by rw [List.take_length]; rfl
            have HD : Hid (doorB n k = (n.ports[k].inn && !ledB n k)) := by simp [Hid, doorB, List.getElem?_eq_getElem hlt]
            have HSU := Lib.hid (doorsTo_succ n k)
            have HLE := doorsTo_length n k
            rw [hled]
            clear hled hml
            generalize n.ports[k].inn = bi at *
            generalize ledB n k = lb at *
            by_cases hbl : bi = true ∧ lb = false
            · obtain ⟨rfl, rfl⟩ := hbl
              have HD2 : Hid (doorsTo n (k + 1) = doorsTo n k ++ [(k : Int)]) := by rw [HSU.out, HD.out]; rfl
              have hwz : w.heap.size + 1 ≤ wo.heap.size := hz.out.2.2
              have hown2 := Lib.hid (hown.out.alloc (.cells #[.int .i64 (k : Int)] 3))
              have hsz1 : w.heap.size + 1 ≤ ((wo.drewN nq).alloc (.cells #[.int .i64 (k : Int)] 3)).heap.size := by simp; omega
              have hnew : ∀ j u, [Value.int .i64 (k : Int)][j]? = some u → ((wo.drewN nq).alloc (.cells #[.int .i64 (k : Int)] 3)).cell? ((⟨wo.heap.size, 0, none⟩ : Addr).add j) = some u := cell_one_new _ _ _
              have HN2 := Lib.hid hnew
              clear hnew
              go_wp2_with (at_builtin; refine wpList_append_own _ rfl _ _ 27 rfl (w.heap.size + 1) 3 i0 (.int .i64 0) 1 8 Tryz.underlying27 hi0 hz0 hz1 hz2 rfl (by decide) _ _ _ rfl hown2.out ⟨wo.heap.size, 0, none⟩ 1 1 [.int .i64 (k : Int)] rfl rfl ?c1 ?c2 ?c3 ?c4 ?c5 ?_)
              case c1 => exact HN2.out
              case c2 => simp [Value.oneCell']
              case c3 => unfold maxLen; omega
              case c4 => omega
              case c5 => exact hsz1
              intro v' w2 hown3 hgrow _
              have hz5 := Lib.hid ((hz.out.quiet (w' := wo.drewN nq) ⟨_, rfl⟩).next ((Below.refl _ _).alloc (Nat.le_refl _) (.cells #[.int .i64 (k : Int)] 3)))
              have hz6 := Lib.hid (hz5.out.grown hgrow (own_base hown2.out))
              have HO3 : Hid (w2.ownsRow (w.heap.size + 1) 3 1 v' (doorsTo n (k + 1)).length ((doorsTo n (k + 1)).map (.int .i64))) := by
                unfold Hid
                rw [HD2.out, List.length_append, List.map_append]
                exact hown3
              clear hown3 hgrow hz5
              go_wp2
              go_roundw
              case rel => exact ⟨k + 1, by omega, by go_num, HO3, hz6⟩
              case measure => simp [intOf]; omega
            · have HD2 : Hid (doorsTo n (k + 1) = doorsTo n k) := by
                unfold Hid
                rw [HSU.out, HD.out]
                cases bi <;> cases lb <;> simp_all
              have HO3 : Hid ((wo.drewN nq).ownsRow (w.heap.size + 1) 3 1 u5 (doorsTo n (k + 1)).length ((doorsTo n (k + 1)).map (.int .i64))) := by
                unfold Hid
                rw [HD2.out]
                exact hown.out
              have hz6 := Lib.hid (hz.out.quiet (w' := wo.drewN nq) ⟨_, rfl⟩)
              cases bi with
              | false =>
                clear hbl
                go_wp2
                go_roundw
                case rel => exact ⟨k + 1, by omega, by go_num, HO3, hz6⟩
                case measure => simp [intOf]; omega
              | true =>
                obtain rfl : lb = true := by cases lb <;> simp_all
                clear hbl
                go_wp2
                go_roundw
                case rel => exact ⟨k + 1, by omega, by go_num, HO3, hz6⟩
                case measure => simp [intOf]; omega
      · obtain rfl : k = n.ports.length := by omega
        have hle := doorsTo_length n n.ports.length
        have HR : Hid (Sl 1 intE wo u5 (doorsTo n n.ports.length)) := own_one hown.out (by omega) (fun x hx => ⟨rfl, by
          have := doorsTo_mem n _ x hx
          unfold I64
          omega⟩)
        clear hle
        go_wp2
        go_ret2
        exact ⟨⟨_, _, rfl, .inl ⟨rfl, HOK.out, HR.out⟩⟩, hz.out.2.1⟩
  · go_wp2
    go_ret2
    exact ⟨⟨_, _, rfl, .inr ⟨rfl, hok, rfl⟩⟩, hz1'.out.2.1⟩
end Go.Proofs.YtbklijcdmiffaaaGreatDoor
