/-
  cover: the doors of a network.
-/
import Derived.Test.YtbklijcdmiffaaaGreatDoorProg
import Derived.Test.YtbklijcdmiffaaaGreatDoorBase
import Derived.Test.YtbklijcdmiffaaaGreatDoorLowE
import Derived.Test.YtbklijcdmiffaaaGreatDoorRefH
import Derived.StillTailTactics
import Derived.Deep.OwnRows
import Derived.WalkKit
import Derived.WalkSpells
import Derived.WalkLawsBesides
import Derived.Deep.QuietTactic
import Derived.BigQuiet
import Derived.Lib.Hide
import Derived.Deep.LoopGhost
namespace Go.Proofs.YtbklijcdmiffaaaGreatDoor
open Go.RowKit

theorem bool_info : (Tryz.prog.info? 4).map (fun i => (i.zero, i.size, i.bytes)) = some (some (.bool false), 1, 1) := by kernel_rfl
/-- the row of what is led to, behind the first k ports -/
def ledRow (n : NetD) (k : Nat) : Nat → Value := fun j => .bool ((n.ports.take k).any fun q => q.to == (j : Int))
theorem ledRow_zero (n : NetD) (w : World) (t : TypeId) : (w.alloc (.cells (madeCells #[.bool false] n.ports.length) t)).rowIs w.heap.size t n.ports.length (ledRow n 0) :=
  (World.rowIs_made w (.bool false) n.ports.length t).congr fun i _ => by simp [ledRow]
theorem ledRow_skip {n : NetD} {k : Nat} {w : World} {g : Nat} {t : TypeId} {N : Nat} (h : w.rowIs g t N (ledRow n k)) (hk : k < n.ports.length) (hto : n.ports[k].to < 0) : w.rowIs g t N (ledRow n (k + 1)) :=
  h.congr fun i _ => by
    unfold ledRow
    rw [any_take_succ n.ports i k hk]
    have : (n.ports[k].to == (i : Int)) = false := by rw [beq_eq_false_iff_ne]; omega
    rw [this, Bool.or_false]
theorem ledRow_set {n : NetD} {k : Nat} {w : World} {g : Nat} {t : TypeId} {N : Nat} (h : w.rowIs g t N (ledRow n k)) (hk : k < n.ports.length) (hto : 0 ≤ n.ports[k].to) : (w.setCell ⟨g, n.ports[k].to.toNat, none⟩ (.bool true)).rowIs g t N (ledRow n (k + 1)) :=
  (h.set n.ports[k].to.toNat (.bool true)).congr fun i _ => by
    show (if i = n.ports[k].to.toNat then Value.bool true else ledRow n k i) = _
    unfold ledRow
    rw [any_take_succ n.ports i k hk]
    by_cases e : i = n.ports[k].to.toNat
    · have : (n.ports[k].to == (i : Int)) = true := by rw [beq_iff_eq]; omega
      rw [if_pos e, this, Bool.or_true]
    · have : (n.ports[k].to == (i : Int)) = false := by rw [beq_eq_false_iff_ne]; omega
      rw [if_neg e, this, Bool.or_false]
set_option maxRecDepth 100000 in
set_option maxHeartbeats 4000000 in
theorem doors_any (cs : List Value) (n : NetD) (w : World) (hv : Vars w) (hn : netE w cs n) :
    Calls Tryz.prog 4 #[.agg cs.toArray] w fun e w' => DoorsRes n w' e ∧ Below w.heap.size w w' := by
  have HN := Lib.hid hn
  have HV := Lib.hid hv
  clear hv
  obtain ⟨i0, hi0, hz0, hz1, hz2⟩ := info_parts int_info
  obtain ⟨vp, vt, vg, rfl, -, hp, -, -⟩ := hn
  obtain ⟨ap, cp, rfl, -, hp⟩ := hp
  have hlp_ := hp.1
  have HP := Lib.hid hp
  clear hp
  have hz := Lib.hid (Boxes.one w [.int .i64 n.bits, .slice ap n.ports.length cp, vt, vg] 26)
  have hmk := run_make_row' (P := Tryz.prog) 41 4 (.bool false) 1 Tryz.underlying41 bool_info rfl .i64 .i64 n.ports.length (by omega) (by omega)
  have HMK := Lib.hid hmk
  clear hmk
  go_enter Tryz.func4, Tryz.ntmps4
  go_wp2_with fail
  have hs := Lib.hid (lowValid_any _ n _ (HV.out.keep hz.out.2.1) (netE_keep hz.out.keeps _ _ HN.out))
  refine hs.out.mono ?_
  rintro e w1 ⟨ht, hb⟩
  have hz1' := Lib.hid (hz.out.next hb)
  clear hs hb hz
  rcases ht with ⟨rfl, hok⟩ | ⟨rfl, hok⟩
  · have HOK := Lib.hid hok
    clear hok
    have n1 := hz1'.out.cell 0 1 _ _ rfl rfl
    simp only [Nat.add_zero] at n1
    have hmk := HMK.out
    have hzw := Lib.hid (hz1'.out.next ((Below.refl _ w1).alloc (Nat.le_refl _) (.cells (madeCells #[.bool false] n.ports.length) 4)))
    have hrw := Lib.hid (ledRow_zero n w1 4)
    have n2 := hzw.out.cell 0 1 _ _ rfl rfl
    simp only [Nat.add_zero] at n2
    have HLB : Hid (w.heap.size + 1 ≤ w1.heap.size) := hz1'.out.2.2
    generalize hW : w1.alloc (.cells (madeCells #[.bool false] n.ports.length) 4) = W at *
    go_wp2
    clear hW n1 n2 hmk
    go_loopw [7, 22] (fun _ i wr => ∃ k : Nat, k ≤ n.ports.length ∧ i = .int .i64 k ∧ Hid (wr.rowIs w1.heap.size 4 n.ports.length (ledRow n k)) ∧ Hid (Boxes w wr [[.int .i64 n.bits, .slice ap n.ports.length cp, vt, vg]])) (fun _ i _ => n.ports.length - (intOf i).toNat)
    case atStart => exact ⟨0, Nat.zero_le _, rfl, hrw, hzw⟩
    case round =>
      clear hrw hzw
      obtain ⟨wo, rfl⟩ : ∃ wo : World, wo = wr := ⟨_, rfl⟩
      obtain ⟨k, hk, rfl, hrow, hz⟩ := hrel
      have n1 := hz.out.cell 0 1 _ _ rfl rfl
      simp only [Nat.add_zero] at n1
      by_cases hlt : k < n.ports.length
      · obtain ⟨b, o, rfl, e0, e1, e2, e3, -⟩ := ports_at HP.out hlt
        have f0 := hz.out.keeps _ _ e0
        have f1 := hz.out.keeps _ _ e1
        have f2 := hz.out.keeps _ _ e2
        have f3 := hz.out.keeps _ _ e3
        clear e0 e1 e2 e3
        have HTO := Lib.hid ((HOK.out.2.2.2.2.2.1 k hlt).2.2.2.2.1)
        have HSK := Lib.hid (fun h => ledRow_skip hrow.out hlt h)
        have hwl := hrow.out.lt
        have hrow2 := Lib.hid (hrow.out.of_block (Below.heap_alloc wo (.cells #[.string n.ports[k].name, .int .i64 n.ports[k].box, .bool n.ports[k].inn, .int .i64 n.ports[k].to] 32) _ hwl))
        have HSE := Lib.hid (fun h => ledRow_set hrow.out hlt h)
        have hz2' := Lib.hid (hz.out.next ((Below.refl _ wo).alloc (Nat.le_refl _) (.cells #[.string n.ports[k].name, .int .i64 n.ports[k].box, .bool n.ports[k].inn, .int .i64 n.ports[k].to] 32)))
        have hrow3 := Lib.hid (fun h => ledRow_skip hrow2.out hlt h)
        generalize n.ports[k] = p at *
        by_cases hto : p.to < 0
        · have HR := Lib.hid (hrow3.out hto)
          clear HSK HSE hrow3
          go_wp2
          go_roundw
          case rel => exact ⟨k + 1, by omega, by go_num, HR, hz2'⟩
          case measure => simp [intOf]; omega
        · have hto' : 0 ≤ p.to := by omega
          clear hto
          have HR := Lib.hid (HSE.out hto')
          clear HSK HSE hrow3
          have ht1 : p.to.toNat < n.ports.length := by have := HTO.out; omega
          have ht2 : p.to < (n.ports.length : Int) := HTO.out
          have c0 := hrow2.out.cell ht1
          have z0 := hrow2.out.frozen p.to.toNat
          have HZ3 := Lib.hid ((Boxes.grown hz.out (OnlyB.set w1.heap.size p.to.toNat wo (.bool true)) (fun j hj => by cases hj; exact HLB.out)).next ((Below.refl _ _).alloc (Nat.le_refl _) (.cells #[.string p.name, .int .i64 p.box, .bool p.inn, .int .i64 p.to] 32)))
          have HR2 := Lib.hid (HR.out.of_block (Below.heap_alloc (wo.setCell ⟨w1.heap.size, p.to.toNat, none⟩ (.bool true)) (.cells #[.string p.name, .int .i64 p.box, .bool p.inn, .int .i64 p.to] 32) _ HR.out.lt))
          clear ht1
          go_wp2
          go_roundw
          case rel => exact ⟨k + 1, by omega, by go_num, HR2, HZ3⟩
          case measure => simp [intOf]; omega
      · obtain rfl : k = n.ports.length := by omega
        clear hlt hk
        go_wp2
        clear n1
        go_loopw [8, 9, 37] (fun l _ i wr => ∃ (k : Nat), k ≤ n.ports.length ∧ i = .int .i64 k ∧
          Hid (wr.ownsRow (w1.heap.size + 1) 3 1 l (doorsTo n k).length ((doorsTo n k).map (.int .i64))) ∧ Hid (wr.rowIs w1.heap.size 4 n.ports.length (ledRow n n.ports.length)) ∧ Hid (Boxes w wr [[.int .i64 n.bits, .slice ap n.ports.length cp, vt, vg]])) (fun _ _ i _ => n.ports.length - (intOf i).toNat)
        case atStart => exact ⟨0, Nat.zero_le _, rfl, ⟨by simp [doorsTo], .inl ⟨rfl, by simp [doorsTo]⟩⟩, hrow, hz⟩
        case round =>
          clear hrow hz
          obtain ⟨wo, rfl⟩ : ∃ wo : World, wo = wr := ⟨_, rfl⟩
          obtain ⟨k, hk, rfl, hown, hrow, hz⟩ := hrel
          have n1 := hz.out.cell 0 1 _ _ rfl rfl
          simp only [Nat.add_zero] at n1
          by_cases hlt : k < n.ports.length
          · obtain ⟨b, o, rfl, -, -, e2, -⟩ := ports_at HP.out hlt
            have f2 := hz.out.keeps _ _ e2
            clear e2
            have c0 := hrow.out.cell hlt
            have hled : ledRow n n.ports.length k = .bool (ledB n k) := by unfold ledRow ledB; rw [List.take_length]
            rw [hled] at c0
            have HD : Hid (doorB n k = (n.ports[k].inn && !ledB n k)) := by simp [Hid, doorB, List.getElem?_eq_getElem hlt]
            have HSU := Lib.hid (doorsTo_succ n k)
            have HLE := doorsTo_length n k
            clear hled
            generalize n.ports[k].inn = bi at *
            generalize ledB n k = lb at *
            by_cases hbl : bi = true ∧ lb = false
            · obtain ⟨rfl, rfl⟩ := hbl
              have HD2 : Hid (doorsTo n (k + 1) = doorsTo n k ++ [(k : Int)]) := by rw [HSU.out, HD.out]; rfl
              have hwz := hrow.out.lt
              have hown2 := Lib.hid (hown.out.alloc (.cells #[.int .i64 (k : Int)] 3))
              have hsz1 : w1.heap.size + 1 ≤ (wo.alloc (.cells #[.int .i64 (k : Int)] 3)).heap.size := by simp; omega
              have hnew : ∀ j u, [Value.int .i64 (k : Int)][j]? = some u → (wo.alloc (.cells #[.int .i64 (k : Int)] 3)).cell? ((⟨wo.heap.size, 0, none⟩ : Addr).add j) = some u := cell_one_new _ _ _
              have HN2 := Lib.hid hnew
              clear hnew
              go_wp2_with (at_builtin; refine wpList_append_own _ rfl _ _ 27 rfl (w1.heap.size + 1) 3 i0 (.int .i64 0) 1 8 Tryz.underlying27 hi0 hz0 hz1 hz2 rfl (by decide) _ _ _ rfl hown2.out ⟨wo.heap.size, 0, none⟩ 1 1 [.int .i64 (k : Int)] rfl rfl ?c1 ?c2 ?c3 ?c4 ?c5 ?_)
              case c1 => exact HN2.out
              case c2 => simp [Value.oneCell']
              case c3 => unfold maxLen; omega
              case c4 => omega
              case c5 => exact hsz1
              intro v' w2 hown3 hgrow _
              have hz5 := Lib.hid (hz.out.next ((Below.refl _ _).alloc (Nat.le_refl _) (.cells #[.int .i64 (k : Int)] 3)))
              have hz6 := Lib.hid (hz5.out.grown hgrow (fun j hj => by have := own_base hown2.out j hj; have := HLB.out; simp; omega))
              have hrw2 := Lib.hid (hrow.out.of_block ((hgrow.block w1.heap.size (by simp; omega) (fun e => by have := own_base hown2.out _ e.symm; omega)).trans (Below.heap_alloc wo (.cells #[.int .i64 (k : Int)] 3) _ hwz)))
              have HO3 : Hid (w2.ownsRow (w1.heap.size + 1) 3 1 v' (doorsTo n (k + 1)).length ((doorsTo n (k + 1)).map (.int .i64))) := by
                unfold Hid
                rw [HD2.out, List.length_append, List.map_append]
                exact hown3
              clear hown3 hgrow hz5
              go_wp2
              go_roundw
              case rel => exact ⟨k + 1, by omega, by go_num, HO3, hrw2, hz6⟩
              case measure => simp [intOf]; omega
            · have HD2 : Hid (doorsTo n (k + 1) = doorsTo n k) := by
                unfold Hid
                rw [HSU.out, HD.out]
                cases bi <;> cases lb <;> simp_all
              have HO3 : Hid (wo.ownsRow (w1.heap.size + 1) 3 1 u8 (doorsTo n (k + 1)).length ((doorsTo n (k + 1)).map (.int .i64))) := by
                unfold Hid
                rw [HD2.out]
                exact hown.out
              cases bi with
              | false =>
                clear hbl
                go_wp2
                go_roundw
                case rel => exact ⟨k + 1, by omega, by go_num, HO3, hrow, hz⟩
                case measure => simp [intOf]; omega
              | true =>
                obtain rfl : lb = true := by cases lb <;> simp_all
                clear hbl
                go_wp2
                go_roundw
                case rel => exact ⟨k + 1, by omega, by go_num, HO3, hrow, hz⟩
                case measure => simp [intOf]; omega
          · obtain rfl : k = n.ports.length := by omega
            have hle := doorsTo_length n n.ports.length
            have HR : Hid (Sl 1 intE wo u8 (doorsTo n n.ports.length)) := own_one hown.out (by omega) (fun x hx => ⟨rfl, by
              have := doorsTo_mem n _ x hx
              unfold I64
              omega⟩)
            clear hle
            go_wp2
            go_ret2
            exact ⟨⟨_, _, rfl, .inl ⟨rfl, HOK.out, HR.out⟩⟩, hz.out.2.1⟩
  · go_wp2
    go_ret2
    exact ⟨⟨_, _, rfl, .inr ⟨rfl, hok, rfl⟩⟩, hz1'.out.2.1⟩

end Go.Proofs.YtbklijcdmiffaaaGreatDoor
