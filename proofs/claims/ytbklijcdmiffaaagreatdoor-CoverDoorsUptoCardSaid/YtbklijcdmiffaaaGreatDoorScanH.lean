/-
  scan: speak.
-/
import Derived.Test.YtbklijcdmiffaaaGreatDoorProg
import Derived.Test.YtbklijcdmiffaaaGreatDoorBase
import Derived.Test.YtbklijcdmiffaaaGreatDoorScanG
import Derived.Test.YtbklijcdmiffaaaGreatDoorScope
import Derived.WalkMore
import Derived.WalkKit
import Derived.WalkSpells
import Derived.WalkLawsBesides
import Derived.Deep.QuietTactic
import Derived.BigQuiet
import Derived.Lib.Hide
import Derived.Deep.LoopGhost
namespace Go.Proofs.YtbklijcdmiffaaaGreatDoor
open Go.RowKit

/-- bytes of the call's own, an end and a code -/
def SpeakRes (s : ByteArray) (e : Ending) : Prop :=
  ∃ (a : Option Addr) (n cap : Nat) (z c : Int), e = .returned (.tuple #[.slice a n cap, .int .i64 z, .int .i64 c]) ∧ n ≤ maxLen ∧ ((c = 0 ∧ 1 ≤ z ∧ z ≤ s.size) ∨ (c ≠ 0 ∧ 0 ≤ z ∧ z ≤ s.size))
theorem own_form {w : World} {B e size n : Nat} {v : Value} {xs : List Value} (h : w.ownsRow B e size v n xs) : ∃ a cap, v = .slice a n cap ∧ n ≤ maxLen := by
  rcases h.2 with ⟨rfl, rfl⟩ | ⟨g, cap, cur, hv, hbg, hg, h1, h2, _⟩
  · exact ⟨_, _, rfl, Nat.zero_le _⟩
  · exact ⟨_, _, hv, Nat.le_trans h1 h2⟩
theorem own_some {w : World} {B e size n : Nat} {v : Value} {xs : List Value} (h : w.ownsRow B e size v n xs) (hn : 0 < n) : ∃ g cap, v = .slice (some ⟨g, 0, none⟩) n cap := by
  rcases h.2 with ⟨rfl, rfl⟩ | ⟨g, cap, cur, hv, _⟩
  · omega
  · exact ⟨g, cap, hv⟩
theorem own_iter {w : World} {B e size n : Nat} {v : Value} {xs : List Value} {k : Nat} {s : ByteArray} {pos : Nat} (h : w.ownsRow B e size v n xs) (hk : w.heap[k]? = some (.stringIter s pos)) (pos' : Nat) : (w.iterAt k s pos').ownsRow B e size v n xs := by
  refine ⟨h.1, ?_⟩
  rcases h.2 with h0 | ⟨g, cap, cur, hv, hb, hg, rest⟩
  · exact .inl h0
  · have hne : g ≠ k := fun e => by rw [e, hk] at hg; cases hg
    exact .inr ⟨g, cap, cur, hv, hb, (Lib.iterAt_other w k g s pos' hne).trans hg, rest⟩
theorem iter_ne_own {w : World} {B e size n : Nat} {v : Value} {xs : List Value} {k : Nat} {s : ByteArray} {pos : Nat} (h : w.ownsRow B e size v n xs) (hk : w.heap[k]? = some (.stringIter s pos)) : some k ≠ v.ownBlock := by
  rcases h.2 with ⟨rfl, _⟩ | ⟨g, cap, cur, rfl, hb, hg, rest⟩
  · simp [Value.ownBlock]
  · intro e1
    simp only [Value.ownBlock, Option.some.injEq] at e1
    rw [← e1, hk] at hg
    cases hg
def SpkJ (w : World) (s : ByteArray) (l : Nat) (a' : Act) (w' : World) : Prop :=
  l = 0 ∧ ∃ (v : Value) (xs : List Value) (k : Nat) (u8 u9 u10 u11 u12 u13 u14 u15 u16 u17 u18 u19 u20 u21 u22 u23 u24 u25 u26 u27 u28 u29 u30 u31 u32 u33 u34 u35 u36 u37 u38 u39 u40 u41 u42 u43 u44 u45 u46 u47 u48 u49 u50 u51 u52 u53 u54 u55 u56 u57 u58 u59 u60 u61 u62 u63 u64 u65 u66 u67 u68 u69 u70 u71 u72 u73 : Value), a' = { tmps := #[.string s, .bool true, undef, undef, v, .int .i64 0, .int .i64 0, .int .i64 k, u8, u9, u10, u11, u12, u13, u14, u15, u16, u17, u18, u19, u20, u21, u22, u23, u24, u25, u26, u27, u28, u29, u30, u31, u32, u33, u34, u35, u36, u37, u38, u39, u40, u41, u42, u43, u44, u45, u46, u47, u48, u49, u50, u51, u52, u53, u54, u55, u56, u57, u58, u59, u60, u61, u62, u63, u64, u65, u66, u67, u68, u69, u70, u71, u72, u73], defers := [] } ∧ 1 ≤ k ∧ k ≤ s.size ∧
    w'.ownsRow w.heap.size 5 1 v xs.length xs ∧ (∀ u ∈ xs, u.oneCell' = true) ∧ xs.length ≤ 4 * k ∧ Below w.heap.size w w'
theorem byte_info : (Tryz.prog.info? 5).map (fun i => (i.zero, i.size, i.bytes)) = some (some (.int .u8 0), 1, 1) := by kernel_rfl
set_option maxRecDepth 100000 in
set_option maxHeartbeats 4000000 in
theorem speak_any (s : ByteArray) (w : World) (hv : Vars w) (hs : s.size ≤ 1048576) (h1 : 1 ≤ s.size) :
    Calls Tryz.prog 72 #[.string s, .bool true] w fun e w' => SpeakRes s e ∧ Below w.heap.size w w' := by
  have HV := Lib.hid hv
  clear hv
  obtain ⟨i0, hi0, hz0', hz1', hz2'⟩ := info_parts byte_info
  go_enter Tryz.func72, Tryz.ntmps72
  go_wp2
  refine wp_scope_marks (SpkJ w s) (fun _ a' _ => s.size - (intOf (a'.tmps.getD 7 undef)).toNat) ?_ ?_
  · rintro l a' w' ⟨rfl, v, xs, k, u8, u9, u10, u11, u12, u13, u14, u15, u16, u17, u18, u19, u20, u21, u22, u23, u24, u25, u26, u27, u28, u29, u30, u31, u32, u33, u34, u35, u36, u37, u38, u39, u40, u41, u42, u43, u44, u45, u46, u47, u48, u49, u50, u51, u52, u53, u54, u55, u56, u57, u58, u59, u60, u61, u62, u63, u64, u65, u66, u67, u68, u69, u70, u71, u72, u73, rfl, hk1, hk2, hown, hone, hlen, hbel⟩
    refine ⟨_, rfl, ?_⟩
    have HOW := Lib.hid hown
    have HONE := Lib.hid hone
    have HBEL := Lib.hid hbel
    clear hown hone hbel
    have hbi := Lib.hid (HBEL.out.alloc HBEL.out.size (.stringIter (s.extract k s.size) 0))
    have howi := Lib.hid (own_keep HOW.out ((Below.refl w'.heap.size w').alloc (Nat.le_refl _) (.stringIter (s.extract k s.size) 0)))
    have hit0 : Hid ((w'.alloc (.stringIter (s.extract k s.size) 0)).heap[w'.heap.size]? = some (.stringIter (s.extract k s.size) 0)) := by
      show (w'.heap.push _)[w'.heap.size]? = _
      simp
    have HSZ : Hid ((s.extract k s.size).size = s.size - k) := by simp [Hid]
    have HW0 : Hid (w.heap.size ≤ w'.heap.size) := HBEL.out.size
    go_wp2
    go_loopw [4, 5, 6, 7, 8, 9, 10, 11] (fun vs v5 v6 v7 _ _ _ _ wr => ∃ (xs : List Value) (pos : Nat), v5 = .int .i64 0 ∧ v6 = .int .i64 0 ∧ v7 = .int .i64 k ∧ Hid (wr.heap[w'.heap.size]? = some (.stringIter (s.extract k s.size) pos)) ∧ Hid (wr.ownsRow w.heap.size 5 1 vs xs.length xs) ∧ Hid (∀ u ∈ xs, u.oneCell' = true) ∧
      xs.length ≤ 4 * (k + pos) ∧ Hid (Below w.heap.size w wr)) (fun _ _ _ _ _ _ _ _ wr => (s.size - k) - wr.iterPos w'.heap.size)
    case atStart => exact ⟨xs, 0, rfl, rfl, rfl, hit0, howi, HONE, by omega, hbi⟩
    case round =>
      obtain ⟨xs, pos, rfl, rfl, rfl, hit, how, hone, hlen2, hb⟩ := hrel
      have htz := HSZ.out
      by_cases hp : pos < s.size - k
      · have hp' : pos < (s.extract k s.size).size := by rw [htz]; exact hp
        have hnx : ∀ ty, (Instr.next (.pointer (some ⟨w'.heap.size, 0, none⟩)) true ty).run Tryz.prog wr = _ := fun ty => Lib.run_next_any_at wr w'.heap.size (s.extract k s.size) pos ty hit.out hp'
        have hwd := width_pos (s.extract k s.size) pos hp'
        have hdl := decode_le (s.extract k s.size) pos
        generalize Utf8.decode (s.extract k s.size) pos = d at *
        have how2 := Lib.hid (own_iter how.out hit.out (pos + d.2))
        have hit2 := Lib.hid (Lib.iterAt_heap wr w'.heap.size (s.extract k s.size) pos (pos + d.2) hit.out)
        have hb2 := Lib.hid (Lib.below_iterAt hb.out (k := w'.heap.size) HW0.out (s.extract k s.size) (pos + d.2))
        have HV2 := Lib.hid (HV.out.keep hb2.out)
        have HPOS : Hid (wr.iterPos w'.heap.size = pos) := by
          unfold Hid World.iterPos
          rw [hit.out]
        obtain ⟨W2, hW2⟩ : ∃ W2, W2 = wr.iterAt w'.heap.size (s.extract k s.size) (pos + d.2) := ⟨_, rfl⟩
        rw [← hW2] at hnx how2 hit2 hb2 HV2
        clear hW2 hit how hb htz hp'
        by_cases c34 : d.1 = 34
        · have c34' : ((d.1 : Int) == 34) = true := by rw [beq_iff_eq]; omega
          clear c34
          obtain ⟨a, cap, rfl, hml⟩ := own_form how2.out
          have HML := Lib.hid hml
          clear hml
          go_wp2
          rw [jumps_ret]
          go_ret3
          exact ⟨⟨_, _, _, _, _, rfl, HML.out, .inl ⟨rfl, by omega, by omega⟩⟩, hb2.out⟩
        have c34' : ((d.1 : Int) == 34) = false := by rw [beq_eq_false_iff_ne]; omega
        have hpk : pos + k ≤ s.size := by omega
        by_cases c92 : d.1 = 92
        · have c92' : ((d.1 : Int) == 92) = true := by rw [beq_iff_eq]; omega
          clear c34 c92
          have HE := Lib.hid (escape_any (s.extract (pos + k) s.size) W2 HV2.out (by simp; omega))
          go_wp2_with fail
          refine HE.out.mono ?_
          rintro e w3 ⟨⟨v2, xs2, z, rfl, hown2, hone2, hlen3, hz⟩, hb3⟩
          have HB3 := Lib.hid (below_after hb2.out hb2.out.size hb3)
          have HOW3 := Lib.hid (own_keep how2.out hb3)
          have hzs : (s.extract (pos + k) s.size).size = s.size - (pos + k) := by simp
          rw [hzs] at hz
          clear HE hb3 hzs
          rcases hz with rfl | ⟨hz1, hz2, hz3⟩
          · clear hown2 hone2
            go_wp2
            rw [jumps_ret]
            go_ret3
            exact ⟨⟨none, 0, 0, _, _, rfl, Nat.zero_le _, .inr ⟨by decide, by omega, by omega⟩⟩, HB3.out⟩
          · obtain ⟨g2, cap2, hv2⟩ := own_some hown2 (List.length_pos_iff.2 hz3)
            subst hv2
            have HCELLS := Lib.hid (hown2.cells (g := g2) rfl)
            have HONE2 := Lib.hid hone2
            have hz0 : (z == 0) = false := by rw [beq_eq_false_iff_ne]; omega
            clear hown2 hone2 hz3
            go_wp2_with (at_builtin; refine wpList_append_own _ rfl _ _ 74 rfl w.heap.size 5 i0 (.int .u8 0) 1 1 Tryz.underlying74 hi0 hz0' hz1' hz2' rfl (by decide) _ _ _ rfl HOW3.out ⟨g2, 0, none⟩ xs2.length cap2 xs2 rfl (by simp) ?c2 ?c3 ?c4 ?c5 ?c6 ?_)
            case c2 => exact HCELLS.out
            case c3 => exact HONE2.out
            case c4 => unfold maxLen; omega
            case c5 => omega
            case c6 => exact HB3.out.size
            intro v' w4 hown4 hgrow _
            have HB4 := Lib.hid (HB3.out.grown hgrow HB3.out.size (own_base HOW3.out))
            have HOW4 : Hid (w4.ownsRow w.heap.size 5 1 v' (xs ++ xs2).length (xs ++ xs2)) := by
              unfold Hid
              rw [List.length_append]
              exact hown4
            have HONE4 : Hid (∀ u ∈ xs ++ xs2, u.oneCell' = true) := fun u hu => by
              rcases List.mem_append.1 hu with h | h
              · exact hone.out u h
              · exact HONE2.out u h
            obtain ⟨z', hzz⟩ : ∃ z' : Nat, z = z' := ⟨z.toNat, by omega⟩
            subst hzz
            clear hown4 hgrow
            have hl4 : (xs ++ xs2).length ≤ 4 * (pos + k + z') := by rw [List.length_append]; omega
            have HL4 := Lib.hid hl4
            clear hl4
            go_wp2
            go_step3
            refine ⟨⟨rfl, v', xs ++ xs2, pos + k + z', _, _, _, _, _, _, _, _, _, _, _, _, _, _, _, _, _, _, _, _, _, _, _, _, _, _, _, _, _, _, _, _, _, _, _, _, _, _, _, _, _, _, _, _, _, _, _, _, _, _, _, _, _, _, _, _, _, _, _, _, _, _, _, _, _, _, rfl, by omega, by omega, HOW4.out, HONE4.out, HL4.out, HB4.out⟩, ?_⟩
            simp [intOf]
            omega
        have c92' : ((d.1 : Int) == 92) = false := by rw [beq_eq_false_iff_ne]; omega
        by_cases c10 : d.1 = 10
        · have c10' : ((d.1 : Int) == 10) = true := by rw [beq_iff_eq]; omega
          clear c34 c92 c10
          go_wp2
          rw [jumps_ret]
          go_ret3
          exact ⟨⟨none, 0, 0, _, _, rfl, Nat.zero_le _, .inr ⟨by decide, by omega, by omega⟩⟩, hb2.out⟩
        have c10' : ((d.1 : Int) == 10) = false := by rw [beq_eq_false_iff_ne]; omega
        clear c34 c92 c10
        by_cases c32 : d.1 < 32
        · have c32' : decide ((d.1 : Int) < 32) = true := decide_eq_true (by omega)
          go_wp2
          rw [jumps_ret]
          go_ret3
          exact ⟨⟨none, 0, 0, _, _, rfl, Nat.zero_le _, .inr ⟨by decide, by omega, by omega⟩⟩, hb2.out⟩
        have c32' : decide ((d.1 : Int) < 32) = false := decide_eq_false (by omega)
        by_cases c127 : d.1 = 127
        · have c127' : ((d.1 : Int) == 127) = true := by rw [beq_iff_eq]; omega
          clear c127
          go_wp2
          rw [jumps_ret]
          go_ret3
          exact ⟨⟨none, 0, 0, _, _, rfl, Nat.zero_le _, .inr ⟨by decide, by omega, by omega⟩⟩, hb2.out⟩
        have c127' : ((d.1 : Int) == 127) = false := by rw [beq_eq_false_iff_ne]; omega
        clear c127
        have HL := Lib.hid (loose_any s (pos + k) d.1 W2 HV2.out hpk)
        simp only [Int.natCast_add] at HL
        go_wp2_with fail
        refine HL.out.mono ?_
        rintro e w3 ⟨⟨b, rfl⟩, hb3⟩
        have HB3 := Lib.hid (below_after hb2.out hb2.out.size hb3)
        have HOW3 := Lib.hid (own_keep how2.out hb3)
        have HIT3 : Hid (w3.heap[w'.heap.size]? = some (.stringIter (s.extract k s.size) (pos + d.2))) := (hb3.block _ (Array.getElem?_eq_some_iff.1 hit2.out).1).trans hit2.out
        clear hb3 HL
        cases b with
        | true =>
          go_wp2
          rw [jumps_ret]
          go_ret3
          exact ⟨⟨none, 0, 0, _, _, rfl, Nat.zero_le _, .inr ⟨by decide, by omega, by omega⟩⟩, HB3.out⟩
        | false =>
          have HR := Lib.hid (Tryz.utf8_AppendRune_plain w.heap.size u4 xs.length xs d.1 (by omega) (by omega) w3 HOW3.out (by omega) HB3.out.size)
          go_wp2_with fail
          refine HR.out.mono ?_
          rintro e w4 ⟨v', rfl, hown4, ob, hgrow⟩
          have hrl := Lib.runeCells_le d.1
          have hlt3 : w'.heap.size < w3.heap.size := (Array.getElem?_eq_some_iff.1 HIT3.out).1
          have HB4 := Lib.hid ((HB3.out.alloc HB3.out.size ob).grown hgrow (Nat.le_trans HB3.out.size (by simp)) (own_base HOW3.out))
          have HIT4 : Hid (w4.heap[w'.heap.size]? = some (.stringIter (s.extract k s.size) (pos + d.2))) :=
            ((hgrow.block _ (by simp; omega) (iter_ne_own HOW3.out HIT3.out)).trans (Below.heap_alloc w3 ob _ hlt3)).trans HIT3.out
          have HOW4 : Hid (w4.ownsRow w.heap.size 5 1 v' (xs ++ Lib.runeCells d.1).length (xs ++ Lib.runeCells d.1)) := by
            unfold Hid
            rw [List.length_append]
            exact hown4
          have HONE4 : Hid (∀ u ∈ xs ++ Lib.runeCells d.1, u.oneCell' = true) := fun u hu => by
            rcases List.mem_append.1 hu with h | h
            · exact hone.out u h
            · exact runeCells_one _ u h
          have hl4 : (xs ++ Lib.runeCells d.1).length ≤ 4 * (k + (pos + d.2)) := by rw [List.length_append]; omega
          have HL4 := Lib.hid hl4
          clear hown4 hgrow HR hrl hl4
          go_wp2
          go_roundw
          case rel => exact ⟨xs ++ Lib.runeCells d.1, pos + d.2, rfl, rfl, rfl, HIT4, HOW4, HONE4, HL4.out, HB4⟩
          case measure =>
            have h4 : w4.iterPos w'.heap.size = pos + d.2 := by
              unfold World.iterPos
              rw [HIT4.out]
            rw [h4, HPOS.out]
            omega
      · have hp' : ¬ pos < (s.extract k s.size).size := by rw [htz]; exact hp
        have hnx : ∀ ty, (Instr.next (.pointer (some ⟨w'.heap.size, 0, none⟩)) true ty).run Tryz.prog wr = _ := fun ty => Lib.run_next_end_at wr w'.heap.size (s.extract k s.size) pos ty hit.out hp'
        clear htz hp'
        go_wp2
        rw [jumps_ret]
        go_ret3
        exact ⟨⟨none, 0, 0, _, _, rfl, Nat.zero_le _, .inr ⟨by decide, by omega, by omega⟩⟩, hb.out⟩
  · intro hl
    go_wp2
    go_step3
    rename_i K hK
    refine hK _ _ (hl 0 _ _ _ ⟨rfl, .slice none 0 0, [], 1, _, _, _, _, _, _, _, _, _, _, _, _, _, _, _, _, _, _, _, _, _, _, _, _, _, _, _, _, _, _, _, _, _, _, _, _, _, _, _, _, _, _, _, _, _, _, _, _, _, _, _, _, _, _, _, _, _, _, _, _, _, _, _, _, _, _, rfl, by omega, by omega, own_none _ _ _ _, by simp, by simp, Below.refl _ _⟩ rfl)
end Go.Proofs.YtbklijcdmiffaaaGreatDoor
