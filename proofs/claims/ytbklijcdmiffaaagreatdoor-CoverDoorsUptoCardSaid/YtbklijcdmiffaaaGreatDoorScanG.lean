/-
  scan: pattern, loose, escape.
-/
import Derived.Test.YtbklijcdmiffaaaGreatDoorProg
import Derived.Test.YtbklijcdmiffaaaGreatDoorBase
import Derived.Test.YtbklijcdmiffaaaGreatDoorScanF
import Derived.Lib.OthersKept
import Derived.WalkKit
import Derived.WalkSpells
import Derived.WalkLawsBesides
import Derived.Deep.QuietTactic
import Derived.BigQuiet
import Derived.Lib.Hide
import Derived.Deep.LoopGhost
namespace Go.Proofs.YtbklijcdmiffaaaGreatDoor
open Go.RowKit

/-- some bool -/
def SomeBool (e : Ending) : Prop := ∃ b : Bool, e = .returned (.bool b)
set_option maxHeartbeats 1000000 in
theorem loose_any (s : ByteArray) (k : Nat) (c : Int) (w : World) (hv : Vars w) (hk : k ≤ s.size) :
    Calls Tryz.prog 82 #[.string s, .int .i64 k, .int .i32 c] w fun e w' => SomeBool e ∧ Below w.heap.size w w' := by
  by_cases hc : c = 65533
  · have hc' : (c != 65533) = false := by simp [hc]
    have HD := Lib.hid (Tryz.utf8_DecodeRuneInString (s.extract k s.size) w hv.utf)
    clear hc hv
    go_enter Tryz.func82, Tryz.ntmps82
    go_wp2_with fail
    refine HD.out.mono ?_
    rintro e w1 ⟨rfl, hb⟩
    have HB := Lib.hid hb
    clear hb HD
    generalize ((Lib.decodeGo (s.extract k s.size)).1 : Int) = r
    generalize ((Lib.decodeGo (s.extract k s.size)).2 : Int) = z
    go_wp2
    go_ret
    exact ⟨⟨_, rfl⟩, HB.out⟩
  · have hc' : (c != 65533) = true := by simpa using hc
    clear hc hv
    go_enter Tryz.func82, Tryz.ntmps82
    go_wp2
    go_ret
    exact ⟨⟨_, rfl⟩, Below.refl _ _⟩

theorem width_pos (s : ByteArray) (pos : Nat) (h : pos < s.size) : 1 ≤ (Utf8.decode s pos).2 := by
  by_cases ha : (s[pos]'h).toNat < 128
  · rw [decode_ascii s pos h ha]
    exact Nat.le_refl _
  · exact (decode_high s pos h (by omega)).2
set_option maxHeartbeats 1000000 in
theorem pattern_any (s : ByteArray) (w : World) :
    Calls Tryz.prog 71 #[.string s] w fun e w' => SomeBool e ∧ Below w.heap.size w w' := by
  go_enter Tryz.func71, Tryz.ntmps71
  go_wp2
  go_loopw [4] (fun _ w' => ∃ pos : Nat, w' = w.iter s pos) (fun _ w' => s.size - w'.iterPos w.heap.size)
  case atStart => exact ⟨0, rfl⟩
  case round =>
    obtain ⟨pos, rfl⟩ := hrel
    have hbel : Hid (∀ p, Below w.heap.size w (w.iter s p)) := fun p => (Below.refl _ _).alloc (Nat.le_refl _) _
    by_cases hp : pos < s.size
    · have hnx : ∀ ty, (Instr.next (.pointer (some ⟨w.heap.size, 0, none⟩)) true ty).run Tryz.prog (w.iter s pos) = _ := fun ty => run_next_any w s pos ty hp
      have hwd := width_pos s pos hp
      generalize Utf8.decode s pos = d at *
      have hcase : ((d.1 : Int) = 48) ∨ ((d.1 : Int) = 49) ∨ ((d.1 : Int) = 120) ∨ (((d.1 : Int) != 48) = true ∧ ((d.1 : Int) != 49) = true ∧ ((d.1 : Int) != 120) = true) := by
        simp only [bne_iff_ne]
        omega
      rcases hcase with h | h | h | ⟨h, h', h''⟩
      · have h1 : ((d.1 : Int) != 48) = false := by simp [h]
        clear h
        go_wp2
        go_roundw
        case rel => exact ⟨_, rfl⟩
        case measure => simp; omega
      · have h1 : ((d.1 : Int) != 48) = true := by simp [h]
        have h2 : ((d.1 : Int) != 49) = false := by simp [h]
        clear h
        go_wp2
        go_roundw
        case rel => exact ⟨_, rfl⟩
        case measure => simp; omega
      · have h1 : ((d.1 : Int) != 48) = true := by simp [h]
        have h2 : ((d.1 : Int) != 49) = true := by simp [h]
        have h3 : ((d.1 : Int) != 120) = false := by simp [h]
        clear h
        go_wp2
        go_roundw
        case rel => exact ⟨_, rfl⟩
        case measure => simp; omega
      · go_wp2
        go_ret
        exact ⟨⟨_, rfl⟩, hbel.out _⟩
    · have hnx : ∀ ty, (Instr.next (.pointer (some ⟨w.heap.size, 0, none⟩)) true ty).run Tryz.prog (w.iter s pos) = _ := fun ty => run_next_end w s pos ty hp
      by_cases h0 : s.size = 0
      · have h0' := empty_of h0
        clear h0
        go_wp2
        go_ret
        exact ⟨⟨_, rfl⟩, hbel.out _⟩
      · have h0' := full_of h0
        clear h0
        go_wp2
        go_ret
        exact ⟨⟨_, rfl⟩, hbel.out _⟩

/-- some bytes of the call's own, at most four, and a size: 0, or 2 at least and within the text -/
def EscRes (w w' : World) (s : ByteArray) (e : Ending) : Prop :=
  ∃ (v : Value) (xs : List Value) (z : Int), e = .returned (.tuple #[v, .int .i64 z]) ∧ w'.ownsRow w.heap.size 5 1 v xs.length xs ∧ (∀ u ∈ xs, u.oneCell' = true) ∧ xs.length ≤ 4 ∧ (z = 0 ∨ (2 ≤ z ∧ z ≤ s.size ∧ xs ≠ []))
theorem own_none (w : World) (B e size : Nat) : w.ownsRow B e size (.slice none 0 0) 0 [] := ⟨by simp, .inl ⟨rfl, rfl⟩⟩
theorem own_new (w : World) (e : Nat) (xs : List Value) (h : xs.length ≤ maxLen) : (w.alloc (.cells xs.toArray e)).ownsRow w.heap.size e 1 (.slice (some ⟨w.heap.size, 0, none⟩) xs.length xs.length) xs.length xs := by
  refine ⟨by simp, .inr ⟨w.heap.size, xs.length, xs.toArray, rfl, Nat.le_refl _, ?_, Nat.le_refl _, h, by simp, by simp⟩⟩
  show (w.heap.push _)[w.heap.size]? = _
  simp
theorem own_keep {w w' : World} {B e size n : Nat} {v : Value} {xs : List Value} (h : w.ownsRow B e size v n xs) (hb : Below w.heap.size w w') : w'.ownsRow B e size v n xs := by
  refine ⟨h.1, ?_⟩
  rcases h.2 with h0 | ⟨g, cap, cur, hv, hbg, hg, rest⟩
  · exact .inl h0
  · exact .inr ⟨g, cap, cur, hv, hbg, (hb.block g (Array.getElem?_eq_some_iff.1 hg).1).trans hg, rest⟩
theorem own_base_mono {w : World} {B B' e size n : Nat} {v : Value} {xs : List Value} (h : w.ownsRow B e size v n xs) (hB : B' ≤ B) : w.ownsRow B' e size v n xs := by
  refine ⟨h.1, ?_⟩
  rcases h.2 with h0 | ⟨g, cap, cur, hv, hbg, rest⟩
  · exact .inl h0
  · exact .inr ⟨g, cap, cur, hv, by omega, rest⟩
theorem idx_lt (c : UInt8) : Lib.indexByte [34, 92, 110, 114, 116] c < 5 := by
  simp only [Lib.indexByte]
  repeat' split
  all_goals omega
theorem index_len (sub : List UInt8) (hsub : sub ≠ []) : ∀ l : List UInt8, 0 ≤ Lib.index l sub → (Lib.index l sub).toNat + sub.length ≤ l.length := by
  intro l
  induction l with
  | nil =>
    intro h
    cases sub with
    | nil => exact absurd rfl hsub
    | cons x y => simp [Lib.index] at h
  | cons b l ih =>
    intro h
    unfold Lib.index at h ⊢
    by_cases hp : sub.isPrefixOf (b :: l) = true
    · rw [if_pos hp]
      have := (List.isPrefixOf_iff_prefix.1 hp).length_le
      simpa using this
    · rw [if_neg hp] at h ⊢
      by_cases hm : (Lib.index l sub == -1) = true
      · rw [if_pos hm] at h
        omega
      · rw [if_neg hm] at h ⊢
        have hge := Lib.index_ge l sub
        have hne : Lib.index l sub ≠ -1 := by simpa using hm
        have := ih (by omega)
        simp only [List.length_cons]
        omega
theorem cut_le (s sep : List UInt8) (hsep : sep ≠ []) : (Lib.cut s sep).1.length ≤ s.length ∧ ((Lib.cut s sep).2.2 = true → (Lib.cut s sep).1.length + sep.length ≤ s.length) := by
  unfold Lib.cut
  by_cases h : 0 ≤ Lib.index s sep
  · rw [if_pos h]
    have := index_len sep hsep s h
    simp only [List.length_take]
    exact ⟨by omega, fun _ => by omega⟩
  · rw [if_neg h]
    exact ⟨Nat.le_refl _, fun h => by cases h⟩
theorem runeCells_one (r : Int) : ∀ u ∈ Lib.runeCells r, u.oneCell' = true := by
  intro u hu
  unfold Lib.runeCells at hu
  obtain ⟨x, _, rfl⟩ := List.mem_map.1 hu
  rfl
set_option maxRecDepth 100000 in
set_option maxHeartbeats 2000000 in
theorem escape_any (s : ByteArray) (w : World) (hv : Vars w) (hs : s.size ≤ 1048576) :
    Calls Tryz.prog 81 #[.string s] w fun e w' => EscRes w w' s e ∧ Below w.heap.size w w' := by
  have HV := Lib.hid hv
  clear hv
  by_cases h2 : s.size < 2
  · go_enter Tryz.func81, Tryz.ntmps81
    go_wp2
    go_ret2
    exact ⟨⟨_, [], 0, rfl, own_none _ _ _ _, by simp, by simp, .inl rfl⟩, Below.refl _ _⟩
  have hs2 : 1 < s.size := by omega
  have HI := Lib.hid (Tryz.strings_IndexByte ⟨#[34, 92, 110, 114, 116]⟩ (s[1].toNat : Int) w)
  have hI5 : Lib.indexByte (⟨#[34, 92, 110, 114, 116]⟩ : ByteArray).data.toList (s[1].toNat : Int).toNat.toUInt8 < 5 := idx_lt _
  have hIge := Lib.indexByte_ge (⟨#[34, 92, 110, 114, 116]⟩ : ByteArray).data.toList (s[1].toNat : Int).toNat.toUInt8
  generalize Lib.indexByte (⟨#[34, 92, 110, 114, 116]⟩ : ByteArray).data.toList (s[1].toNat : Int).toNat.toUInt8 = r at *
  by_cases hr : 0 ≤ r
  · go_enter Tryz.func81, Tryz.ntmps81
    go_wp2_with fail
    refine HI.out.mono ?_
    rintro e w1 ⟨rfl, rfl⟩
    go_wp2
    go_ret2
    refine ⟨⟨_, [_], 2, rfl, own_new _ _ [_] (by simp [maxLen]), by simp [Value.oneCell'], by simp, .inr ⟨by omega, by omega, by simp⟩⟩, (Below.refl _ _).alloc (Nat.le_refl _) _⟩
  have hr' : r < 0 := by omega
  by_cases hx : s[1].toNat = 120
  · have hx' : ((s[1].toNat : Int) == 120) = true := by rw [beq_iff_eq]; omega
    clear hx
    by_cases h4 : 4 ≤ s.size
    · have HB1 := Lib.hid (based16_2 (s.extract 2 4) w HV.out (by simp; omega))
      go_enter Tryz.func81, Tryz.ntmps81
      go_wp2_with fail
      refine HI.out.mono ?_
      rintro e w1 ⟨rfl, rfl⟩
      go_wp2_with fail
      refine HB1.out.mono ?_
      rintro e w2 ⟨⟨y, b, rfl⟩, hb2⟩
      have HBX := Lib.hid hb2
      have HVX := Lib.hid (HV.out.keep hb2)
      clear hb2 HB1
      cases b with
      | true =>
        go_wp2
        go_ret2
        refine ⟨⟨_, [_], 4, rfl, own_base_mono (own_new _ _ [_] (by simp [maxLen])) HBX.out.size, by simp [Value.oneCell'], by simp, .inr ⟨by omega, by omega, by simp⟩⟩, HBX.out.alloc HBX.out.size _⟩
      | false =>
        obtain ⟨ml, hml⟩ := HVX.out.maxlen
        have HH := Lib.hid (Tryz.strings_HasPrefix s ⟨#[92, 117, 123]⟩ w2)
        have hp3 : Lib.hasPrefix s.data.toList (⟨#[92, 117, 123]⟩ : ByteArray).data.toList = true → 3 ≤ s.size := fun h => (List.isPrefixOf_iff_prefix.1 h).length_le
        generalize Lib.hasPrefix s.data.toList (⟨#[92, 117, 123]⟩ : ByteArray).data.toList = p at *
        cases p with
        | false =>
          clear hp3 hml
          go_wp2_with fail
          refine HH.out.mono ?_
          rintro e w1 ⟨rfl, rfl⟩
          go_wp2
          go_ret2
          exact ⟨⟨_, [], 0, rfl, own_none _ _ _ _, by simp, by simp, .inl rfl⟩, HBX.out⟩
        | true =>
          have hs3 : 3 ≤ s.size := hp3 rfl
          have hsz3 : (s.extract 3 s.size).size = s.size - 3 := by simp
          have HC := Lib.hid (Tryz.strings_Cut (s.extract 3 s.size) ⟨#[125]⟩ ml w2 (by omega) hml)
          obtain ⟨hcl, hcf⟩ := cut_le (s.extract 3 s.size).data.toList (⟨#[125]⟩ : ByteArray).data.toList (by simp)
          have hlen : (s.extract 3 s.size).data.toList.length = s.size - 3 := hsz3
          rw [hlen] at hcl hcf
          clear hp3 hml hlen hsz3
          generalize Lib.cut (s.extract 3 s.size).data.toList (⟨#[125]⟩ : ByteArray).data.toList = cc at *
          obtain ⟨D, E, f⟩ := cc
          go_wp2_with fail
          refine HH.out.mono ?_
          rintro e w1 ⟨rfl, rfl⟩
          go_wp2_with fail
          refine HC.out.mono ?_
          rintro e w2 ⟨rfl, nq, rfl⟩
          cases f with
          | false =>
            go_wp2
            go_ret2
            exact ⟨⟨_, [], 0, rfl, own_none _ _ _ _, by simp, by simp, .inl rfl⟩, below_drewN HBX.out _⟩
          | true =>
            have hD : D.length + 4 ≤ s.size := by
              have h := hcf rfl
              simp only [List.length_cons, List.length_nil] at h
              omega
            clear hcl hcf
            have HB2 := Lib.hid (based16_6 ⟨D.toArray⟩ (w1.drewN nq) (HVX.out.quiet ⟨nq, rfl⟩) (by rw [size_toArray]; omega))
            go_wp2_with fail
            refine HB2.out.mono ?_
            rintro e w3 ⟨⟨y, b, rfl⟩, hb3⟩
            have HB3 := Lib.hid (below_after (below_drewN HBX.out nq) HBX.out.size hb3)
            clear hb3 HB2
            cases b with
            | false =>
              go_wp2
              go_ret2
              exact ⟨⟨_, [], 0, rfl, own_none _ _ _ _, by simp, by simp, .inl rfl⟩, HB3.out⟩
            | true =>
              go_wp2_with fail
              refine (Tryz.utf8_ValidRune _ _).mono ?_
              rintro e w4 ⟨rfl, rfl⟩
              generalize Lib.validRune _ = vb
              cases vb with
              | false =>
                go_wp2
                go_ret2
                exact ⟨⟨_, [], 0, rfl, own_none _ _ _ _, by simp, by simp, .inl rfl⟩, HB3.out⟩
              | true =>
                go_wp2_with fail
                refine (Tryz.utf8_AppendRune_plain w4.heap.size (.slice none 0 0) 0 [] _ ?h0 ?h1 w4 (own_none _ _ _ _) (by omega) (Nat.le_refl _)).mono ?_
                case h0 => first | omega | (simp only [wrap32]; omega)
                case h1 => first | omega | (simp only [wrap32]; omega)
                rintro e w5 ⟨v, rfl, hown, ob, hgr⟩
                simp only [Nat.zero_add, List.nil_append] at hown
                have HOW := Lib.hid hown
                have HB5 := Lib.hid ((HB3.out.alloc HB3.out.size ob).grown hgr (Nat.le_trans HB3.out.size (by simp)) (by simp [Value.ownBlock]))
                have HLE := Lib.hid (Lib.runeCells_le)
                clear hown hgr
                go_wp2
                go_ret2
                exact ⟨⟨_, _, _, rfl, own_base_mono HOW.out HB3.out.size, runeCells_one _, (HLE.out _).2, .inr ⟨by omega, by omega, fun e => by first | omega | (have h9 := (HLE.out (wrap32 y)).1; rw [e] at h9; simp at h9)⟩⟩, HB5.out⟩
    · go_enter Tryz.func81, Tryz.ntmps81
      go_wp2_with fail
      refine HI.out.mono ?_
      rintro e w1 ⟨rfl, rfl⟩
      have HBX := Lib.hid (Below.refl w1.heap.size w1)
      have HVX := HV
      obtain ⟨ml, hml⟩ := HVX.out.maxlen
      have HH := Lib.hid (Tryz.strings_HasPrefix s ⟨#[92, 117, 123]⟩ w1)
      have hp3 : Lib.hasPrefix s.data.toList (⟨#[92, 117, 123]⟩ : ByteArray).data.toList = true → 3 ≤ s.size := fun h => (List.isPrefixOf_iff_prefix.1 h).length_le
      generalize Lib.hasPrefix s.data.toList (⟨#[92, 117, 123]⟩ : ByteArray).data.toList = p at *
      cases p with
      | false =>
        clear hp3 hml
        go_wp2_with fail
        refine HH.out.mono ?_
        rintro e w1 ⟨rfl, rfl⟩
        go_wp2
        go_ret2
        exact ⟨⟨_, [], 0, rfl, own_none _ _ _ _, by simp, by simp, .inl rfl⟩, HBX.out⟩
      | true =>
        have hs3 : 3 ≤ s.size := hp3 rfl
        have hsz3 : (s.extract 3 s.size).size = s.size - 3 := by simp
        have HC := Lib.hid (Tryz.strings_Cut (s.extract 3 s.size) ⟨#[125]⟩ ml w1 (by omega) hml)
        obtain ⟨hcl, hcf⟩ := cut_le (s.extract 3 s.size).data.toList (⟨#[125]⟩ : ByteArray).data.toList (by simp)
        have hlen : (s.extract 3 s.size).data.toList.length = s.size - 3 := hsz3
        rw [hlen] at hcl hcf
        clear hp3 hml hlen hsz3
        generalize Lib.cut (s.extract 3 s.size).data.toList (⟨#[125]⟩ : ByteArray).data.toList = cc at *
        obtain ⟨D, E, f⟩ := cc
        go_wp2_with fail
        refine HH.out.mono ?_
        rintro e w1 ⟨rfl, rfl⟩
        go_wp2_with fail
        refine HC.out.mono ?_
        rintro e w2 ⟨rfl, nq, rfl⟩
        cases f with
        | false =>
          go_wp2
          go_ret2
          exact ⟨⟨_, [], 0, rfl, own_none _ _ _ _, by simp, by simp, .inl rfl⟩, below_drewN HBX.out _⟩
        | true =>
          have hD : D.length + 4 ≤ s.size := by
            have h := hcf rfl
            simp only [List.length_cons, List.length_nil] at h
            omega
          clear hcl hcf
          have HB2 := Lib.hid (based16_6 ⟨D.toArray⟩ (w1.drewN nq) (HVX.out.quiet ⟨nq, rfl⟩) (by rw [size_toArray]; omega))
          go_wp2_with fail
          refine HB2.out.mono ?_
          rintro e w3 ⟨⟨y, b, rfl⟩, hb3⟩
          have HB3 := Lib.hid (below_after (below_drewN HBX.out nq) HBX.out.size hb3)
          clear hb3 HB2
          cases b with
          | false =>
            go_wp2
            go_ret2
            exact ⟨⟨_, [], 0, rfl, own_none _ _ _ _, by simp, by simp, .inl rfl⟩, HB3.out⟩
          | true =>
            go_wp2_with fail
            refine (Tryz.utf8_ValidRune _ _).mono ?_
            rintro e w4 ⟨rfl, rfl⟩
            generalize Lib.validRune _ = vb
            cases vb with
            | false =>
              go_wp2
              go_ret2
              exact ⟨⟨_, [], 0, rfl, own_none _ _ _ _, by simp, by simp, .inl rfl⟩, HB3.out⟩
            | true =>
              go_wp2_with fail
              refine (Tryz.utf8_AppendRune_plain w4.heap.size (.slice none 0 0) 0 [] _ ?h0 ?h1 w4 (own_none _ _ _ _) (by omega) (Nat.le_refl _)).mono ?_
              case h0 => first | omega | (simp only [wrap32]; omega)
              case h1 => first | omega | (simp only [wrap32]; omega)
              rintro e w5 ⟨v, rfl, hown, ob, hgr⟩
              simp only [Nat.zero_add, List.nil_append] at hown
              have HOW := Lib.hid hown
              have HB5 := Lib.hid ((HB3.out.alloc HB3.out.size ob).grown hgr (Nat.le_trans HB3.out.size (by simp)) (by simp [Value.ownBlock]))
              have HLE := Lib.hid (Lib.runeCells_le)
              clear hown hgr
              go_wp2
              go_ret2
              exact ⟨⟨_, _, _, rfl, own_base_mono HOW.out HB3.out.size, runeCells_one _, (HLE.out _).2, .inr ⟨by omega, by omega, fun e => by first | omega | (have h9 := (HLE.out (wrap32 y)).1; rw [e] at h9; simp at h9)⟩⟩, HB5.out⟩
  · have hx' : ((s[1].toNat : Int) == 120) = false := by rw [beq_eq_false_iff_ne]; omega
    clear hx
    go_enter Tryz.func81, Tryz.ntmps81
    go_wp2_with fail
    refine HI.out.mono ?_
    rintro e w1 ⟨rfl, rfl⟩
    have HBX := Lib.hid (Below.refl w1.heap.size w1)
    have HVX := HV
    obtain ⟨ml, hml⟩ := HVX.out.maxlen
    have HH := Lib.hid (Tryz.strings_HasPrefix s ⟨#[92, 117, 123]⟩ w1)
    have hp3 : Lib.hasPrefix s.data.toList (⟨#[92, 117, 123]⟩ : ByteArray).data.toList = true → 3 ≤ s.size := fun h => (List.isPrefixOf_iff_prefix.1 h).length_le
    generalize Lib.hasPrefix s.data.toList (⟨#[92, 117, 123]⟩ : ByteArray).data.toList = p at *
    cases p with
    | false =>
      clear hp3 hml
      go_wp2_with fail
      refine HH.out.mono ?_
      rintro e w1 ⟨rfl, rfl⟩
      go_wp2
      go_ret2
      exact ⟨⟨_, [], 0, rfl, own_none _ _ _ _, by simp, by simp, .inl rfl⟩, HBX.out⟩
    | true =>
      have hs3 : 3 ≤ s.size := hp3 rfl
      have hsz3 : (s.extract 3 s.size).size = s.size - 3 := by simp
      have HC := Lib.hid (Tryz.strings_Cut (s.extract 3 s.size) ⟨#[125]⟩ ml w1 (by omega) hml)
      obtain ⟨hcl, hcf⟩ := cut_le (s.extract 3 s.size).data.toList (⟨#[125]⟩ : ByteArray).data.toList (by simp)
      have hlen : (s.extract 3 s.size).data.toList.length = s.size - 3 := hsz3
      rw [hlen] at hcl hcf
      clear hp3 hml hlen hsz3
      generalize Lib.cut (s.extract 3 s.size).data.toList (⟨#[125]⟩ : ByteArray).data.toList = cc at *
      obtain ⟨D, E, f⟩ := cc
      go_wp2_with fail
      refine HH.out.mono ?_
      rintro e w1 ⟨rfl, rfl⟩
      go_wp2_with fail
      refine HC.out.mono ?_
      rintro e w2 ⟨rfl, nq, rfl⟩
      cases f with
      | false =>
        go_wp2
        go_ret2
        exact ⟨⟨_, [], 0, rfl, own_none _ _ _ _, by simp, by simp, .inl rfl⟩, below_drewN HBX.out _⟩
      | true =>
        have hD : D.length + 4 ≤ s.size := by
          have h := hcf rfl
          simp only [List.length_cons, List.length_nil] at h
          omega
        clear hcl hcf
        have HB2 := Lib.hid (based16_6 ⟨D.toArray⟩ (w1.drewN nq) (HVX.out.quiet ⟨nq, rfl⟩) (by rw [size_toArray]; omega))
        go_wp2_with fail
        refine HB2.out.mono ?_
        rintro e w3 ⟨⟨y, b, rfl⟩, hb3⟩
        have HB3 := Lib.hid (below_after (below_drewN HBX.out nq) HBX.out.size hb3)
        clear hb3 HB2
        cases b with
        | false =>
          go_wp2
          go_ret2
          exact ⟨⟨_, [], 0, rfl, own_none _ _ _ _, by simp, by simp, .inl rfl⟩, HB3.out⟩
        | true =>
          go_wp2_with fail
          refine (Tryz.utf8_ValidRune _ _).mono ?_
          rintro e w4 ⟨rfl, rfl⟩
          generalize Lib.validRune _ = vb
          cases vb with
          | false =>
            go_wp2
            go_ret2
            exact ⟨⟨_, [], 0, rfl, own_none _ _ _ _, by simp, by simp, .inl rfl⟩, HB3.out⟩
          | true =>
            go_wp2_with fail
            refine (Tryz.utf8_AppendRune_plain w4.heap.size (.slice none 0 0) 0 [] _ ?h0 ?h1 w4 (own_none _ _ _ _) (by omega) (Nat.le_refl _)).mono ?_
            case h0 => first | omega | (simp only [wrap32]; omega)
            case h1 => first | omega | (simp only [wrap32]; omega)
            rintro e w5 ⟨v, rfl, hown, ob, hgr⟩
            simp only [Nat.zero_add, List.nil_append] at hown
            have HOW := Lib.hid hown
            have HB5 := Lib.hid ((HB3.out.alloc HB3.out.size ob).grown hgr (Nat.le_trans HB3.out.size (by simp)) (by simp [Value.ownBlock]))
            have HLE := Lib.hid (Lib.runeCells_le)
            clear hown hgr
            go_wp2
            go_ret2
            exact ⟨⟨_, _, _, rfl, own_base_mono HOW.out HB3.out.size, runeCells_one _, (HLE.out _).2, .inr ⟨by omega, by omega, fun e => by first | omega | (have h9 := (HLE.out (wrap32 y)).1; rw [e] at h9; simp at h9)⟩⟩, HB5.out⟩
end Go.Proofs.YtbklijcdmiffaaaGreatDoor
