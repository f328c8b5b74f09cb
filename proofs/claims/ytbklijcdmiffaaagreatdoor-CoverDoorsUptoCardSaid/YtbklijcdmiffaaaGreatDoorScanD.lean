/-
  What the package variables hold; the numbers of scan.
-/
import Derived.Test.YtbklijcdmiffaaaGreatDoorProg
import Derived.Test.YtbklijcdmiffaaaGreatDoorBase
import Derived.Test.YtbklijcdmiffaaaGreatDoorScanC
import Derived.WalkSmall
import Derived.WalkKit
import Derived.WalkSpells
import Derived.WalkLawsBesides
import Derived.Deep.QuietTactic
import Derived.BigQuiet
import Derived.Lib.Hide
import Derived.Deep.LoopGhost
namespace Go.Proofs.YtbklijcdmiffaaaGreatDoor
open Go.RowKit

def signsL : List ByteArray := [⟨#[33, 61]⟩, ⟨#[60, 61]⟩, ⟨#[62, 61]⟩, ⟨#[46, 46]⟩, ⟨#[45, 62]⟩, ⟨#[40]⟩, ⟨#[41]⟩, ⟨#[33]⟩, ⟨#[61]⟩, ⟨#[60]⟩, ⟨#[62]⟩, ⟨#[38]⟩, ⟨#[124]⟩, ⟨#[44]⟩, ⟨#[58]⟩, ⟨#[47]⟩]
structure Vars (w : World) : Prop where
  tab : Lib.TabIs Tryz.prog w "strings.asciiSpace" .u8 Lib.asciiSpaceTab
  utf : Lib.Utf8Tabs 4 5 w
  white : Lib.WhiteTab 1 w
  maxlen : ∃ m, w.cell? ⟨2, 0, none⟩ = some (.int .i64 m)
  errS : ∃ ev, w.cell? ⟨6, 0, none⟩ = some ev ∧ (ev = .nilIface ∨ ∃ te pe, ev = .iface te pe)
  errR : ∃ ev, w.cell? ⟨7, 0, none⟩ = some ev ∧ (ev = .nilIface ∨ ∃ te pe, ev = .iface te pe)
  signs : ∀ i s, signsL[i]? = some s → w.cell? ⟨3, i, none⟩ = some (.string s)
theorem asciiGlobal : Tryz.prog.globalNamed "strings.asciiSpace" = some 0 := by kernel_rfl
theorem Vars.keep {w w' : World} (h : Vars w) (hb : Below w.heap.size w w') : Vars w' := by
  have hk := Keeps.of_below hb
  refine ⟨?_, ⟨fun c hc => hk _ _ (h.utf.1 c hc), fun i hi => ⟨hk _ _ (h.utf.2 i hi).1, hk _ _ (h.utf.2 i hi).2⟩⟩, WhiteTab_below h.white hb, ?_, ?_, ?_, fun i s hs => hk _ _ (h.signs i s hs)⟩
  · refine var?_below hb asciiGlobal ?_ h.tab
    have := cell_lt (h.utf.1 0 (by omega))
    exact Nat.lt_of_le_of_lt (Nat.zero_le _) this
  · obtain ⟨m, hm⟩ := h.maxlen
    exact ⟨m, hk _ _ hm⟩
  · obtain ⟨m, hm, hx⟩ := h.errS
    exact ⟨m, hk _ _ hm, hx⟩
  · obtain ⟨m, hm, hx⟩ := h.errR
    exact ⟨m, hk _ _ hm, hx⟩
theorem Vars.quiet {w w' : World} (h : Vars w) (hb : Quiet w w') : Vars w' := h.keep (hb.below _)

/-- a number, and nil or an error -/
def PubRes (k : IntKind) (e : Ending) : Prop := ∃ (v : Int) (ev : Value), e = .returned (.tuple #[.int k v, ev]) ∧ (ev = .nilIface ∨ ∃ tt p, ev = .iface tt (.pointer (some p)))
set_option maxHeartbeats 1000000 in
theorem puint_of (t : ByteArray) (base : Int) (w : World) (hv : Vars w) (hs : t.size ≤ 64) (hc : Calls Tryz.prog 97 #[.string t, .int .i64 base, .int .i64 64] w fun e w' => UintRes 158 e ∧ Below w.heap.size w w') :
    Calls Tryz.prog 87 #[.string t, .int .i64 base, .int .i64 64] w fun e w' => PubRes .u64 e ∧ Below w.heap.size w w' := by
  have HC := Lib.hid hc
  have HV := Lib.hid hv
  clear hc hv
  go_enter Tryz.func87, Tryz.ntmps87
  go_wp2_with fail
  refine HC.out.mono ?_
  rintro e w1 ⟨hr, hb⟩
  have HV1 := Lib.hid (HV.out.keep hb)
  have HB := Lib.hid hb
  clear hb
  rcases hr with ⟨v, rfl⟩ | ⟨v, rfl⟩
  · go_wp2
    go_ret2
    exact ⟨⟨_, _, rfl, .inl rfl⟩, HB.out⟩
  · obtain ⟨ev, he, hev⟩ := HV1.out.errS
    have HE := Lib.hid (Tryz.strconv_toError_syntax ⟨#[80, 97, 114, 115, 101, 85, 105, 110, 116]⟩ t base 64 ev w1 (by omega) he hev)
    clear he hev
    go_wp2_with fail
    refine HE.out.mono ?_
    rintro e w2 ⟨N, rfl, -, -, hb2⟩
    have HB2 := Lib.hid (below_after HB.out HB.out.size hb2)
    clear hb2
    go_wp2
    go_ret2
    exact ⟨⟨_, _, rfl, .inr ⟨_, _, rfl⟩⟩, HB2.out⟩

theorem dropWhile_nil {l : List UInt8} {p : UInt8 → Bool} (h : l.dropWhile p = []) : ∀ b ∈ l, p b = true := by
  induction l with
  | nil => intro b hb; cases hb
  | cons x l ih =>
    rw [List.dropWhile_cons] at h
    by_cases hx : p x = true
    · rw [if_pos hx] at h
      intro b hb
      rcases List.mem_cons.1 hb with rfl | hb
      · exact hx
      · exact ih h b hb
    · rw [if_neg hx] at h
      cases h
theorem mem_takeWhile_p {l : List UInt8} {p : UInt8 → Bool} {b : UInt8} (h : b ∈ l.takeWhile p) : p b = true := by
  induction l with
  | nil => cases h
  | cons x l ih =>
    rw [List.takeWhile_cons] at h
    by_cases hx : p x = true
    · rw [if_pos hx] at h
      rcases List.mem_cons.1 h with rfl | h
      · exact hx
      · exact ih h
    · rw [if_neg hx] at h
      cases h
theorem trimS_nil {l cs : List UInt8} (h : Lib.trimS l cs = []) : ∀ b ∈ l, cs.contains b = true := by
  unfold Lib.trimS Lib.trimLeftS at h
  have h1 := dropWhile_nil h
  intro b hb
  unfold Lib.trimRightS at h1
  by_cases hm : b ∈ (l.reverse.dropWhile (cs.contains ·)).reverse
  · exact h1 b hm
  · -- b was dropped from the end
    have h2 : b ∈ l.reverse := List.mem_reverse.2 hb
    rw [← List.takeWhile_append_dropWhile (p := (cs.contains ·)) (l := l.reverse)] at h2
    rcases List.mem_append.1 h2 with h3 | h3
    · exact mem_takeWhile_p h3
    · exact absurd (List.mem_reverse.2 h3) hm
/-- all bytes of s are among cs -/
def madeOf (s : ByteArray) (cs : List UInt8) : Prop := ∀ b ∈ s.data.toList, cs.contains b = true
/-- plain answers a bool; true only if the text is made of these bytes -/
def Only (p : Prop) (e : Ending) : Prop := ∃ b : Bool, e = .returned (.bool b) ∧ (b = true → p)
set_option maxHeartbeats 1000000 in
theorem plain_any (s cs : ByteArray) (w : World) (hs : s.size ≤ 1048576) (hcs : cs.size ≤ 64) (hascii : ∀ (j : Nat) (b : UInt8), cs.data.toList[j]? = some b → b.toNat < 128) :
    Calls Tryz.prog 86 #[.string s, .string cs] w fun e w' => Only (madeOf s cs.data.toList) e ∧ Below w.heap.size w w' := by
  have HC := Lib.hid (Tryz.strings_Trim_laid s cs w (by omega) (by omega) hascii)
  have HT := Lib.hid (@trimS_nil s.data.toList cs.data.toList)
  generalize Lib.trimS s.data.toList cs.data.toList = L at *
  cases L with
  | nil =>
    go_enter Tryz.func86, Tryz.ntmps86
    go_wp2_with fail
    refine HC.out.mono ?_
    rintro e w1 ⟨rfl, hb⟩
    have HB := Lib.hid hb
    clear hb
    go_wp2
    go_ret
    exact ⟨⟨_, rfl, fun _ => HT.out (by trivial)⟩, HB.out⟩
  | cons x L =>
    go_enter Tryz.func86, Tryz.ntmps86
    go_wp2_with fail
    refine HC.out.mono ?_
    rintro e w1 ⟨rfl, hb⟩
    have HB := Lib.hid hb
    clear hb
    go_wp2
    go_ret
    exact ⟨⟨_, rfl, fun h => by simp at h⟩, HB.out⟩
end Go.Proofs.YtbklijcdmiffaaaGreatDoor
