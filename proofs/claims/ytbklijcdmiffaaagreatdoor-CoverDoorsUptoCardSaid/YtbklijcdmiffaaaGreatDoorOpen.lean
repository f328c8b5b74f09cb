/-
  Opening the argument: what the reading of a network says of memory.
-/
import Derived.Test.YtbklijcdmiffaaaGreatDoorRows
import Derived.Test.YtbklijcdmiffaaaGreatDoorProg
import Derived.Test.YtbklijcdmiffaaaGreatDoorBase
import Derived.Deep.Slices
import Derived.Deep.Fields
import Derived.ChangeSame
import Derived.KernelRfl
namespace Go.Proofs.YtbklijcdmiffaaaGreatDoor
open Go.ChangeShapes Go.WideShapes Go.Deep

theorem bulk_part {H : Type} {d : DataW H} {l : List (DataW H)} (h : d ∈ l) : Rows.uptoBulk d ≤ Rows.uptoBulkAll l := by
  induction l with
  | nil => cases h
  | cons x r ih =>
    simp only [Rows.uptoBulkAll]
    rcases List.mem_cons.1 h with e | e
    · subst e; omega
    · have := ih e; omega
theorem bulk_one {H : Type} (d : DataW H) : 1 ≤ Rows.uptoBulk d := by
  cases d with
  | lit l => cases l <;> simp [Rows.uptoBulk]
  | nil => simp [Rows.uptoBulk]
  | ptr d => simp [Rows.uptoBulk]
  | slice elems spare => simp [Rows.uptoBulk]
  | agg parts => simp [Rows.uptoBulk]
  | iface t d => simp [Rows.uptoBulk]
  | map entries => simp [Rows.uptoBulk]
  | held h => simp [Rows.uptoBulk]
theorem bulk_length {H : Type} (l : List (DataW H)) : l.length ≤ Rows.uptoBulkAll l := by
  induction l with
  | nil => simp
  | cons x r ih => have := bulk_one x; simp only [Rows.uptoBulkAll, List.length_cons]; omega

section
variable {H : Type} {enc : TypeId × Value → H} {P : Program} {w : World} {base : Nat} {spare : Nat → Bool} {held : Bool}
/-- whatever of this type is read, of bulk at most so much, holds what E says -/
def ReadsAs {α : Type} (enc : TypeId × Value → H) (P : Program) (w : World) (base : Nat) (spare : Nat → Bool) (held : Bool) (t : TypeId) (E : World → List Value → α → Prop) : Prop :=
  ∀ fuel cs x, DataW.trod enc P w base spare held fuel t cs = some x → Rows.uptoBulk x.1 ≤ 1048576 → ∃ y, E w cs y
theorem reads_int {t : TypeId} (ht : P.underlying t = some (.int .i64)) : ReadsAs enc P w base spare held t intE := fun fuel cs x h _ => by
  obtain ⟨n, rfl, rfl, hw⟩ := DataW.trod_int ht h
  refine ⟨n, rfl, ?_⟩
  have h1 : IntKind.min .i64 = -9223372036854775808 := by decide
  have h2 : IntKind.max .i64 = 9223372036854775807 := by decide
  simp only [Lit.wf, Bool.and_eq_true, decide_eq_true_eq, h1, h2] at hw
  exact hw
theorem reads_bool {t : TypeId} (ht : P.underlying t = some .bool) : ReadsAs enc P w base spare held t boolE := fun fuel cs x h _ => by
  obtain ⟨b, rfl, rfl⟩ := DataW.trod_bool ht h
  exact ⟨b, rfl⟩
theorem reads_string {t : TypeId} (ht : P.underlying t = some .string) : ReadsAs enc P w base spare held t strE := fun fuel cs x h hB => by
  obtain ⟨s, rfl, rfl, -⟩ := DataW.trod_string ht h
  refine ⟨s, rfl, ?_⟩
  simp only [Rows.uptoBulk] at hB
  simp at hB
  omega
theorem reads_slice {α : Type} {t e : TypeId} {sz : Nat} {E : World → List Value → α → Prop} (ht : P.underlying t = some (.slice e)) (hc : P.cellsOf e = sz) (hE : ReadsAs enc P w base spare held e E) (hsz : 0 < sz) :
    ∀ fuel cs x, DataW.trod enc P w base spare held fuel t cs = some x → Rows.uptoBulk x.1 ≤ 1048576 → ∃ v l, cs = [v] ∧ Sl sz E w v l := by
  intro fuel cs x h hB
  rcases open_slice ht h with ⟨rfl, rfl⟩ | ⟨a, len, cap, m, n, D, Pl, rfl, hb, hl, hm, hmm, rfl, hx⟩
  · exact ⟨_, [], rfl, none, 0, rfl, Nat.le_refl _, Nat.zero_le _, fun i x hx => by simp at hx⟩
  · have hlm : len ≤ m := by rw [hmm]; split <;> omega
    have hel : ∀ i : Fin len, ∃ y : α, ∃ cs' : List Value, cs'.length = sz ∧ E w cs' y ∧ ∀ j u, cs'[j]? = some u → w.cell? (a.add (i.1 * sz + j)) = some u := fun i => by
      obtain ⟨cs', h1, h2⟩ := hx i.1 (by have := i.2; omega)
      rw [hc] at h1
      obtain ⟨_, h3, h4⟩ := World.cells?_some h1
      have hbi : Rows.uptoBulk (D i.1) ≤ 1048576 := by
        have : D i.1 ∈ (List.range len).map D := List.mem_map.2 ⟨i.1, List.mem_range.2 i.2, rfl⟩
        have := bulk_part this
        simp only [Rows.uptoBulk] at hB
        omega
      obtain ⟨y, hy⟩ := hE n cs' _ h2 hbi
      refine ⟨y, cs', h3, hy, fun j u hu => ?_⟩
      have hj : j < sz := by rw [← h3]; exact (List.getElem?_eq_some_iff.1 hu).1
      rw [← Go.Deep.add_add, h4 j hj, hu]
    have hlen : len ≤ 1048576 := by
      have h1 := bulk_length ((List.range len).map D)
      simp only [Rows.uptoBulk] at hB
      simp at h1
      omega
    let f : Fin len → α := fun i => Classical.choose (hel i)
    have hf : ∀ i : Fin len, ∃ cs' : List Value, cs'.length = sz ∧ E w cs' (f i) ∧ ∀ j u, cs'[j]? = some u → w.cell? (a.add (i.1 * sz + j)) = some u := fun i => Classical.choose_spec (hel i)
    refine ⟨_, List.ofFn f, rfl, some a, cap, by simp, by simpa using hl, by simpa using hlen, fun i y hy => ?_⟩
    have hi : i < len := by
      have := (List.getElem?_eq_some_iff.1 hy).1
      simpa using this
    obtain ⟨cs', h1, h2, h3⟩ := hf ⟨i, hi⟩
    have hy' : f ⟨i, hi⟩ = y := by
      rw [List.getElem?_ofFn] at hy
      simpa [hi] using hy
    rw [hy'] at h2
    obtain ⟨b, off, spot⟩ := a
    have hspot : spot = none := by
      obtain ⟨cs0, g1, -, g3⟩ := hf ⟨0, by omega⟩
      have h0 : cs0[0]? = some (cs0[0]'(by omega)) := List.getElem?_eq_getElem (by omega)
      have := World.cell?_spot (g3 0 _ h0)
      simpa [Addr.add] using this
    subst hspot
    exact ⟨b, off, cs', rfl, h1, h2, fun j u hu => by
      have := h3 j u hu
      rw [Go.WideShapes.add_plain] at this
      rw [Nat.add_assoc]
      exact this⟩
theorem reads_fields {t : TypeId} {fs : Array Field} (ht : P.underlying t = some (.struct fs)) (hone : oneCellFields P fs = true) (hC : P.cellsOf t = fs.size) {fuel : Nat} {cs : List Value} {x : DataW H × List MemPlace}
    (h : DataW.trod enc P w base spare held fuel t cs = some x) (hB : Rows.uptoBulk x.1 ≤ 1048576) :
    cs.length = fs.size ∧ ∃ n, ∀ (j : Nat) (f : Field), fs[j]? = some f → ∃ (v : Value) (y : DataW H × List MemPlace), cs[j]? = some v ∧ DataW.trod enc P w base spare held n f.type [v] = some y ∧ Rows.uptoBulk y.1 ≤ 1048576 := by
  obtain ⟨ys, n, -, rfl, hlen, hyl, hf⟩ := DataW.trod_struct ht h
  refine ⟨hlen.trans hC, n, fun j f hj => ?_⟩
  obtain ⟨ho, hk⟩ := hone_of hone j f hj
  have hjl : j < fs.size := (Array.getElem?_eq_some_iff.1 hj).1
  have hjc : j < cs.length := by omega
  have h1 := hf j f hj
  rw [ho, hk] at h1
  have hone' : (cs.drop j).take 1 = [cs[j]'hjc] := by
    rw [List.drop_eq_getElem_cons hjc]
    rfl
  rw [hone'] at h1
  have hys : ys[j]? = some (ys[j]'(by omega)) := List.getElem?_eq_getElem (by omega)
  refine ⟨_, _, List.getElem?_eq_getElem hjc, h1.trans hys, ?_⟩
  have hmem : (ys[j]'(by omega)).1 ∈ ys.map (·.1) := List.mem_map.2 ⟨_, List.getElem_mem _, rfl⟩
  have := bulk_part hmem
  simp only [Rows.uptoBulk] at hB
  omega
theorem list4 {cs : List Value} (h : cs.length = 4) {a b c d : Value} (ha : cs[0]? = some a) (hb : cs[1]? = some b) (hc : cs[2]? = some c) (hd : cs[3]? = some d) : cs = [a, b, c, d] := by
  match cs, h with
  | [_, _, _, _], _ =>
    simp at ha hb hc hd
    subst ha hb hc hd
    rfl
theorem list2 {cs : List Value} (h : cs.length = 2) {a b : Value} (ha : cs[0]? = some a) (hb : cs[1]? = some b) : cs = [a, b] := by
  match cs, h with
  | [_, _], _ =>
    simp at ha hb
    subst ha hb
    rfl
theorem list5 {cs : List Value} (h : cs.length = 5) {a b c d e : Value} (ha : cs[0]? = some a) (hb : cs[1]? = some b) (hc : cs[2]? = some c) (hd : cs[3]? = some d) (he : cs[4]? = some e) : cs = [a, b, c, d, e] := by
  match cs, h with
  | [_, _, _, _, _], _ =>
    simp at ha hb hc hd he
    subst ha hb hc hd he
    rfl
end
section
variable {H : Type} {enc : TypeId × Value → H} {w : World} {base : Nat} {spare : Nat → Bool} {held : Bool}
theorem reads_ints : ∀ fuel cs x, DataW.trod enc Tryz.prog w base spare held fuel 27 cs = some x → Rows.uptoBulk x.1 ≤ 1048576 → ∃ v l, cs = [v] ∧ Sl 1 intE w v l :=
  reads_slice (sz := 1) Tryz.underlying27 (by kernel_rfl) (reads_int Tryz.underlying3) (by decide)
theorem reads_strs : ∀ fuel cs x, DataW.trod enc Tryz.prog w base spare held fuel 44 cs = some x → Rows.uptoBulk x.1 ≤ 1048576 → ∃ v l, cs = [v] ∧ Sl 1 strE w v l :=
  reads_slice (sz := 1) Tryz.underlying44 (by kernel_rfl) (reads_string Tryz.underlying9) (by decide)
theorem one_eq {v u : Value} (h : [v] = [u]) : v = u := by simpa using h
theorem reads_port : ReadsAs enc Tryz.prog w base spare held 32 portE := fun fuel cs x h hB => by
  obtain ⟨hl, n, hf⟩ := reads_fields Tryz.underlying32 (by kernel_rfl) (by kernel_rfl) h hB
  obtain ⟨v0, y0, c0, t0, b0⟩ := hf 0 _ rfl
  obtain ⟨v1, y1, c1, t1, b1⟩ := hf 1 _ rfl
  obtain ⟨v2, y2, c2, t2, b2⟩ := hf 2 _ rfl
  obtain ⟨v3, y3, c3, t3, b3⟩ := hf 3 _ rfl
  obtain ⟨s, e0, hs⟩ := reads_string Tryz.underlying9 _ _ _ t0 b0
  obtain ⟨p, e1, hp⟩ := reads_int Tryz.underlying3 _ _ _ t1 b1
  obtain ⟨q, e2⟩ := reads_bool Tryz.underlying4 _ _ _ t2 b2
  obtain ⟨r, e3, hr⟩ := reads_int Tryz.underlying3 _ _ _ t3 b3
  obtain rfl := one_eq e0
  obtain rfl := one_eq e1
  obtain rfl := one_eq e2
  obtain rfl := one_eq e3
  exact ⟨⟨s, p, q, r⟩, list4 hl c0 c1 c2 c3, hs, hp, hr⟩
theorem reads_entry : ReadsAs enc Tryz.prog w base spare held 46 entryE := fun fuel cs x h hB => by
  obtain ⟨hl, n, hf⟩ := reads_fields Tryz.underlying46 (by kernel_rfl) (by kernel_rfl) h hB
  obtain ⟨v0, y0, c0, t0, b0⟩ := hf 0 _ rfl
  obtain ⟨v1, y1, c1, t1, b1⟩ := hf 1 _ rfl
  obtain ⟨v2, y2, c2, t2, b2⟩ := hf 2 _ rfl
  obtain ⟨v3, y3, c3, t3, b3⟩ := hf 3 _ rfl
  obtain ⟨v4, y4, c4, t4, b4⟩ := hf 4 _ rfl
  obtain ⟨s, e0, hs⟩ := reads_string Tryz.underlying9 _ _ _ t0 b0
  obtain ⟨u1, l1, e1, hp⟩ := reads_ints _ _ _ t1 b1
  obtain ⟨u2, l2, e2, hq⟩ := reads_strs _ _ _ t2 b2
  obtain ⟨r, e3, hr⟩ := reads_string Tryz.underlying9 _ _ _ t3 b3
  obtain ⟨u4, l4, e4, hz⟩ := reads_ints _ _ _ t4 b4
  obtain rfl := one_eq e0
  obtain rfl := one_eq e1
  obtain rfl := one_eq e2
  obtain rfl := one_eq e3
  obtain rfl := one_eq e4
  exact ⟨⟨s, l1, l2, r, l4⟩, _, _, _, list5 hl c0 c1 c2 c3 c4, hs, hr, hp, hq, hz⟩
theorem reads_guard : ReadsAs enc Tryz.prog w base spare held 50 guardE := fun fuel cs x h hB => by
  obtain ⟨hl, n, hf⟩ := reads_fields Tryz.underlying50 (by kernel_rfl) (by kernel_rfl) h hB
  obtain ⟨v0, y0, c0, t0, b0⟩ := hf 0 _ rfl
  obtain ⟨v1, y1, c1, t1, b1⟩ := hf 1 _ rfl
  obtain ⟨s, e0⟩ := reads_bool Tryz.underlying4 _ _ _ t0 b0
  obtain ⟨u1, l1, e1, hp⟩ := reads_strs _ _ _ t1 b1
  obtain rfl := one_eq e0
  obtain rfl := one_eq e1
  exact ⟨⟨s, l1⟩, _, list2 hl c0 c1, hp⟩
theorem reads_table : ReadsAs enc Tryz.prog w base spare held 42 tableE := fun fuel cs x h hB => by
  obtain ⟨v, l, e, hs⟩ := reads_slice (sz := 5) Tryz.underlying42 (by kernel_rfl) reads_entry (by decide) fuel cs x h hB
  exact ⟨l, v, e, hs⟩
theorem reads_guards : ReadsAs enc Tryz.prog w base spare held 47 guardsE := fun fuel cs x h hB => by
  obtain ⟨v, l, e, hs⟩ := reads_slice (sz := 2) Tryz.underlying47 (by kernel_rfl) reads_guard (by decide) fuel cs x h hB
  exact ⟨l, v, e, hs⟩
/-- A network that is read, of bulk at most so much, is one. -/
theorem reads_net : ReadsAs enc Tryz.prog w base spare held 26 netE := fun fuel cs x h hB => by
  obtain ⟨hl, n, hf⟩ := reads_fields Tryz.underlying26 (by kernel_rfl) (by kernel_rfl) h hB
  obtain ⟨v0, y0, c0, t0, b0⟩ := hf 0 _ rfl
  obtain ⟨v1, y1, c1, t1, b1⟩ := hf 1 _ rfl
  obtain ⟨v2, y2, c2, t2, b2⟩ := hf 2 _ rfl
  obtain ⟨v3, y3, c3, t3, b3⟩ := hf 3 _ rfl
  obtain ⟨s, e0, hs⟩ := reads_int Tryz.underlying3 _ _ _ t0 b0
  obtain ⟨u1, l1, e1, hp⟩ := reads_slice (sz := 4) Tryz.underlying22 (by kernel_rfl) reads_port (by decide) _ _ _ t1 b1
  obtain ⟨u2, l2, e2, hq⟩ := reads_slice (sz := 1) Tryz.underlying23 (by kernel_rfl) reads_table (by decide) _ _ _ t2 b2
  obtain ⟨u3, l3, e3, hr⟩ := reads_slice (sz := 1) Tryz.underlying24 (by kernel_rfl) reads_guards (by decide) _ _ _ t3 b3
  obtain rfl := one_eq e0
  obtain rfl := one_eq e1
  obtain rfl := one_eq e2
  obtain rfl := one_eq e3
  exact ⟨⟨s, l1, l2, l3⟩, _, _, _, list4 hl c0 c1 c2 c3, hs, hp, hq, hr⟩
end
end Go.Proofs.YtbklijcdmiffaaaGreatDoor
