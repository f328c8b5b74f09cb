/-
  Rows that grow by append, under a mask; networks with marked room. No program in sight.
-/
import Derived.Test.YtbklijcdmiffaaaGreatDoorBase
import Derived.Test.YtbklijcdmiffaaaGreatDoorRoom
import Derived.Test.YtbklijcdmiffaaaGreatDoorRoomB
import Derived.Deep.AppendLies
namespace Go.Proofs.YtbklijcdmiffaaaGreatDoor
open Go.RowKit

def ownL (v : Value) : List Nat := v.ownBlock.toList
theorem mem_ownL {v : Value} {b : Nat} : b ∈ ownL v ↔ v.ownBlock = some b := by
  unfold ownL
  simp [Option.mem_toList]
theorem ownL_nil : ownL (.slice none 0 0) = [] := rfl
theorem ownL_some (g n cap : Nat) : ownL (.slice (some ⟨g, 0, none⟩) n cap) = [g] := rfl
/-- a row that grows: its elements hold what E says under the mask -/
def RowOf {α : Type} (sz : Nat) (E : World → List Value → α → Prop) (M : List Nat) (t : TypeId) (w : World) (B : Nat) (v : Value) (l : List α) : Prop :=
  ∃ css : List (List Value), w.ownsRow B t sz v l.length css.flatten ∧ css.length = l.length ∧ ∀ (i : Nat) (cs : List Value) (x : α), css[i]? = some cs → l[i]? = some x → cs.length = sz ∧ E (mask M w) cs x
section
variable {α : Type} {sz : Nat} {E : World → List Value → α → Prop} {M M' : List Nat} {t : TypeId} {w w' : World} {B : Nat} {v v' : Value} {l : List α}
theorem RowOf.nil (E : World → List Value → α → Prop) (M : List Nat) (t : TypeId) (w : World) (B : Nat) : RowOf sz E M t w B (.slice none 0 0) ([] : List α) :=
  ⟨[], by simpa using World.ownsRow_nil w B t sz, rfl, fun i cs x h => by simp at h⟩
theorem RowOf.lt (h : RowOf sz E M t w B v l) {b : Nat} (hb : v.ownBlock = some b) : B ≤ b ∧ b < w.heap.size := by
  obtain ⟨css, h1, -, -⟩ := h
  exact h1.lt b hb
theorem RowOf.keep (h : RowOf sz E M t w B v l) (hk : Keeps (mask M w) (mask M' w')) (hE : Stays E) (hb : ∀ b, v.ownBlock = some b → w'.heap[b]? = w.heap[b]?) : RowOf sz E M' t w' B v l := by
  obtain ⟨css, h1, h2, h3⟩ := h
  refine ⟨css, ⟨h1.1, ?_⟩, h2, fun i cs x hc hx => ⟨(h3 i cs x hc hx).1, hE _ _ hk _ _ (h3 i cs x hc hx).2⟩⟩
  rcases h1.2 with h0 | ⟨g, cap, cur, rfl, hg, hh, rest⟩
  · exact .inl h0
  · exact .inr ⟨g, cap, cur, rfl, hg, (hb g rfl).trans hh, rest⟩
theorem flat_at {css : List (List Value)} {sz : Nat} (hs : ∀ cs ∈ css, cs.length = sz) {i : Nat} {cs : List Value} (hi : css[i]? = some cs) {j : Nat} {u : Value} (hj : cs[j]? = some u) : css.flatten[i * sz + j]? = some u := by
  induction css generalizing i with
  | nil => simp at hi
  | cons c r ih =>
    have hc : c.length = sz := hs c (by simp)
    cases i with
    | zero =>
      simp only [List.getElem?_cons_zero, Option.some.injEq] at hi
      subst hi
      have hlt : j < c.length := (List.getElem?_eq_some_iff.1 hj).1
      rw [List.flatten_cons, List.getElem?_append_left (by omega)]
      simpa using hj
    | succ i =>
      simp only [List.getElem?_cons_succ] at hi
      have h1 : (i + 1) * sz + j = c.length + (i * sz + j) := by rw [Nat.succ_mul]; omega
      rw [List.flatten_cons, h1, List.getElem?_append_right (by omega), Nat.add_sub_cancel_left]
      exact ih (fun cs h => hs cs (by simp [h])) hi
theorem RowOf.sl (h : RowOf sz E M t w B v l) (hl : l.length ≤ 1048576) (hE : Stays E) (M' : List Nat) (hM : ∀ b, b ∈ M' → b ∈ M) (hv : ∀ b, v.ownBlock = some b → b ∉ M') : Sl sz E (mask M' w) v l := by
  obtain ⟨css, h1, h2, h3⟩ := h
  rcases h1.2 with ⟨rfl, h0⟩ | ⟨g, cap, cur, rfl, hg, hh, hn, hc, hs, ht⟩
  · obtain rfl := List.eq_nil_of_length_eq_zero h0
    exact sl_nil _ _ _
  · refine ⟨_, cap, rfl, hn, hl, fun i x hx => ?_⟩
    have hi : i < l.length := (List.getElem?_eq_some_iff.1 hx).1
    have hic : css[i]? = some css[i] := List.getElem?_eq_getElem (by omega)
    obtain ⟨e1, e2⟩ := h3 i _ x hic hx
    refine ⟨g, 0, css[i], rfl, e1, hE _ _ (mask_down M w hM) _ _ e2, fun j u hu => ?_⟩
    have hall : ∀ cs ∈ css, cs.length = sz := fun cs hcs => by
      obtain ⟨k, hk, rfl⟩ := List.mem_iff_getElem.1 hcs
      exact (h3 k _ l[k] (List.getElem?_eq_getElem hk) (List.getElem?_eq_getElem (by omega))).1
    have hf := flat_at hall hic hu
    refine mask_cell ?_ (hv g rfl)
    rw [cell_of_row w g _ cur t (0, 0) hh, Nat.zero_add]
    rw [← ht] at hf
    have hj : j < sz := by rw [← e1]; exact (List.getElem?_eq_some_iff.1 hu).1
    have hlt : i * sz + j < l.length * sz := by
      have := Nat.mul_le_mul_right sz (show i + 1 ≤ l.length by omega)
      rw [Nat.succ_mul] at this
      omega
    rw [List.getElem?_take_of_lt hlt] at hf
    simpa using hf
theorem RowOf.push {css : List (List Value)} (h2 : css.length = l.length) (h3 : ∀ (i : Nat) (cs : List Value) (x : α), css[i]? = some cs → l[i]? = some x → cs.length = sz ∧ E (mask M w) cs x) (hk : Keeps (mask M w) (mask M' w')) (hE : Stays E) {n : Nat} (hn : n = l.length + 1) {cs : List Value} {x : α}
    (hown : w'.ownsRow B t sz v' n (css.flatten ++ cs)) (hcs : cs.length = sz) (hx : E (mask M' w') cs x) : RowOf sz E M' t w' B v' (l ++ [x]) := by
  subst hn
  refine ⟨css ++ [cs], by simpa using hown, by simp [h2], fun i c y hc hy => ?_⟩
  rcases Nat.lt_or_ge i l.length with hlt | hge
  · rw [List.getElem?_append_left (by omega)] at hc
    rw [List.getElem?_append_left hlt] at hy
    exact ⟨(h3 i c y hc hy).1, hE _ _ hk _ _ (h3 i c y hc hy).2⟩
  · rcases Nat.eq_or_lt_of_le hge with he | hgt
    · subst he
      rw [List.getElem?_append_right (Nat.le_refl _)] at hy
      rw [List.getElem?_append_right (by omega)] at hc
      simp [h2] at hc hy
      subst hc hy
      exact ⟨hcs, hx⟩
    · rw [List.getElem?_eq_none (by simp; omega)] at hy
      cases hy
end
/-- what an append does to a mask: the row's block out, the new one's in -/
theorem grow_mask {A : List Nat} {w w' : World} {v : Value} {g : Nat} (hg : w.grownBy w' v.ownBlock) (hat : v.ownBlock = some g ∨ g = w.heap.size) : Keeps (mask (A ++ ownL v) w) (mask (A ++ [g]) w') :=
  mask_more (KeepsX.grown hg fun k hk => List.mem_append_right _ (mem_ownL.2 hk)) fun b hb => by
    rcases List.mem_append.1 hb with h | h
    · exact .inl (List.mem_append_left _ h)
    · simp only [List.mem_singleton] at h
      subst h
      rcases hat with h | h
      · exact .inl (List.mem_append_right _ (mem_ownL.2 h))
      · exact .inr (Nat.le_of_eq h.symm)
theorem mask_set {M : List Nat} {w : World} (a : Addr) (v : Value) (ha : a.block ∈ M) : Keeps (mask M w) (mask M (w.setCell a v)) := (KeepsX.setCell w M a v ha).mask
theorem mask_below {M : List Nat} {w w' : World} (h : Below w.heap.size w w') : Keeps (mask M w) (mask M w') := ((Keeps.of_below h).x M).mask
theorem mask_drewN (M : List Nat) (w : World) (n : Nat) : Keeps (mask M w) (mask M (w.drewN n)) := fun p u h => by
  rw [cell_mask] at h ⊢
  exact h
theorem mask_none (w : World) : Keeps w (mask [] w) := fun p u h => mask_cell h (by simp)
theorem mask_of {M : List Nat} {w : World} (h : ∀ b, b ∈ M → w.heap.size ≤ b) : Keeps w (mask M w) := keeps_mask (Keeps.refl w) h

theorem portE_stays : Stays portE := fun _ _ _ _ _ h => h
theorem tableE_stays : Stays tableE := fun _ _ hk cs x h => tableE_keep hk cs x h
theorem guardsE_stays : Stays guardsE := fun _ _ hk cs x h => guardsE_keep hk cs x h
/-- a table, a guard and a network whose entries' and lines' lists have marked room -/
def tableK (w : World) (cs : List Value) (x : List EntryD) : Prop := ∃ v, cs = [v] ∧ Sl 5 entryR w v x
def guardsK (w : World) (cs : List Value) (x : List GuardD) : Prop := ∃ v, cs = [v] ∧ Sl 2 guardR w v x
def netK (w : World) (cs : List Value) (n : NetD) : Prop :=
  ∃ vp vt vg, cs = [.int .i64 n.bits, vp, vt, vg] ∧ I64 n.bits ∧ Sl 4 portE w vp n.ports ∧ Sl 1 tableK w vt n.tables ∧ Sl 1 guardsK w vg n.guards
theorem Sl.stay {α : Type} {sz : Nat} {E : World → List Value → α → Prop} {w w' : World} {v : Value} {l : List α} (h : Sl sz E w v l) (hk : Keeps w w') (hE : Stays E) : Sl sz E w' v l := h.keep hk fun _ _ e => hE _ _ hk _ _ e
theorem SlA.stay {α : Type} {sz : Nat} {E : World → List Value → α → Prop} {w w' : World} {a : Option Addr} {l : List α} (h : SlA sz E w a l) (hk : Keeps w w') (hE : Stays E) : SlA sz E w' a l := h.keep hk fun _ _ e => hE _ _ hk _ _ e
theorem Sl.to {α : Type} {sz : Nat} {E E' : World → List Value → α → Prop} {w : World} {v : Value} {l : List α} (h : Sl sz E w v l) (hE : ∀ cs x, E w cs x → E' w cs x) : Sl sz E' w v l :=
  let ⟨a, cap, hv, hc, h1, h2⟩ := h; ⟨a, cap, hv, hc, h1, fun i x hx => let ⟨b, off, cs, ha, hl, he, hcs⟩ := h2 i x hx; ⟨b, off, cs, ha, hl, hE _ _ he, hcs⟩⟩
theorem tableK_stays : Stays tableK := fun _ _ hk _ _ ⟨v, h1, h2⟩ => ⟨v, h1, h2.stay hk entryR_stays⟩
theorem guardsK_stays : Stays guardsK := fun _ _ hk _ _ ⟨v, h1, h2⟩ => ⟨v, h1, h2.stay hk guardR_stays⟩
theorem netK_stays : Stays netK := fun _ _ hk _ _ ⟨vp, vt, vg, h1, h2, h3, h4, h5⟩ => ⟨vp, vt, vg, h1, h2, h3.stay hk portE_stays, h4.stay hk tableK_stays, h5.stay hk guardsK_stays⟩
theorem netK_plain {w : World} {cs : List Value} {n : NetD} (h : netK w cs n) : netE w cs n :=
  let ⟨vp, vt, vg, h1, h2, h3, h4, h5⟩ := h
  ⟨vp, vt, vg, h1, h2, h3, h4.to fun _ _ ⟨v, e1, e2⟩ => ⟨v, e1, e2.to fun _ _ e => entryR_plain e⟩, h5.to fun _ _ ⟨v, e1, e2⟩ => ⟨v, e1, e2.to fun _ _ e => guardR_plain e⟩⟩
/-- the same with marked room behind the outer lists too -/
def tableR (w : World) (cs : List Value) (x : List EntryD) : Prop := ∃ v, cs = [v] ∧ RoomS 5 entryR entryE w v x [em1, em2]
def guardsR (w : World) (cs : List Value) (x : List GuardD) : Prop := ∃ v, cs = [v] ∧ RoomS 2 guardR guardE w v x [gm1, gm2]
def pm1 : PortD := ⟨mark1, 0, false, 0⟩
def netR (w : World) (cs : List Value) (n : NetD) : Prop :=
  ∃ vp vt vg, cs = [.int .i64 n.bits, vp, vt, vg] ∧ I64 n.bits ∧ RoomS 4 portE portE w vp n.ports [pm1] ∧ RoomS 1 tableR tableE w vt n.tables [[em1]] ∧ RoomS 1 guardsR guardsE w vg n.guards [[gm1]]
theorem tableR_stays : Stays tableR := fun _ _ hk _ _ ⟨v, h1, h2⟩ => ⟨v, h1, h2.keep hk entryR_stays entryE_stays⟩
theorem guardsR_stays : Stays guardsR := fun _ _ hk _ _ ⟨v, h1, h2⟩ => ⟨v, h1, h2.keep hk guardR_stays guardE_stays⟩
theorem netR_stays : Stays netR := fun _ _ hk _ _ ⟨vp, vt, vg, h1, h2, h3, h4, h5⟩ => ⟨vp, vt, vg, h1, h2, h3.keep hk portE_stays portE_stays, h4.keep hk tableR_stays tableE_stays, h5.keep hk guardsR_stays guardsE_stays⟩
theorem netR_K {w : World} {cs : List Value} {n : NetD} (h : netR w cs n) : netK w cs n :=
  let ⟨vp, vt, vg, h1, h2, h3, h4, h5⟩ := h
  ⟨vp, vt, vg, h1, h2, h3.sl fun _ _ e => e, h4.sl fun _ _ ⟨v, e1, e2⟩ => ⟨v, e1, e2.sl fun _ _ e => e⟩, h5.sl fun _ _ ⟨v, e1, e2⟩ => ⟨v, e1, e2.sl fun _ _ e => e⟩⟩
theorem netR_plain {w : World} {cs : List Value} {n : NetD} (h : netR w cs n) : netE w cs n := netK_plain (netR_K h)
section
variable {w : World} {a : Option Addr}
theorem tablesK_at {l : List (List EntryD)} (h : SlA 1 tableK w a l) {k : Nat} (hk : k < l.length) : ∃ b off v, a = some ⟨b, off, none⟩ ∧ w.cell? ⟨b, off + k, none⟩ = some v ∧ Sl 5 entryR w v l[k] := by
  obtain ⟨b, off, cs, ha, _, ⟨v, rfl, h1⟩, hc⟩ := h.get hk
  exact ⟨b, off, v, ha, by simpa using hc 0 _ rfl, h1⟩
theorem guardsK_at {l : List (List GuardD)} (h : SlA 1 guardsK w a l) {k : Nat} (hk : k < l.length) : ∃ b off v, a = some ⟨b, off, none⟩ ∧ w.cell? ⟨b, off + k, none⟩ = some v ∧ Sl 2 guardR w v l[k] := by
  obtain ⟨b, off, cs, ha, _, ⟨v, rfl, h1⟩, hc⟩ := h.get hk
  exact ⟨b, off, v, ha, by simpa using hc 0 _ rfl, h1⟩
theorem entriesR_at {l : List EntryD} (h : SlA 5 entryR w a l) {k : Nat} (hk : k < l.length) : ∃ b off vi vc vo, a = some ⟨b, off, none⟩ ∧
    w.cell? ⟨b, off + k * 5, none⟩ = some (.string l[k].name) ∧ w.cell? ⟨b, off + k * 5 + 1, none⟩ = some vi ∧ w.cell? ⟨b, off + k * 5 + 2, none⟩ = some vc ∧
    w.cell? ⟨b, off + k * 5 + 3, none⟩ = some (.string l[k].write) ∧ w.cell? ⟨b, off + k * 5 + 4, none⟩ = some vo ∧ entryR w [.string l[k].name, vi, vc, .string l[k].write, vo] l[k] := by
  obtain ⟨b, off, cs, ha, _, ⟨vi, vc, vo, rfl, h1⟩, hc⟩ := h.get hk
  exact ⟨b, off, vi, vc, vo, ha, hc 0 _ rfl, hc 1 _ rfl, hc 2 _ rfl, hc 3 _ rfl, hc 4 _ rfl, ⟨vi, vc, vo, rfl, h1⟩⟩
theorem guardsLR_at {l : List GuardD} (h : SlA 2 guardR w a l) {k : Nat} (hk : k < l.length) : ∃ b off vc, a = some ⟨b, off, none⟩ ∧
    w.cell? ⟨b, off + k * 2, none⟩ = some (.bool l[k].permit) ∧ w.cell? ⟨b, off + k * 2 + 1, none⟩ = some vc ∧ guardR w [.bool l[k].permit, vc] l[k] := by
  obtain ⟨b, off, cs, ha, _, ⟨vc, rfl, h1⟩, hc⟩ := h.get hk
  exact ⟨b, off, vc, ha, hc 0 _ rfl, hc 1 _ rfl, ⟨vc, rfl, h1⟩⟩
end
theorem entryR_one {w : World} {cs : List Value} {x : EntryD} (h : entryR w cs x) : ∀ u ∈ cs, u.oneCell' = true := by
  obtain ⟨vi, vc, vo, rfl, -, -, ⟨_, _, rfl, -⟩, ⟨_, _, rfl, -⟩, ⟨_, _, rfl, -⟩⟩ := h
  simp [Value.oneCell']
theorem guardR_one {w : World} {cs : List Value} {x : GuardD} (h : guardR w cs x) : ∀ u ∈ cs, u.oneCell' = true := by
  obtain ⟨vc, rfl, ⟨_, _, rfl, -⟩⟩ := h
  simp [Value.oneCell']
end Go.Proofs.YtbklijcdmiffaaaGreatDoor
