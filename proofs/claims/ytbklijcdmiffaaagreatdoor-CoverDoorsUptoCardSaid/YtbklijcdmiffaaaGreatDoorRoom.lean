/-
  Lists that are made and filled place by place, and lists with room behind their ends. No program in sight.
-/
import Derived.Test.YtbklijcdmiffaaaGreatDoorBase
import Derived.Deep.OwnRows
import Derived.Deep.MidRow
namespace Go.Proofs.YtbklijcdmiffaaaGreatDoor
open Go.RowKit

/-- w with the blocks of M blank -/
def mask (M : List Nat) (w : World) : World := { w with heap := w.heap.mapIdx fun i o => if i ∈ M then .cells #[] 0 (0, 0) else o }
theorem cell_mask (M : List Nat) (w : World) (p : Addr) : (mask M w).cell? p = if p.block ∈ M then none else w.cell? p := by
  unfold mask World.cell?
  simp only [Array.getElem?_mapIdx]
  by_cases hM : p.block ∈ M
  · simp only [hM, if_true]
    cases hw : w.heap[p.block]? with
    | none => simp
    | some o => simp
  · simp only [hM, if_false]
    cases hw : w.heap[p.block]? with
    | none => simp
    | some o => simp
theorem mask_keeps (M : List Nat) (w : World) : Keeps (mask M w) w := fun p u h => by
  rw [cell_mask] at h
  split at h
  · cases h
  · exact h
/-- cells outside M stand -/
def KeepsX (M : List Nat) (w w' : World) : Prop := ∀ p u, p.block ∉ M → w.cell? p = some u → w'.cell? p = some u
theorem Keeps.x {w w' : World} (h : Keeps w w') (M : List Nat) : KeepsX M w w' := fun _ _ _ hp => h _ _ hp
theorem KeepsX.trans {M : List Nat} {a b c : World} (h : KeepsX M a b) (k : KeepsX M b c) : KeepsX M a c := fun p u hp hc => k p u hp (h p u hp hc)
theorem KeepsX.setCell (w : World) (M : List Nat) (a : Addr) (v : Value) (ha : a.block ∈ M) : KeepsX M w (w.setCell a v) := fun p u hp hc => by
  rw [World.cell?_setCell_other _ _ _ _ (fun e => hp (by rw [← e]; exact ha))]
  exact hc
theorem KeepsX.setCells (M : List Nat) (b : Nat) (hb : b ∈ M) : ∀ (vs : List Value) (o : Nat) (w : World), KeepsX M w (w.setCells b o vs)
  | [], _, _ => fun _ _ _ h => h
  | v :: r, o, w => by
    rw [World.setCells]
    exact (KeepsX.setCell w M ⟨b, o, none⟩ v hb).trans (KeepsX.setCells M b hb r (o + 1) _)
theorem KeepsX.grown {w w' : World} {M : List Nat} {row : Option Nat} (hg : w.grownBy w' row) (hr : ∀ k, row = some k → k ∈ M) : KeepsX M w w' := fun _ _ hp hc =>
  (World.cell?_of_block (hg.block _ (cell_lt hc) (fun e => hp (hr _ e.symm)))).trans hc
theorem KeepsX.mask {M : List Nat} {w w' : World} (h : KeepsX M w w') : Keeps (mask M w) (mask M w') := fun p u hp => by
  rw [cell_mask] at hp ⊢
  split at hp
  · cases hp
  · rename_i hM
    rw [if_neg hM]
    exact h p u hM hp
/-- more is masked: what is new -/
theorem mask_more {M M' : List Nat} {w w' : World} (h : KeepsX M w w') (hM : ∀ b, b ∈ M' → b ∈ M ∨ w.heap.size ≤ b) : Keeps (mask M w) (mask M' w') := fun p u hp => by
  rw [cell_mask] at hp ⊢
  split at hp
  · cases hp
  · rename_i hn
    rw [if_neg (fun hm => by
      rcases hM _ hm with h1 | h1
      · exact hn h1
      · have := cell_lt hp
        omega)]
    exact h p u hn hp
theorem mask_down (M : List Nat) (w : World) {M' : List Nat} (h : ∀ b, b ∈ M' → b ∈ M) : Keeps (mask M w) (mask M' w) := fun p u hp => by
  rw [cell_mask] at hp ⊢
  split at hp
  · cases hp
  · rename_i hn
    rw [if_neg (fun hm => hn (h _ hm))]
    exact hp
theorem mask_cell {M : List Nat} {w : World} {p : Addr} {u : Value} (h : w.cell? p = some u) (hp : p.block ∉ M) : (mask M w).cell? p = some u := by
  rw [cell_mask, if_neg hp]
  exact h
/-- what was there before the masked blocks came stands under the mask -/
theorem keeps_mask {M : List Nat} {w0 w : World} (h : Keeps w0 w) (hM : ∀ b, b ∈ M → w0.heap.size ≤ b) : Keeps w0 (mask M w) := fun p u hp =>
  mask_cell (h p u hp) (fun hm => by
    have := hM _ hm
    have := cell_lt hp
    omega)

/-- A predicate on elements that bears whatever keeps the cells. -/
def Stays {α : Type} (E : World → List Value → α → Prop) : Prop := ∀ w w', Keeps w w' → ∀ cs x, E w cs x → E w' cs x

/-- A slice's address whose i-th element holds what E says (no bound on the length). -/
def SlR {α : Type} (sz : Nat) (E : World → List Value → α → Prop) (w : World) (a : Option Addr) (l : List α) : Prop :=
  ∀ i x, l[i]? = some x → ∃ b off cs, a = some ⟨b, off, none⟩ ∧ cs.length = sz ∧ E w cs x ∧ ∀ j u, cs[j]? = some u → w.cell? ⟨b, off + i * sz + j, none⟩ = some u
theorem SlR.keep {α : Type} {sz : Nat} {E : World → List Value → α → Prop} {w w' : World} {a : Option Addr} {l : List α} (h : SlR sz E w a l) (hk : Keeps w w') (hE : Stays E) : SlR sz E w' a l :=
  fun i x hx => let ⟨b, off, cs, ha, hl, he, hc⟩ := h i x hx; ⟨b, off, cs, ha, hl, hE _ _ hk _ _ he, fun j u hu => hk _ _ (hc j u hu)⟩
/-- real elements and marks -/
def Mix {α : Type} (E E' : World → List Value → α → Prop) (w : World) (cs : List Value) (y : α × Bool) : Prop := if y.2 = true then E w cs y.1 else E' w cs y.1
def mixed {α : Type} (l m : List α) : List (α × Bool) := l.map (fun x => (x, true)) ++ m.map (fun x => (x, false))
theorem Stays.mix {α : Type} {E E' : World → List Value → α → Prop} (h : Stays E) (h' : Stays E') : Stays (Mix E E') := fun w w' hk cs y hy => by
  unfold Mix at hy ⊢
  split <;> rename_i hc
  · rw [if_pos hc] at hy; exact h _ _ hk _ _ hy
  · rw [if_neg hc] at hy; exact h' _ _ hk _ _ hy
/-- a slice with marks behind its end -/
def RoomS {α : Type} (sz : Nat) (E E' : World → List Value → α → Prop) (w : World) (v : Value) (l m : List α) : Prop :=
  ∃ a cap, v = .slice a l.length cap ∧ l.length + m.length ≤ cap ∧ l.length ≤ 1048576 ∧ SlR sz (Mix E E') w a (mixed l m)
theorem mixed_left {α : Type} (l m : List α) (i : Nat) (x : α) (h : l[i]? = some x) : (mixed l m)[i]? = some (x, true) := by
  unfold mixed
  have hi : i < l.length := (List.getElem?_eq_some_iff.1 h).1
  rw [List.getElem?_append_left (by simpa using hi), List.getElem?_map, h]
  rfl
theorem mixed_right {α : Type} (l m : List α) (i : Nat) (x : α) (h : m[i]? = some x) : (mixed l m)[l.length + i]? = some (x, false) := by
  unfold mixed
  rw [List.getElem?_append_right (by simp), List.length_map, Nat.add_sub_cancel_left, List.getElem?_map, h]
  rfl
theorem RoomS.sl {α : Type} {sz : Nat} {E E' E2 : World → List Value → α → Prop} {w : World} {v : Value} {l m : List α} (h : RoomS sz E E' w v l m) (hE : ∀ cs x, E w cs x → E2 w cs x) : Sl sz E2 w v l := by
  obtain ⟨a, cap, rfl, hc, hl, hs⟩ := h
  refine ⟨a, cap, rfl, by omega, hl, fun i x hx => ?_⟩
  obtain ⟨b, off, cs, ha, hn, he, hcs⟩ := hs i (x, true) (mixed_left l m i x hx)
  exact ⟨b, off, cs, ha, hn, hE _ _ (by simpa [Mix] using he), hcs⟩
theorem RoomS.keep {α : Type} {sz : Nat} {E E' : World → List Value → α → Prop} {w w' : World} {v : Value} {l m : List α} (h : RoomS sz E E' w v l m) (hk : Keeps w w') (hE : Stays E) (hE' : Stays E') : RoomS sz E E' w' v l m :=
  let ⟨a, cap, hv, hc, hl, hs⟩ := h; ⟨a, cap, hv, hc, hl, hs.keep hk (hE.mix hE')⟩
theorem roomS_same {α : Type} {sz : Nat} {E : World → List Value → α → Prop} {w : World} {a : Option Addr} {cap : Nat} {l m : List α} (h : SlR sz E w a (l ++ m)) (hc : l.length + m.length ≤ cap) (hl : l.length ≤ 1048576) : RoomS sz E E w (.slice a l.length cap) l m := by
  refine ⟨a, cap, rfl, hc, hl, fun i y hy => ?_⟩
  have : (l ++ m)[i]? = some y.1 := by
    have e : (mixed l m).map Prod.fst = l ++ m := by simp [mixed, List.map_map, Function.comp_def]
    rw [← e, List.getElem?_map, hy]
    rfl
  obtain ⟨b, off, cs, h1, h2, h3, h4⟩ := h i y.1 this
  exact ⟨b, off, cs, h1, h2, by unfold Mix; split <;> exact h3, h4⟩
/-- the marks -/
theorem RoomS.mark {α : Type} {sz : Nat} {E E' : World → List Value → α → Prop} {w : World} {a : Option Addr} {n cap : Nat} {l m : List α} (h : RoomS sz E E' w (.slice a n cap) l m) {i : Nat} {x : α} (hx : m[i]? = some x) :
    n = l.length ∧ l.length + m.length ≤ cap ∧ ∃ b off cs, a = some ⟨b, off, none⟩ ∧ cs.length = sz ∧ E' w cs x ∧ ∀ j u, cs[j]? = some u → w.cell? ⟨b, off + (l.length + i) * sz + j, none⟩ = some u := by
  obtain ⟨a', cap', hv, hc, hl, hs⟩ := h
  injection hv with h1 h2 h3
  subst h1 h3
  obtain ⟨b, off, cs, ha, hn, he, hcs⟩ := hs _ _ (mixed_right l m i x hx)
  exact ⟨h2, hc, b, off, cs, ha, hn, by simpa [Mix] using he, hcs⟩

/-- 'make([]T, n)', T of any cells: for every world. -/
theorem run_make_rows {P : Program} (t e : TypeId) (z : Value) (sz bytes : Nat) (ht : P.underlying t = some (.slice e)) (hinfo : (P.info? e).map (fun i => (i.zero, i.size, i.bytes)) = some (some z, sz, bytes))
    (kl kc : IntKind) (n : Nat) (hbytes : bytes * n ≤ 281474976710656) (h63 : n ≤ 9223372036854775807) (w : World) :
    (Instr.makeSlice t (.int kl (n : Int)) (.int kc (n : Int))).run P w = .ok (.slice (some ⟨w.heap.size, 0, none⟩) n n) (w.alloc (.cells (madeCells z.cells (n * sz)) e)) := by
  obtain ⟨i, hi, hzz⟩ := Option.map_eq_some_iff.1 hinfo
  simp only [Prod.mk.injEq] at hzz
  obtain ⟨hz, hs, hb⟩ := hzz
  have hb' : (i.bytes : Int) * (n : Int) ≤ 281474976710656 := by
    have h : ((i.bytes * n : Nat) : Int) ≤ 281474976710656 := by rw [hb]; omega
    rwa [Int.natCast_mul] at h
  have hr := run_make (P := P) w t e i z ht hi hz kl kc n n (by omega) (Int.le_refl _) hb' (by omega)
  simp only [Int.toNat_natCast, hs] at hr
  exact hr
theorem sl_nil {α : Type} (sz : Nat) (E : World → List Value → α → Prop) (w : World) : Sl sz E w (.slice none 0 0) [] := ⟨none, 0, rfl, Nat.le_refl _, Nat.zero_le _, fun i x hx => by simp at hx⟩
theorem mixed_length {α : Type} (l m : List α) : (mixed l m).length = l.length + m.length := by simp [mixed]
theorem RoomS.of {α : Type} {sz : Nat} {E E' : World → List Value → α → Prop} {w : World} {a : Option Addr} {cap : Nat} {l m : List α} (h : SlR sz (Mix E E') w a (mixed l m)) (hc : l.length + m.length ≤ cap) (hl : l.length ≤ 1048576) : RoomS sz E E' w (.slice a l.length cap) l m := ⟨a, cap, rfl, hc, hl, h⟩
/-- Block g is a row for N elements of which the first k are laid: they hold what E says of l under the mask. -/
def Fill {α : Type} (sz : Nat) (E : World → List Value → α → Prop) (M : List Nat) (t : TypeId) (w : World) (g : Nat) (l : List α) (k N : Nat) : Prop :=
  g ∈ M ∧ ∃ f, w.rowIs g t (N * sz) f ∧ ∀ i x, i < k → l[i]? = some x → ∃ cs, cs.length = sz ∧ E (mask M w) cs x ∧ ∀ j u, cs[j]? = some u → f (i * sz + j) = u
section
variable {α : Type} {sz : Nat} {E : World → List Value → α → Prop} {M : List Nat} {t : TypeId} {w w' : World} {g : Nat} {l : List α} {k N : Nat}
theorem Fill.new (hM : w.heap.size ∈ M) (c : Array Value) (hc : c.size = N * sz) (l : List α) : Fill sz E M t (w.alloc (.cells c t)) w.heap.size l 0 N := by
  refine ⟨hM, fun i => c.getD i undef, ?_, fun i x hi => absurd hi (by omega)⟩
  have := World.rowIs_alloc w c t (fun i => c.getD i undef) (fun i hi => by simp [hi])
  rwa [hc] at this
theorem Fill.keep (h : Fill sz E M t w g l k N) (hk : KeepsX M w w') (hg : w'.heap[g]? = w.heap[g]?) (hE : Stays E) : Fill sz E M t w' g l k N := by
  obtain ⟨hM, f, hr, hl⟩ := h
  refine ⟨hM, f, hr.of_block hg, fun i x hi hx => ?_⟩
  obtain ⟨cs, h1, h2, h3⟩ := hl i x hi hx
  exact ⟨cs, h1, hE _ _ hk.mask _ _ h2, h3⟩
theorem Fill.lt (h : Fill sz E M t w g l k N) : g < w.heap.size := h.2.choose_spec.1.lt
theorem Fill.below (h : Fill sz E M t w g l k N) (hb : Below w.heap.size w w') (hE : Stays E) : Fill sz E M t w' g l k N :=
  h.keep ((Keeps.of_below hb).x M) (hb.block g h.lt) hE
theorem Fill.cell (h : Fill sz E M t w g l k N) {i : Nat} (hi : i < N * sz) : ∃ u, w.cell? ⟨g, i, none⟩ = some u := by
  obtain ⟨_, f, hr, _⟩ := h
  exact ⟨_, hr.cell hi⟩
theorem Fill.frozen (h : Fill sz E M t w g l k N) (i : Nat) : w.frozen? ⟨g, i, none⟩ = false := by
  obtain ⟨_, f, hr, _⟩ := h
  exact hr.frozen i
theorem Fill.there (h : Fill sz E M t w g l k N) {m : Nat} (hm : m < N) : w.there g (m * sz) sz := fun j hj => by
  obtain ⟨_, f, hr, _⟩ := h
  have h1 : m * sz + sz ≤ N * sz := by
    have := Nat.mul_le_mul_right sz (show m + 1 ≤ N by omega)
    rwa [Nat.succ_mul] at this
  exact ⟨by rw [hr.cell (by omega)]; rfl, hr.frozen _⟩
theorem rowIs_setCells {b : Nat} {n : Nat} : ∀ (vs : List Value) (o : Nat) (w : World) (f : Nat → Value), w.rowIs b t n f → (w.setCells b o vs).rowIs b t n (fun j => if o ≤ j ∧ j < o + vs.length then vs.getD (j - o) undef else f j)
  | [], o, w, f, h => h.congr fun i _ => by simp; omega
  | v :: r, o, w, f, h => by
    rw [World.setCells]
    refine (rowIs_setCells r (o + 1) _ _ (h.set o v)).congr fun i _ => ?_
    by_cases h1 : i = o
    · subst h1
      rw [if_neg (by omega), if_pos rfl, if_pos (by simp)]
      simp
    · by_cases h2 : o + 1 ≤ i ∧ i < o + 1 + r.length
      · rw [if_pos h2, if_pos (by simp; omega)]
        obtain ⟨d, hd⟩ : ∃ d, i - o = d + 1 := ⟨i - o - 1, by omega⟩
        rw [show i - (o + 1) = d by omega, hd]
        simp
      · rw [if_neg h2, if_neg h1, if_neg (by simp; omega)]
theorem Fill.set (h : Fill sz E M t w g l k N) (hk : k < N) {cs : List Value} (hcs : cs.length = sz) (hx : ∀ x, l[k]? = some x → E (mask M w) cs x) (hE : Stays E) : Fill sz E M t (w.setCells g (k * sz) cs) g l (k + 1) N := by
  obtain ⟨hM, f, hr, hl⟩ := h
  refine ⟨hM, _, rowIs_setCells cs (k * sz) w f hr, fun i x hi hx' => ?_⟩
  have hkp : Keeps (mask M w) (mask M (w.setCells g (k * sz) cs)) := (KeepsX.setCells M g hM cs _ w).mask
  by_cases hik : i = k
  · subst hik
    refine ⟨cs, hcs, hE _ _ hkp _ _ (hx x hx'), fun j u hu => ?_⟩
    have hj : j < cs.length := (List.getElem?_eq_some_iff.1 hu).1
    show (if i * sz ≤ i * sz + j ∧ i * sz + j < i * sz + cs.length then cs.getD (i * sz + j - i * sz) undef else _) = u
    rw [if_pos (by omega), Nat.add_sub_cancel_left, List.getD_eq_getElem?_getD, hu]
    rfl
  · obtain ⟨cs', h1, h2, h3⟩ := hl i x (by omega) hx'
    refine ⟨cs', h1, hE _ _ hkp _ _ h2, fun j u hu => ?_⟩
    have hj : j < cs'.length := (List.getElem?_eq_some_iff.1 hu).1
    have h4 : i * sz + sz ≤ k * sz := by
      have := Nat.mul_le_mul_right sz (show i + 1 ≤ k by omega)
      rwa [Nat.succ_mul] at this
    show (if k * sz ≤ i * sz + j ∧ i * sz + j < k * sz + cs.length then _ else f (i * sz + j)) = u
    rw [if_neg (by omega)]
    exact h3 j u hu
theorem Fill.done (h : Fill sz E M t w g l N N) (hl : l.length ≤ N) (hE : Stays E) (M' : List Nat) (hM' : ∀ b, b ∈ M' → b ∈ M) (hg : g ∉ M') : SlR sz E (mask M' w) (some ⟨g, 0, none⟩) l := fun i x hx => by
  obtain ⟨hM, f, hr, hf⟩ := h
  have hi : i < l.length := (List.getElem?_eq_some_iff.1 hx).1
  obtain ⟨cs, h1, h2, h3⟩ := hf i x (by omega) hx
  refine ⟨g, 0, cs, rfl, h1, hE _ _ (mask_down M w hM') _ _ h2, fun j u hu => ?_⟩
  have hj : j < cs.length := (List.getElem?_eq_some_iff.1 hu).1
  have h4 : i * sz + sz ≤ N * sz := by
    have := Nat.mul_le_mul_right sz (show i + 1 ≤ N by omega)
    rwa [Nat.succ_mul] at this
  refine mask_cell ?_ hg
  rw [Nat.zero_add, hr.cell (by omega), h3 j u hu]
theorem SlR.unmask (h : SlR sz E (mask M w) (some ⟨g, 0, none⟩) l) (hE : Stays E) : SlR sz E w (some ⟨g, 0, none⟩) l := h.keep (mask_keeps M w) hE
end
end Go.Proofs.YtbklijcdmiffaaaGreatDoor
