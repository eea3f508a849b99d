/- A region whose operations come in whatever order. -/
import Derived.Test.YtbhjokfopgbmiaaGreatDoorAxOps
namespace Go.Ax
open Go

theorem tv_put (d : Option Tmp) (v : AV) (T : Tr AV) (t : Nat) : tv (putT (d.map path) v T) t = if d = some t then v else tv T t := by
  unfold tv
  rw [ev_t, ev_t]
  cases d with
  | none => simp [putT]
  | some d =>
    simp only [putT, Option.map_some, Option.some.injEq]
    rw [Tr.get_set]
    by_cases h : d = t
    · subst h; simp
    · have : path t ≠ path d := fun e => h (path_inj e).symm
      simp [this, h]

theorem getD_put (tmps : Array Value) (d : Option Tmp) (v : Value) (t : Nat) (h : ∀ u, d = some u → u < tmps.size) : (putV tmps d v).getD t undef = if d = some t then v else tmps.getD t undef := by
  cases d with
  | none => simp [putV]
  | some d =>
    have := h d rfl
    simp only [putV, Option.some.injEq, Array.getD_eq_getD_getElem?]
    by_cases e : d = t
    · subst e; simp [this]
    · simp [Array.getElem?_setIfInBounds_ne e, e]
theorem size_put (tmps : Array Value) (d : Option Tmp) (v : Value) : (putV tmps d v).size = tmps.size := by cases d <;> simp [putV]

/-- Where trees agree. -/
def AgreeOn (rs : List Tmp) (T T' : Tr AV) : Prop := ∀ t ∈ rs, tv T t = tv T' t
theorem ev_agree {rs : List Tmp} {T T' : Tr AV} {x : X} (h : AgreeOn rs T T') (hx : okX rs x = true) : ev x T = ev x T' := by
  cases x with
  | c v => rfl
  | t p =>
    have := h (pnum p) (by simpa [okX] using hx)
    unfold tv at this
    rwa [path_pnum] at this

def gP (g : Option (Tmp × Bool)) : Option (P1 × Bool) := g.map fun (t, b) => (path t, b)
theorem wanted_tv (t : Tmp) (b : Bool) (T : Tr AV) : wanted (gP (some (t, b))) T = match tv T t with | .bool c => (if c = true then b else !b) | _ => false := by
  unfold tv
  rw [ev_t]
  simp only [wanted, gP, Option.map_some]
  cases h : Tr.get (path t) T with
  | none => rfl
  | some v => cases v <;> simp
theorem wanted_agree {g : Option (Tmp × Bool)} {T T' : Tr AV} (h : ∀ t b, g = some (t, b) → tv T t = tv T' t) : wanted (gP g) T = wanted (gP g) T' := by
  cases g with
  | none => rfl
  | some tb => obtain ⟨t, b⟩ := tb; rw [wanted_tv, wanted_tv, h t b rfl]

section
variable {P : Program} {τ : Nat → Int} {N : Nat} {ops : List Oper} {fs : List Full} {pi : List Nat} {rops : List ROp}

/-- What the machine wants, and what the abstract machine wants. -/
theorem wanted_same {γ : Nat → G} {o : Oper} {g : Option (Tmp × Bool)} {T : Tr AV} {tmps : Array Value} (hg : guardT ops o = some g) (h : ∀ t b, g = some (t, b) → t < tmps.size ∧ tmps.getD t undef = conc τ γ (tv T t)) :
    Region.wanted o (yielded ops.toArray tmps) = wanted (gP g) T := by
  unfold guardT at hg
  unfold Region.wanted
  cases ho : o.guard with
  | none => rw [ho] at hg; simp only [Option.some.injEq] at hg; subst hg; rfl
  | some jb =>
    obtain ⟨j, b⟩ := jb
    rw [ho] at hg
    simp only [Option.bind_eq_some_iff, Option.map_eq_some_iff] at hg
    obtain ⟨oj, hj, t, ht, rfl⟩ := hg
    obtain ⟨hlt, hv⟩ := h t b rfl
    rw [wanted_tv]
    simp only [yielded, List.getElem?_toArray, hj, Option.bind_some, ht]
    have hget : tmps[t]? = some (conc τ γ (tv T t)) := by
      rw [Array.getD_eq_getD_getElem?, Array.getElem?_eq_getElem hlt] at hv
      rw [Array.getElem?_eq_getElem hlt]
      simpa using hv
    rw [hget]
    cases hT : tv T t <;> simp [conc]
    rename_i c
    cases c <;> cases b <;> simp

theorem guard_reads {o : Oper} {t : Tmp} {b : Bool} (hg : guardT ops o = some (some (t, b))) : t ∈ readsT ops o := by
  unfold readsT
  rw [hg]
  simp
theorem operand_reads {o : Oper} {t : Tmp} (h : .tmp t ∈ o.op.operands.toList) : t ∈ readsT ops o := by
  unfold readsT
  exact List.mem_append_left _ (List.mem_filterMap.2 ⟨.tmp t, h, rfl⟩)

/-- What stands for an operation that the abstract machine has done, and the machine hasn't. -/
def Redo (f : Full) (L : Nat) (R : Nat → Prop) (T : Tr AV) (H : Tr AObj) (nx : Nat) : Prop :=
  (wanted (gP f.g) T = true → ∃ v, (∀ t, f.d = some t → tv T t = v) ∧ match f.a with
    | .p op => pev op T = some v
    | .q op => rev op T H = some v
    | .a op => ∃ obj, aev op T L = some (obj, v) ∧ hget H L = some obj ∧ ¬ R L ∧ L < nx
    | .v _ => False) ∧
  (wanted (gP f.g) T = false → ∀ t, f.d = some t → tv T t = und)
/-- Does it lay a block? -/
def Laid (f : Full) (T : Tr AV) : Prop := isAlloc f.a = true ∧ wanted (gP f.g) T = true

/-- The abstract machine is ahead. -/
structure Lag (P : Program) (τ : Nat → Int) (N : Nat) (ops : List Oper) (fs : List Full) (S D : List Nat) (lab : Nat → Nat) (γ : Nat → G) (R : Nat → Prop) (st : St) (tmps : Array Value) (w : World) : Prop where
  sub : ∀ i ∈ S, i ∈ D
  loud : ∀ i ∈ D, ∀ f, fs[i]? = some f → isLoud f.a = true → i ∈ S
  closed : ∀ i ∈ S, ∀ j, Ahead (befores ops) j i → j ∈ S
  size : N ≤ tmps.size
  tmp : ∀ t, (∀ i ∈ D, i ∉ S → ∀ f, fs[i]? = some f → f.d ≠ some t) → tmps.getD t undef = conc τ γ (tv st.T t) ∧ okv γ R (tv st.T t)
  rel : Rel P τ γ R st.H st.nx w
  redo : ∀ i ∈ D, i ∉ S → ∀ f, fs[i]? = some f → Redo f (lab i) R st.T st.H st.nx
  labs : ∀ i ∈ D, i ∉ S → ∀ j ∈ D, j ∉ S → ∀ f g, fs[i]? = some f → fs[j]? = some g → Laid f st.T → Laid g st.T → lab i = lab j → i = j

theorem pair_of (hr : RegF P N ops fs pi rops) {i j : Nat} (hi : i < ops.length) (hj : j < ops.length) (hne : i ≠ j) : ∃ a b, ((a = i ∧ b = j) ∨ (a = j ∧ b = i)) ∧ pairOk (befores ops) fs pi a b = true := by
  rcases Nat.lt_or_gt_of_ne hne with h | h
  · exact ⟨j, i, .inr ⟨rfl, rfl⟩, hr.pair j i hj h⟩
  · exact ⟨i, j, .inl ⟨rfl, rfl⟩, hr.pair i j hi h⟩

/-- What the pairs say, either way round. -/
theorem pair_spec (hr : RegF P N ops fs pi rops) {i j : Nat} {x y : Full} (hi : i < ops.length) (hj : j < ops.length) (hne : i ≠ j) (hx : fs[i]? = some x) (hy : fs[j]? = some y) :
    (Ahead (befores ops) j i ∨ Ahead (befores ops) i j ∨
      ((∀ t, x.d = some t → t ∉ y.rs ∧ y.d ≠ some t) ∧ (∀ t, y.d = some t → t ∉ x.rs ∧ x.d ≠ some t) ∧ ¬ (isLoud x.a = true ∧ isLoud y.a = true) ∧ ¬ (isHeap x.a = true ∧ isAlloc y.a = true) ∧
        (isLoud x.a = true → pi.idxOf j < pi.idxOf i))) ∧
    (isLoud x.a = false → ∀ t, x.d = some t → y.d ≠ some t ∧ (t ∈ y.rs → Ahead (befores ops) i j)) := by
  obtain ⟨a, b, hab, hp⟩ := pair_of hr hi hj hne
  unfold pairOk at hp
  rcases hab with ⟨rfl, rfl⟩ | ⟨rfl, rfl⟩
  · rw [hx, hy] at hp
    simp only [Bool.and_eq_true, Bool.or_eq_true, ordered] at hp
    obtain ⟨⟨h1, h2⟩, h3⟩ := hp
    refine ⟨?_, ?_⟩
    · rcases h1 with (h1 | h1) | h1
      · exact .inl h1
      · exact .inr (.inl h1)
      · refine .inr (.inr ?_)
        obtain ⟨⟨⟨⟨⟨⟨c1, c2⟩, c3⟩, c4⟩, c5⟩, c6⟩, c7⟩ := h1
        refine ⟨fun t ht => ?_, fun t ht => ?_, ?_, ?_, ?_⟩
        · rw [ht] at c1; simp only [Bool.and_eq_true, Bool.not_eq_true', List.contains_eq_mem, decide_eq_false_iff_not, bne_iff_ne] at c1; exact c1
        · rw [ht] at c2
          simp only [Bool.not_eq_true', List.contains_eq_mem, decide_eq_false_iff_not] at c2
          refine ⟨c2, fun e => ?_⟩
          rw [e] at c1
          simp [ht] at c1
        · rintro ⟨l1, l2⟩; simp [l1, l2] at c3
        · rintro ⟨l1, l2⟩; simp [l1, l2] at c4
        · intro l; simpa [l] using c6
    · intro hl t ht
      rcases h2 with h2 | h2
      · rw [hl] at h2; simp at h2
      · rw [ht] at h2
        simp only [Bool.and_eq_true, bne_iff_ne, Bool.or_eq_true, Bool.not_eq_true', List.contains_eq_mem, decide_eq_false_iff_not] at h2
        exact ⟨h2.1, fun hm => (h2.2.resolve_left (fun h => h hm))⟩
  · rw [hx, hy] at hp
    simp only [Bool.and_eq_true, Bool.or_eq_true, ordered] at hp
    obtain ⟨⟨h1, h2⟩, h3⟩ := hp
    refine ⟨?_, ?_⟩
    · rcases h1 with (h1 | h1) | h1
      · exact .inr (.inl h1)
      · exact .inl h1
      · refine .inr (.inr ?_)
        obtain ⟨⟨⟨⟨⟨⟨c1, c2⟩, c3⟩, c4⟩, c5⟩, c6⟩, c7⟩ := h1
        refine ⟨fun t ht => ?_, fun t ht => ?_, ?_, ?_, ?_⟩
        · rw [ht] at c2
          simp only [Bool.not_eq_true', List.contains_eq_mem, decide_eq_false_iff_not] at c2
          refine ⟨c2, fun e => ?_⟩
          rw [e] at c1
          simp [ht] at c1
        · rw [ht] at c1; simp only [Bool.and_eq_true, Bool.not_eq_true', List.contains_eq_mem, decide_eq_false_iff_not, bne_iff_ne] at c1; exact c1
        · rintro ⟨l1, l2⟩; simp [l1, l2] at c3
        · rintro ⟨l1, l2⟩; simp [l1, l2] at c5
        · intro l; simpa [l] using c7
    · intro hl t ht
      rcases h3 with h3 | h3
      · rw [hl] at h3; simp at h3
      · rw [ht] at h3
        simp only [Bool.and_eq_true, bne_iff_ne, Bool.or_eq_true, Bool.not_eq_true', List.contains_eq_mem, decide_eq_false_iff_not] at h3
        exact ⟨h3.1, fun hm => (h3.2.resolve_left (fun h => h hm))⟩
end
end Go.Ax
