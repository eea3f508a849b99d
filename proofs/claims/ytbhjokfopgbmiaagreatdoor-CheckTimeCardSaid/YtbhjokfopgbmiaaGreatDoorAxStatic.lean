/- What is known of a region ahead of its run. -/
import Derived.Test.YtbhjokfopgbmiaaGreatDoorAxSteps
namespace Go.Ax
open Go

theorem mapM_spec {α β : Type} {f : α → Option β} : ∀ {l : List α} {r : List β}, l.mapM f = some r → r.length = l.length ∧ ∀ (i : Nat) (x : α), l[i]? = some x → ∃ y, r[i]? = some y ∧ f x = some y := by
  intro l
  induction l with
  | nil => intro r h; simp at h; subst h; simp
  | cons a l ih =>
    intro r h
    simp only [List.mapM_cons, Option.bind_eq_bind, Option.bind_eq_some_iff, Option.pure_def, Option.some.injEq] at h
    obtain ⟨b, hb, bs, hbs, rfl⟩ := h
    have := ih hbs
    refine ⟨by simp [this.1], fun i x hx => ?_⟩
    cases i with
    | zero => simp only [List.getElem?_cons_zero, Option.some.injEq] at hx; subst hx; exact ⟨b, by simp, hb⟩
    | succ i => simp only [List.getElem?_cons_succ] at hx ⊢; exact this.2 i x hx

/-! ## What must come ahead -/

def bitsOn (acc : List Nat) (o : Oper) : Nat := o.after.toList.foldl (fun s e => if Region.binds .any e then s ||| 2 ^ e.on ||| (acc[e.on]?).getD 0 else s) 0

theorem bits_fold (acc : List Nat) : ∀ (l : List Edge) (s j : Nat), (l.foldl (fun s e => if Region.binds .any e then s ||| 2 ^ e.on ||| (acc[e.on]?).getD 0 else s) s).testBit j = true ↔
    s.testBit j = true ∨ ∃ e ∈ l, Region.binds .any e = true ∧ (j = e.on ∨ ((acc[e.on]?).getD 0).testBit j = true) := by
  intro l
  induction l with
  | nil => intro s j; simp
  | cons e l ih =>
    intro s j
    rw [List.foldl_cons, ih]
    simp only [List.mem_cons, exists_eq_or_imp]
    by_cases hb : Region.binds .any e = true
    · simp only [hb, if_true, Nat.testBit_or, Bool.or_eq_true, Nat.testBit_two_pow, decide_eq_true_eq, true_and]
      rw [or_assoc, or_assoc, or_assoc, eq_comm (a := e.on) (b := j)]
    · simp only [hb, if_false, Bool.false_eq_true, false_and, false_or]

theorem foldl_pre : ∀ (l : List Oper) (acc : List Nat), ∃ r, l.foldl (fun acc o => acc ++ [bitsOn acc o]) acc = acc ++ r ∧ r.length = l.length := by
  intro l
  induction l with
  | nil => intro acc; exact ⟨[], by simp, rfl⟩
  | cons o l ih =>
    intro acc
    obtain ⟨r, hr, hl⟩ := ih (acc ++ [bitsOn acc o])
    exact ⟨bitsOn acc o :: r, by simp only [List.foldl_cons]; rw [hr]; simp, by simp [hl]⟩

theorem foldl_get : ∀ (l : List Oper) (acc : List Nat) (i : Nat) (o : Oper), l[i]? = some o →
    (l.foldl (fun acc o => acc ++ [bitsOn acc o]) acc)[acc.length + i]? = some (bitsOn ((l.foldl (fun acc o => acc ++ [bitsOn acc o]) acc).take (acc.length + i)) o) := by
  intro l
  induction l with
  | nil => intro acc i o h; simp at h
  | cons o' l ih =>
    intro acc i o h
    simp only [List.foldl_cons]
    cases i with
    | zero =>
      simp only [List.getElem?_cons_zero, Option.some.injEq] at h
      subst h
      obtain ⟨r, hr, _⟩ := foldl_pre l (acc ++ [bitsOn acc o'])
      rw [hr]
      simp
    | succ i =>
      simp only [List.getElem?_cons_succ] at h
      have := ih (acc ++ [bitsOn acc o']) i o h
      rw [show acc.length + (i + 1) = (acc ++ [bitsOn acc o']).length + i by simp; omega]
      exact this

/-- Is an operation ahead of another one? -/
def Ahead (bef : List Nat) (j i : Nat) : Prop := ((bef[i]?).getD 0).testBit j = true

theorem befores_spec {ops : List Oper} (he : ∀ (i : Nat) (o : Oper), ops[i]? = some o → ∀ e ∈ o.after.toList, Region.binds .any e = true → e.on < i) {i : Nat} {o : Oper} (ho : ops[i]? = some o) (j : Nat) :
    Ahead (befores ops) j i ↔ ∃ e ∈ o.after.toList, Region.binds .any e = true ∧ (j = e.on ∨ Ahead (befores ops) j e.on) := by
  have h := foldl_get ops [] i o ho
  have hb : befores ops = ops.foldl (fun acc o => acc ++ [bitsOn acc o]) [] := rfl
  rw [← hb] at h
  simp only [List.length_nil, Nat.zero_add] at h
  unfold Ahead
  rw [h, Option.getD_some]
  unfold bitsOn
  rw [bits_fold]
  simp only [Nat.zero_testBit, Bool.false_eq_true, false_or]
  constructor
  · rintro ⟨e, hm, hbd, hj⟩
    refine ⟨e, hm, hbd, ?_⟩
    rwa [List.getElem?_take, if_pos (he i o ho e hm hbd)] at hj
  · rintro ⟨e, hm, hbd, hj⟩
    refine ⟨e, hm, hbd, ?_⟩
    rwa [List.getElem?_take, if_pos (he i o ho e hm hbd)]

theorem early_spec (bef : List Nat) (as : List AOp) : ∀ (n done : Nat) (pre : List Nat) (i : Nat) (post : List Nat), early bef as n done = pre ++ i :: post →
    ∀ j, Ahead bef j i → done.testBit j = true ∨ j ∈ pre := by
  intro n
  induction n with
  | zero => intro done pre i post h; simp [early] at h
  | succ n ih =>
    intro done pre i post h j hj
    simp only [early] at h
    have key : ∀ x, x ∈ (List.range as.length).filter (fun i => !done.testBit i && ((bef[i]?).getD 0 &&& done == (bef[i]?).getD 0)) → x :: early bef as n (done ||| 2 ^ x) = pre ++ i :: post → done.testBit j = true ∨ j ∈ pre := by
      intro x hx he
      cases pre with
      | nil =>
        simp only [List.nil_append, List.cons.injEq] at he
        obtain ⟨rfl, _⟩ := he
        have := (List.mem_filter.1 hx).2
        simp only [Bool.and_eq_true, beq_iff_eq] at this
        have h2 := congrArg (fun n => n.testBit j) this.2
        simp only [Nat.testBit_and] at h2
        unfold Ahead at hj
        rw [hj] at h2
        simp at h2
        exact .inl h2
      | cons y pre =>
        simp only [List.cons_append, List.cons.injEq] at he
        obtain ⟨rfl, he⟩ := he
        rcases ih _ pre i post he j hj with h3 | h3
        · simp only [Nat.testBit_or, Bool.or_eq_true, Nat.testBit_two_pow, decide_eq_true_eq] at h3
          rcases h3 with h3 | h3
          · exact .inl h3
          · exact .inr (by simp [h3])
        · exact .inr (by simp [h3])
    split at h
    · rename_i x hx
      exact key x (List.mem_of_find?_eq_some hx) h
    · split at h
      · rename_i x xs hx
        exact key x (by rw [hx]; simp) h
      · simp at h

/-- What is known of a region. -/
structure RegF (P : Program) (N : Nat) (ops : List Oper) (fs : List Full) (pi : List Nat) (rops : List ROp) : Prop where
  mixed : P.follows .mixedOrders = true
  full : ∀ (i : Nat) (o : Oper), ops[i]? = some o → ∃ f, fs[i]? = some f ∧ fullC P N ops o = some f
  edges : ∀ (i : Nat) (o : Oper), ops[i]? = some o → ∀ e ∈ o.after.toList, Region.binds .any e = true → e.on < i
  len : pi.length = ops.length
  nodup : pi.Nodup
  lt : ∀ i ∈ pi, i < ops.length
  first : ∀ pre i post, pi = pre ++ i :: post → ∀ j, Ahead (befores ops) j i → j ∈ pre
  self : ∀ (i : Nat) (f : Full), fs[i]? = some f → selfOk f = true
  pair : ∀ i j, i < ops.length → j < i → pairOk (befores ops) fs pi i j = true
  rop : ∀ (p i : Nat), pi[p]? = some i → ∃ f c, fs[i]? = some f ∧ checksOf (befores ops) fs pi i = some c ∧ rops[p]? = some (ropOf f c)
  rlen : rops.length = pi.length

theorem regC_draw {P : Program} {N : Nat} {ops : List Oper} {rops : List ROp} (h : regC P N ops true = some rops) : ∃ fs pi, RegF P N ops fs pi rops := by
  unfold regC at h
  simp only [Option.bind_eq_bind, Option.bind_eq_some_iff, Bool.not_true, Bool.false_eq_true, if_false] at h
  obtain ⟨fs, hfs, h⟩ := h
  have hfull := mapM_spec hfs
  split at h
  · simp at h
  rename_i hmix
  split at h
  · simp at h
  rename_i hedge
  split at h
  · simp at h
  rename_i hpi
  split at h
  · simp at h
  rename_i hself
  split at h
  · simp at h
  rename_i hpair
  simp only [Bool.not_eq_true', Bool.not_eq_false] at hmix hedge hself hpair
  simp only [Bool.or_eq_true, bne_iff_ne, ne_eq, Bool.not_eq_true', decide_eq_false_iff_not, not_or, Decidable.not_not, Bool.not_eq_false] at hpi
  obtain ⟨⟨hlen, hnd⟩, hlt⟩ := hpi
  have he : ∀ (i : Nat) (o : Oper), ops[i]? = some o → ∀ e ∈ o.after.toList, Region.binds .any e = true → e.on < i := by
    intro i o ho e hm hb
    have := (List.all_eq_true.1 hedge) (o, i) (by rw [List.mem_zipIdx_iff_getElem?]; exact ho)
    simp only [List.all_eq_true, Bool.or_eq_true, Bool.not_eq_true', decide_eq_true_eq] at this
    rcases this e hm with h1 | h1
    · rw [hb] at h1; simp at h1
    · exact h1
  have hr := mapM_spec h
  refine ⟨fs, _, ⟨hmix, fun i o ho => hfull.2 i o ho, he, hlen, hnd, fun i hi => ?_, ?_, ?_, ?_, ?_, hr.1⟩⟩
  · have := (List.all_eq_true.1 hlt) i hi
    simpa using this
  · intro pre i post hp j hj
    rcases early_spec _ _ _ _ _ _ _ hp j hj with h1 | h1
    · simp at h1
    · exact h1
  · intro i f hf
    exact (List.all_eq_true.1 hself) f (List.mem_of_getElem? hf)
  · intro i j hi hj
    exact (List.all_eq_true.1 ((List.all_eq_true.1 hpair) i (List.mem_range.2 hi))) j (List.mem_range.2 hj)
  · intro p i hp
    obtain ⟨y, hy, hfy⟩ := hr.2 p i hp
    simp only [Option.bind_eq_some_iff, Option.some.injEq] at hfy
    obtain ⟨f, hf, c, hc, rfl⟩ := hfy
    exact ⟨f, c, hf, hc, hy⟩

theorem fullC_spec {P : Program} {N : Nat} {ops : List Oper} {o : Oper} {f : Full} (h : fullC P N ops o = some f) :
    f.o = o ∧ opC P o = some f.a ∧ f.d = o.dst ∧ f.rs = readsT ops o ∧ guardT ops o = some f.g ∧ (∀ t, f.d = some t → t < N) ∧ ∀ x ∈ xsA f.a, okX f.rs x = true := by
  unfold fullC at h
  simp only [Option.bind_eq_bind, Option.bind_eq_some_iff] at h
  obtain ⟨a, ha, g, hg, h⟩ := h
  have hb : (∀ t, o.dst = some t → t < N) ∧ (∀ x ∈ xsA a, okX (readsT ops o) x = true) ∧ some ({ o, a, d := o.dst, rs := readsT ops o, g } : Full) = some f := by
    cases hd : o.dst with
    | none => simpa [hd, none_bind'] using h
    | some t => simpa [hd, none_bind'] using h
  obtain ⟨h1, h2, h3⟩ := hb
  simp only [Option.some.injEq] at h3
  subst h3
  exact ⟨rfl, ha, rfl, rfl, hg, h1, h2⟩

end Go.Ax
