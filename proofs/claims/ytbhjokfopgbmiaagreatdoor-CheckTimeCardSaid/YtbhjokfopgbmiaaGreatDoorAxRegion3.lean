/- A region whose operations come in whatever order: an operation as the machine comes to it. -/
import Derived.Test.YtbhjokfopgbmiaaGreatDoorAxRegion2
namespace Go.Ax
open Go

section
variable {P : Program} {τ : Nat → Int} {N : Nat} {ops : List Oper} {fs : List Full} {pi : List Nat} {rops : List ROp}
variable {S D : List Nat} {lab : Nat → Nat} {γ : Nat → G} {R : Nat → Prop} {st : St} {tmps : Array Value} {w : World}

/-- What an operation looks at is there. -/
theorem reads_ok (hr : RegF P N ops fs pi rops) (inv : Lag P τ N ops fs S D lab γ R st tmps w) (hD : ∀ k ∈ D, k < ops.length) {i : Nat} {f : Full} (hi : i < ops.length) (hf : fs[i]? = some f) (hiS : i ∉ S) (hah : ∀ j, Ahead (befores ops) j i → j ∈ S) (hiD : i ∈ D → isLoud f.a = false) :
    ∀ t ∈ f.rs, tmps.getD t undef = conc τ γ (tv st.T t) ∧ okv γ R (tv st.T t) := by
  intro t ht
  refine inv.tmp t fun k hk hkS g hg e => ?_
  have hkq : isLoud g.a = false := by
    cases hl : isLoud g.a with
    | false => rfl
    | true => exact absurd (inv.loud k hk g hg hl) hkS
  by_cases hki : k = i
  · subst hki
    rw [hf] at hg; simp only [Option.some.injEq] at hg; subst hg
    have hself := hr.self k f hf
    unfold selfOk at hself
    rw [hkq, e] at hself
    simp at hself
    exact hself ht
  · have := (pair_spec hr (hD k hk) hi hki hg hf).2 hkq t e
    exact hkS (hah k (this.2 ht))

theorem fits_of (_hr : RegF P N ops fs pi rops) (inv : Lag P τ N ops fs S D lab γ R st tmps w) {f : Full} {o : Oper} (hrs : f.rs = readsT ops o) (h : ∀ t ∈ f.rs, tmps.getD t undef = conc τ γ (tv st.T t) ∧ okv γ R (tv st.T t)) :
    ∀ x ∈ o.op.operands.toList, Fit P τ γ R st.T (evalT tmps) x := by
  intro x hx
  refine fit_of inv.rel fun t e => h t ?_
  rw [hrs]
  exact operand_reads (e ▸ hx)

/-- What the abstract machine has done, the machine does. -/
theorem exec1 (hr : RegF P N ops fs pi rops) (inv : Lag P τ N ops fs S D lab γ R st tmps w) (hD : ∀ k ∈ D, k < ops.length) {i : Nat} {f : Full} (hi : i ∈ D) (hf : fs[i]? = some f) (hiS : i ∉ S) (hah : ∀ j, Ahead (befores ops) j i → j ∈ S)
    (b : Frame) (ds : List Deferred) (rest : List Nat) (kk : List Item) (cs : List Frame) :
    ∃ tmps' w' γ' R', Steps P (lone (on b tmps ds (.inRegion ops.toArray (i :: rest) :: kk)) cs w) (lone (on b tmps' ds (.inRegion ops.toArray rest :: kk)) cs w') ∧ Lag P τ N ops fs (S ++ [i]) D lab γ' R' st tmps' w' ∧ Went γ R st.H w γ' R' st.H w' := by
  obtain ⟨o, ho, hc, hd, hrs, hg, hdN, hxs, hgs⟩ := full_of hr hf (hD i hi)
  have hq : isLoud f.a = false := by
    cases hl : isLoud f.a with
    | false => rfl
    | true => exact absurd (inv.loud i hi f hf hl) hiS
  have hreads := reads_ok hr inv hD (hD i hi) hf hiS hah (fun _ => hq)
  have hfit := fits_of hr inv hrs hreads
  have hwant : Region.wanted o (yielded ops.toArray tmps) = wanted (gP f.g) st.T := wanted_same hg fun t b e => ⟨Nat.lt_of_lt_of_le (hgs t b e).2 inv.size, (hreads t (hgs t b e).1).1⟩
  have hoa : ops.toArray[i]? = some o := by simpa using ho
  have hdsz : ∀ u, o.dst = some u → u < tmps.size := fun u hu => Nat.lt_of_lt_of_le (hdN u (hd.trans hu)) inv.size
  have hredo := inv.redo i hi hiS f hf
  have hdef := opC_defer hc
  -- what the machine's step leaves
  have done : ∀ (v : AV) (γ' : Nat → G) (R' : Nat → Prop) (w' : World), (∀ l, R l → γ' l = γ l ∧ R' l) → (∀ t, f.d = some t → tv st.T t = v) → okv γ' R' v → Rel P τ γ' R' st.H st.nx w' → 
      (∀ j ∈ D, j ∉ S → j ≠ i → ∀ g, fs[j]? = some g → Laid g st.T → ¬ R (lab j) → ¬ R' (lab j)) → Lag P τ N ops fs (S ++ [i]) D lab γ' R' st (putV tmps o.dst (conc τ γ' v)) w' := by
    intro v γ' R' w' ha hv hov hR' hlab
    refine ⟨?_, ?_, ?_, by rw [size_put]; exact inv.size, ?_, hR', ?_, ?_⟩
    · intro j hj
      simp only [List.mem_append, List.mem_singleton] at hj
      rcases hj with hj | rfl
      · exact inv.sub j hj
      · exact hi
    · intro j hj g hg hl
      exact List.mem_append_left _ (inv.loud j hj g hg hl)
    · intro j hj m hm
      simp only [List.mem_append, List.mem_singleton] at hj
      rcases hj with hj | rfl
      · exact List.mem_append_left _ (inv.closed j hj m hm)
      · exact List.mem_append_left _ (hah m hm)
    · intro t ht
      rw [getD_put _ _ _ _ hdsz]
      by_cases e : o.dst = some t
      · rw [if_pos e, hv t (hd.trans e)]
        exact ⟨rfl, hov⟩
      · rw [if_neg e]
        have := inv.tmp t fun j hj hjS g hg e' => by
          by_cases hji : j = i
          · subst hji
            rw [hf] at hg; simp only [Option.some.injEq] at hg; subst hg
            exact e (hd ▸ e')
          · exact ht j hj (by simp [hjS, hji]) g hg e'
        have h2 := conc_agree (τ := τ) ha _ this.2
        exact ⟨by rw [this.1, h2.1], h2.2⟩
    · intro j hj hjS g hg
      simp only [List.mem_append, List.mem_singleton, not_or] at hjS
      obtain ⟨_, _, _, _, _, _, _, hxs', hgs'⟩ := full_of hr hg (hD j hj)
      exact Redo.keep (fun t b e => (hgs' t b e).1) hxs' (fun _ _ => rfl) (fun _ _ => rfl) (fun _ _ _ _ _ h => h) (fun hl hL ob hob hlt => ⟨hob, hlab j hj hjS.1 hjS.2 g hg hl hL, hlt⟩) (inv.redo j hj hjS.1 g hg)
    · intro j hj hjS m hm hmS
      simp only [List.mem_append, List.mem_singleton, not_or] at hjS hmS
      exact inv.labs j hj hjS.1 m hm hmS.1
  cases hw : wanted (gP f.g) st.T with
  | false =>
    rw [hw] at hwant
    have h1 := done und γ R w (fun _ h => ⟨rfl, h⟩) (hredo.2 hw) (by simp [und, okv, okvL]) inv.rel (fun _ _ _ _ _ _ _ h => h)
    have e : conc τ γ und = undef := by simp [und, conc, concL, undef]
    rw [e] at h1
    exact ⟨_, w, γ, R, .one (st_op_skip hoa hwant), h1, Went.refl _ _ _ _⟩
  | true =>
    rw [hw] at hwant
    obtain ⟨v, hv, hm⟩ := hredo.1 hw
    cases hfa : f.a with
    | v op => rw [hfa] at hq; simp [isLoud] at hq
    | p op =>
      rw [hfa] at hm hc
      simp only at hm
      have hs := (quiet_sound (w := w) inv.rel hfit (fun _ => rfl)).1 op v hc hm
      exact ⟨_, w, γ, R, .one (st_op_value hoa hwant hdef hs.1), done v γ R w (fun _ h => ⟨rfl, h⟩) hv hs.2 inv.rel (fun _ _ _ _ _ _ _ h => h), Went.refl _ _ _ _⟩
    | q op =>
      rw [hfa] at hm hc
      simp only at hm
      have hs := (quiet_sound (w := w) inv.rel hfit (fun _ => rfl)).2 op v hc hm
      exact ⟨_, w, γ, R, .one (st_op_value hoa hwant hdef hs.1), done v γ R w (fun _ h => ⟨rfl, h⟩) hv hs.2 inv.rel (fun _ _ _ _ _ _ _ h => h), Went.refl _ _ _ _⟩
    | a op =>
      rw [hfa] at hm hc
      simp only at hm
      obtain ⟨obj, h1, h2, h3, h4⟩ := hm
      obtain ⟨g, ob, hrun, hblk, hob, hov⟩ := alloc_sound (w := w) h3 hfit hc h1
      have hreal := inv.rel.real (w' := w.alloc ob) (lab i) h3 h4 obj h2 ob g hblk rfl hob
      refine ⟨_, _, _, _, .one (st_op_value hoa hwant hdef hrun), done v _ _ _ (upd_agree h3) hv hov hreal.1 ?_, hreal.2⟩
      intro j hj hjS hji g' hg' hl hL hc'
      rcases hc' with hc' | hc'
      · exact hL hc'
      · exact hji (inv.labs j hj hjS i hi hiS g' f hg' hf hl ⟨by simp [hfa, isAlloc], hw⟩ hc')

/-! ## What was read is looked at again -/

theorem checked_mem {l : List (Option (P1 × Bool) × RO × P1)} {T : Tr AV} {H : Tr AObj} (h : checked l T H = true) : ∀ c ∈ l, wanted c.1 T = true → ∃ v, rev c.2.1 T H = some v ∧ Tr.get c.2.2 T = some v := by
  induction l with
  | nil => intro c hc; simp at hc
  | cons x xs ih =>
    have e : checked (x :: xs) T H = (Bool.rec false (checked xs T H) (Bool.rec true (match rev x.2.1 T H, Tr.get x.2.2 T with | some a, some b => same2 a b | _, _ => false) (wanted x.1 T)) : Bool) := rfl
    rw [e] at h
    have h1 : checked xs T H = true ∧ (wanted x.1 T = true → ∃ v, rev x.2.1 T H = some v ∧ Tr.get x.2.2 T = some v) := by
      cases hx : wanted x.1 T with
      | false => rw [hx] at h; exact ⟨h, by simp⟩
      | true =>
        rw [hx] at h
        simp only at h
        cases ha : rev x.2.1 T H with
        | none => rw [ha] at h; simp at h
        | some a =>
          cases hb : Tr.get x.2.2 T with
          | none => rw [ha, hb] at h; simp at h
          | some b =>
            rw [ha, hb] at h
            simp only at h
            cases hs : same2 a b with
            | false => rw [hs] at h; simp at h
            | true => rw [hs] at h; exact ⟨h, fun _ => ⟨a, rfl, by rw [same2_eq hs]⟩⟩
    intro c hc hwc
    rw [List.mem_cons] at hc
    rcases hc with rfl | hc
    · exact h1.2 hwc
    · exact ih h1.1 c hc hwc

theorem foldrM_mem {α β : Type} {f : α → List β → Option (List β)} {q : α → β → Prop} (hf : ∀ a acc r, f a acc = some r → (∀ x ∈ acc, x ∈ r) ∧ ∀ y, q a y → y ∈ r) :
    ∀ (l : List α) (r : List β), l.foldrM f [] = some r → ∀ a ∈ l, ∀ y, q a y → y ∈ r := by
  intro l
  induction l with
  | nil => intro r _ a ha; simp at ha
  | cons x xs ih =>
    intro r h a ha y hy
    simp only [List.foldrM_cons, Option.bind_eq_bind, Option.bind_eq_some_iff] at h
    obtain ⟨acc, hacc, hr⟩ := h
    have := hf x acc r hr
    rw [List.mem_cons] at ha
    rcases ha with rfl | ha
    · exact this.2 y hy
    · exact this.1 y (ih acc hacc a ha y hy)

theorem checks_have (hr : RegF P N ops fs pi rops) {i : Nat} {f : Full} {c : List (Option (P1 × Bool) × RO × P1)} {post : List Nat} (hpi : pi = D ++ i :: post) (hf : fs[i]? = some f) (hc : checksOf (befores ops) fs pi i = some c) (hh : isHeap f.a = true)
    {j : Nat} {g : Full} {q : RO} (hj : j ∈ D) (hg : fs[j]? = some g) (hgq : g.a = .q q) (h1 : ¬ Ahead (befores ops) i j) (h2 : ¬ Ahead (befores ops) j i) : ∃ t, g.d = some t ∧ (gP g.g, q, path t) ∈ c := by
  have hiD := (not_in hr hpi).1
  unfold checksOf at hc
  rw [hf] at hc
  simp only [hh, if_true] at hc
  have htw : pi.takeWhile (· != i) = D := by
    rw [hpi, List.takeWhile_append_of_pos]
    · simp
    · intro x hx
      simp only [bne_iff_ne, ne_eq]
      exact fun e => hiD (e ▸ hx)
  rw [htw] at hc
  have hmem : j ∈ D.filter (fun j => !ordered (befores ops) i j) := by
    rw [List.mem_filter]
    refine ⟨hj, ?_⟩
    unfold Ahead at h1 h2
    simp only [ordered, Bool.not_eq_true', Bool.or_eq_false_iff]
    exact ⟨by simpa using h2, by simpa using h1⟩
  have hall := foldrM_mem (q := fun j y => ∃ g q t, fs[j]? = some g ∧ g.a = .q q ∧ g.d = some t ∧ y = (gP g.g, q, path t)) (fun a acc r hr => ?_) _ _ hc j hmem
  · have hsome : ∃ t, g.d = some t := by
      -- if it put nothing, nothing would have come
      have : ∀ (l : List Nat) (r : List (Option (P1 × Bool) × RO × P1)), l.foldrM (fun j acc => (fs[j]?).bind fun y => match y.a with
          | .q r => y.d.bind fun d => some ((y.g.map fun (t, b) => (path t, b), r, path d) :: acc)
          | _ => some acc) [] = some r → j ∈ l → ∃ t, g.d = some t := by
        intro l
        induction l with
        | nil => intro r _ h; simp at h
        | cons x xs ih =>
          intro r h hx
          simp only [List.foldrM_cons, Option.bind_eq_bind, Option.bind_eq_some_iff] at h
          obtain ⟨acc, hacc, y, hy, hr⟩ := h
          rw [List.mem_cons] at hx
          rcases hx with rfl | hx
          · rw [hg] at hy
            simp only [Option.some.injEq] at hy
            subst hy
            rw [hgq] at hr
            simp only [Option.bind_eq_some_iff] at hr
            obtain ⟨d, hd, _⟩ := hr
            exact ⟨d, hd⟩
          · exact ih acc hacc hx
      exact this _ _ hc hmem
    obtain ⟨t, ht⟩ := hsome
    exact ⟨t, ht, hall _ ⟨g, q, t, hg, hgq, ht, rfl⟩⟩
  · simp only [Option.bind_eq_bind, Option.bind_eq_some_iff] at hr
    obtain ⟨y, hy, hr⟩ := hr
    split at hr
    · rename_i q' hq'
      simp only [Option.bind_eq_some_iff, Option.some.injEq] at hr
      obtain ⟨d, hd, rfl⟩ := hr
      refine ⟨fun x hx => by simp [hx], ?_⟩
      rintro y' ⟨g', q'', t', hg', hgq', hgd', rfl⟩
      rw [hy] at hg'
      simp only [Option.some.injEq] at hg'
      subst hg'
      rw [hq'] at hgq'
      rw [hd] at hgd'
      simp only [AOp.q.injEq, Option.some.injEq] at hgq' hgd'
      subst hgq'
      subst hgd'
      exact List.mem_cons_self
    · rename_i hnq
      simp only [Option.some.injEq] at hr
      subst hr
      refine ⟨fun x hx => hx, ?_⟩
      rintro y' ⟨g', q'', t', hg', hgq', _, _⟩
      rw [hy] at hg'
      simp only [Option.some.injEq] at hg'
      subst hg'
      exact absurd hgq' (hnq q'')
end
end Go.Ax
