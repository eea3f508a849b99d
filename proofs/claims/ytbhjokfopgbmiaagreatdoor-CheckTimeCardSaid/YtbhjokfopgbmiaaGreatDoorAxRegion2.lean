/- A region whose operations come in whatever order: the abstract machine goes ahead, the machine comes behind. -/
import Derived.Test.YtbhjokfopgbmiaaGreatDoorAxRegion
namespace Go.Ax
open Go

section
variable {P : Program} {τ : Nat → Int} {N : Nat} {ops : List Oper} {fs : List Full} {pi : List Nat} {rops : List ROp}

/-- The full facts of an operation. -/
theorem full_of (hr : RegF P N ops fs pi rops) {i : Nat} {f : Full} (hf : fs[i]? = some f) (hi : i < ops.length) : ∃ o, ops[i]? = some o ∧ opC P o = some f.a ∧ f.d = o.dst ∧ f.rs = readsT ops o ∧ guardT ops o = some f.g ∧
    (∀ t, f.d = some t → t < N) ∧ (∀ x ∈ xsA f.a, okX f.rs x = true) ∧ (∀ t b, f.g = some (t, b) → t ∈ f.rs ∧ t < N) := by
  obtain ⟨g, hg, hfull⟩ := hr.full i _ (List.getElem?_eq_getElem hi)
  rw [hf] at hg
  simp only [Option.some.injEq] at hg
  subst hg
  obtain ⟨h1, h2, h3, h4, h5, h6, h7⟩ := fullC_spec hfull
  refine ⟨_, List.getElem?_eq_getElem hi, h2, h3, h4, h5, h6, h7, ?_⟩
  intro t b hgt
  rw [hgt] at h5
  refine ⟨by rw [h4]; exact guard_reads h5, ?_⟩
  unfold guardT at h5
  split at h5
  · simp at h5
  · simp only [Option.bind_eq_some_iff, Option.map_eq_some_iff, Option.some.injEq, Prod.mk.injEq] at h5
    obtain ⟨oj, hj, t', ht', rfl, rfl⟩ := h5
    obtain ⟨fj, _, hfj⟩ := hr.full _ _ hj
    have := fullC_spec hfj
    exact this.2.2.2.2.2.1 _ (by rw [this.2.2.1]; exact ht')

theorem Redo.keep {g : Full} {L : Nat} {R R' : Nat → Prop} {T T' : Tr AV} {H H' : Tr AObj} {nx nx' : Nat} (hrs : ∀ t b, g.g = some (t, b) → t ∈ g.rs) (hxs : ∀ x ∈ xsA g.a, okX g.rs x = true) (hag : AgreeOn g.rs T T')
    (hd : ∀ t, g.d = some t → tv T t = tv T' t) (hq : ∀ op v, g.a = .q op → wanted (gP g.g) T' = true → (∀ t, g.d = some t → tv T' t = v) → rev op T' H = some v → rev op T' H' = some v)
    (ha : Laid g T → ¬ R L → ∀ ob, hget H L = some ob → L < nx → hget H' L = some ob ∧ ¬ R' L ∧ L < nx') (h : Redo g L R T H nx) : Redo g L R' T' H' nx' := by
  have hw : wanted (gP g.g) T = wanted (gP g.g) T' := wanted_agree fun t b e => hag t (hrs t b e)
  refine ⟨fun hwt => ?_, fun hwf t ht => ?_⟩
  · rw [← hw] at hwt
    obtain ⟨v, hv, hm⟩ := h.1 hwt
    have hv' : ∀ t, g.d = some t → tv T' t = v := fun t ht => by rw [← hd t ht]; exact hv t ht
    refine ⟨v, hv', ?_⟩
    cases hga : g.a with
    | p op =>
      rw [hga] at hm hxs
      simp only at hm ⊢
      rw [← pev_congr fun x hx => ev_agree hag (hxs x hx)]
      exact hm
    | q op =>
      rw [hga] at hm hxs
      simp only at hm ⊢
      rw [rev_congr fun x hx => ev_agree hag (hxs x hx)] at hm
      exact hq op v hga (hw ▸ hwt) hv' hm
    | a op =>
      rw [hga] at hm hxs
      simp only at hm ⊢
      obtain ⟨obj, h1, h2, h3, h4⟩ := hm
      have := ha ⟨by simp [hga, isAlloc], hwt⟩ h3 obj h2 h4
      exact ⟨obj, by rw [← aev_congr fun x hx => ev_agree hag (hxs x hx)]; exact h1, this⟩
    | v op => rw [hga] at hm; exact hm.elim
  · rw [← hw] at hwf
    rw [← hd t ht]
    exact h.2 hwf t ht

theorem Laid.keep {g : Full} {T T' : Tr AV} (hrs : ∀ t b, g.g = some (t, b) → t ∈ g.rs) (hag : AgreeOn g.rs T T') : Laid g T ↔ Laid g T' := by
  unfold Laid
  rw [wanted_agree fun t b e => hag t (hrs t b e)]

variable {S D : List Nat} {lab : Nat → Nat} {γ : Nat → G} {R : Nat → Prop} {st : St} {tmps : Array Value} {w : World}

/-- A place in the order. -/
theorem not_in (hr : RegF P N ops fs pi rops) {j : Nat} {post : List Nat} (hpi : pi = D ++ j :: post) : j ∉ D ∧ j < ops.length ∧ (∀ i ∈ D, i < ops.length) ∧ ∀ i ∈ D, ¬ Ahead (befores ops) j i := by
  have hnd := hr.nodup
  rw [hpi] at hnd
  have hj : j ∉ D := fun h => by
    have := (List.nodup_append.1 hnd).2.2 j h j (by simp)
    exact this rfl
  refine ⟨hj, hr.lt j (by rw [hpi]; simp), fun i hi => hr.lt i (by rw [hpi]; simp [hi]), fun i hi ha => hj ?_⟩
  obtain ⟨D1, D2, rfl⟩ := List.append_of_mem hi
  have := hr.first D1 i (D2 ++ j :: post) (by rw [hpi]; simp) j ha
  simp [this]

/-- The abstract machine goes on: what comes of it. -/
theorem adv_core (hr : RegF P N ops fs pi rops) (inv : Lag P τ N ops fs S D lab γ R st tmps w) {j : Nat} {f : Full} {post : List Nat} (hpi : pi = D ++ j :: post) (hf : fs[j]? = some f) (hq : isLoud f.a = false) {v : AV} {H' : Tr AObj} {nx' : Nat}
    (hR : Rel P τ γ R H' nx' w) (hH : ∀ l ob, hget st.H l = some ob → hget H' l = some ob) (hnx : st.nx ≤ nx') (hre : Redo f st.nx R (putT (f.d.map path) v st.T) H' nx') :
    Lag P τ N ops fs S (D ++ [j]) (fun i => if i = j then st.nx else lab i) γ R ⟨putT (f.d.map path) v st.T, st.D, H', nx', st.rd⟩ tmps w := by
  obtain ⟨hjD, hjn, hDn, hah⟩ := not_in hr hpi
  have hjS : j ∉ S := fun h => hjD (inv.sub j h)
  have hkeep : ∀ i ∈ D, ∀ g, fs[i]? = some g → AgreeOn g.rs st.T (putT (f.d.map path) v st.T) ∧ ∀ t, g.d = some t → tv st.T t = tv (putT (f.d.map path) v st.T) t := by
    intro i hi g hg
    have hne : j ≠ i := fun e => hjD (e ▸ hi)
    have hp := (pair_spec hr hjn (hDn i hi) hne hf hg).2 hq
    refine ⟨fun t ht => ?_, fun t ht => ?_⟩
    · rw [tv_put, if_neg]
      intro e
      exact hah i hi ((hp t e).2 ht)
    · rw [tv_put, if_neg]
      intro e
      exact (hp t e).1 ht
  have hlt : ∀ i ∈ D, i ∉ S → ∀ g, fs[i]? = some g → Laid g st.T → lab i < st.nx := by
    intro i hi hiS g hg hl
    obtain ⟨v', _, hm⟩ := (inv.redo i hi hiS g hg).1 hl.2
    cases hga : g.a <;> rw [hga] at hm <;> simp only at hm
    · have := hl.1; simp [hga, isAlloc] at this
    · have := hl.1; simp [hga, isAlloc] at this
    · obtain ⟨_, _, _, _, h⟩ := hm; exact h
  refine ⟨fun i hi => by simp [inv.sub i hi], ?_, inv.closed, inv.size, ?_, hR, ?_, ?_⟩
  · intro i hi g hg hl
    simp only [List.mem_append, List.mem_singleton] at hi
    rcases hi with hi | rfl
    · exact inv.loud i hi g hg hl
    · rw [hf] at hg; simp only [Option.some.injEq] at hg; subst hg; rw [hq] at hl; simp at hl
  · intro t ht
    have h1 : f.d ≠ some t := ht j (by simp) hjS f hf
    simp only
    rw [tv_put, if_neg h1]
    exact inv.tmp t fun i hi hiS => ht i (by simp [hi]) hiS
  · intro i hi hiS g hg
    simp only [List.mem_append, List.mem_singleton] at hi
    rcases hi with hi | rfl
    · have hne : i ≠ j := fun e => hjD (e ▸ hi)
      obtain ⟨o, _, _, _, _, _, _, hxs, hgs⟩ := full_of hr hg (hDn i hi)
      have hk := hkeep i hi g hg
      simp only [hne, if_false]
      exact Redo.keep (fun t b e => (hgs t b e).1) hxs hk.1 hk.2 (fun op v' _ _ _ h => rev_more hH h) (fun _ hL ob hob hlt => ⟨hH _ _ hob, hL, by omega⟩) (inv.redo i hi hiS g hg)
    · rw [hf] at hg; simp only [Option.some.injEq] at hg; subst hg
      simp only [if_true]
      exact hre
  · intro i hi hiS i' hi' hiS' g g' hg hg' hl hl' he
    simp only [List.mem_append, List.mem_singleton] at hi hi'
    have back : ∀ i ∈ D, ∀ g, fs[i]? = some g → Laid g (putT (f.d.map path) v st.T) → Laid g st.T := by
      intro i hi g hg hl
      obtain ⟨o, _, _, _, _, _, _, _, hgs⟩ := full_of hr hg (hDn i hi)
      exact (Laid.keep (fun t b e => (hgs t b e).1) (hkeep i hi g hg).1).2 hl
    rcases hi with hi | rfl <;> rcases hi' with hi' | rfl
    · have hne : i ≠ j := fun e => hjD (e ▸ hi)
      have hne' : i' ≠ j := fun e => hjD (e ▸ hi')
      simp only [hne, hne', if_false] at he
      exact inv.labs i hi hiS i' hi' hiS' g g' hg hg' (back i hi g hg hl) (back i' hi' g' hg' hl') he
    · have hne : i ≠ i' := fun e => hjD (e ▸ hi)
      simp only [hne, if_false, if_true] at he
      have := hlt i hi hiS g hg (back i hi g hg hl)
      omega
    · have hne : i' ≠ i := fun e => hjD (e ▸ hi')
      simp only [hne, if_false, if_true] at he
      have := hlt i' hi' hiS' g' hg' (back i' hi' g' hg' hl')
      omega
    · rfl

variable {α : Type} [Ans α] {cf : CallF α} {yf : YieldF α} {kp : AV → St → α} {k : St → α}

theorem runOps_cons (o : ROp) (rest : List ROp) (st : St) : runOps cf yf kp (o :: rest) st k = opStep cf yf kp o (runOps cf yf kp rest) st k := rfl

/-- The abstract machine goes on by what isn't loud. -/
theorem adv (hr : RegF P N ops fs pi rops) (inv : Lag P τ N ops fs S D lab γ R st tmps w) {j : Nat} {f : Full} {c : List (Option (P1 × Bool) × RO × P1)} {post : List Nat} {rest : List ROp} (hpi : pi = D ++ j :: post) (hf : fs[j]? = some f) (hq : isLoud f.a = false)
    (h : Ans.holds (runOps cf yf kp (ropOf f c :: rest) st k)) :
    ∃ st' lab', Lag P τ N ops fs S (D ++ [j]) lab' γ R st' tmps w ∧ Ans.holds (runOps cf yf kp rest st' k) ∧ Went γ R st.H w γ R st'.H w ∧ st'.D = st.D ∧ st'.rd = st.rd := by
  obtain ⟨hjD, hjn, hDn, hah⟩ := not_in hr hpi
  obtain ⟨o, _, _, _, _, _, _, hxs, hgs⟩ := full_of hr hf hjn
  have hself := hr.self j f hf
  have hown : ∀ t, f.d = some t → t ∉ f.rs := by
    intro t ht
    unfold selfOk at hself
    rw [hq, ht] at hself
    simpa using hself
  have hag : ∀ v, AgreeOn f.rs st.T (putT (f.d.map path) v st.T) := fun v t ht => by
    rw [tv_put, if_neg]
    intro e
    exact hown t e ht
  have hwt : ∀ v, wanted (gP f.g) (putT (f.d.map path) v st.T) = wanted (gP f.g) st.T := fun v => (wanted_agree fun t b e => hag v t (hgs t b e).1).symm
  rw [runOps_cons] at h
  unfold opStep at h
  have e1 : (ropOf f c).g = gP f.g := rfl
  have e2 : (ropOf f c).d = f.d.map path := rfl
  have e3 : (ropOf f c).op = f.a := rfl
  rw [e1, e2, e3] at h
  cases hw : wanted (gP f.g) st.T with
  | false =>
    rw [hw] at h
    simp only at h
    refine ⟨_, _, adv_core hr inv hpi hf hq (v := und) inv.rel (fun _ _ h => h) (Nat.le_refl _) ⟨?_, ?_⟩, h, Went.refl _ _ _ _, rfl, rfl⟩
    · intro hx; rw [hwt, hw] at hx; simp at hx
    · intro _ t ht; rw [tv_put, if_pos ht]
  | true =>
    rw [hw] at h
    simp only at h
    cases hfa : f.a with
    | v op => rw [hfa] at hq; simp [isLoud] at hq
    | p op =>
      rw [hfa] at h hxs
      simp only at h
      cases hv : pev op st.T with
      | none => rw [hv] at h; exact absurd h Ans.not_fail
      | some v =>
        rw [hv] at h
        simp only at h
        refine ⟨_, _, adv_core hr inv hpi hf hq (v := v) inv.rel (fun _ _ h => h) (Nat.le_refl _) ⟨fun _ => ⟨v, fun t ht => by rw [tv_put, if_pos ht], ?_⟩, fun hx => by rw [hwt, hw] at hx; simp at hx⟩, h, Went.refl _ _ _ _, rfl, rfl⟩
        rw [hfa]
        simp only
        rw [← pev_congr fun x hx => ev_agree (hag v) (hxs x hx)]
        exact hv
    | q op =>
      rw [hfa] at h hxs
      simp only at h
      cases hv : rev op st.T st.H with
      | none => rw [hv] at h; exact absurd h Ans.not_fail
      | some v =>
        rw [hv] at h
        simp only at h
        refine ⟨_, _, adv_core hr inv hpi hf hq (v := v) inv.rel (fun _ _ h => h) (Nat.le_refl _) ⟨fun _ => ⟨v, fun t ht => by rw [tv_put, if_pos ht], ?_⟩, fun hx => by rw [hwt, hw] at hx; simp at hx⟩, h, Went.refl _ _ _ _, rfl, rfl⟩
        rw [hfa]
        simp only
        rw [← rev_congr fun x hx => ev_agree (hag v) (hxs x hx)]
        exact hv
    | a op =>
      rw [hfa] at h hxs
      simp only at h
      cases hv : aev op st.T st.nx with
      | none => rw [hv] at h; exact absurd h Ans.not_fail
      | some p =>
        obtain ⟨obj, v⟩ := p
        rw [hv] at h
        simp only at h
        have hlay := inv.rel.lay obj
        refine ⟨_, _, adv_core hr inv hpi hf hq (v := v) hlay.1 (fun l ob hl => ?_) (Nat.le_succ _) ⟨fun _ => ⟨v, fun t ht => by rw [tv_put, if_pos ht], ?_⟩, fun hx => by rw [hwt, hw] at hx; simp at hx⟩, h, hlay.2, rfl, rfl⟩
        · rw [hget_hset, if_neg]
          · exact hl
          · intro e
            rw [e, (inv.rel.fresh st.nx (Nat.le_refl _)).1] at hl
            simp at hl
        · rw [hfa]
          simp only
          refine ⟨obj, ?_, by rw [hget_hset, if_pos rfl], (inv.rel.fresh st.nx (Nat.le_refl _)).2, Nat.lt_succ_self _⟩
          rw [← aev_congr fun x hx => ev_agree (hag v) (hxs x hx)]
          exact hv
end
end Go.Ax
