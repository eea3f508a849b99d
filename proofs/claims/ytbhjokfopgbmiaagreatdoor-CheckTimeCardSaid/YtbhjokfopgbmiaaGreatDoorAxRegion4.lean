/- A region whose operations come in whatever order: all of it. -/
import Derived.Test.YtbhjokfopgbmiaaGreatDoorAxRegion3
namespace Go.Ax
open Go

section
variable {P : Program} {τ : Nat → Int} {N : Nat} {ops : List Oper} {fs : List Full} {pi : List Nat} {rops : List ROp}
variable {S D : List Nat} {lab : Nat → Nat} {γ : Nat → G} {R : Nat → Prop} {st : St} {tmps : Array Value} {w : World}
variable {α : Type} [Ans α] {cf : CallF α} {yf : YieldF α} {kp : AV → St → α} {k : St → α}

theorem after_val {chk : List (Option (P1 × Bool) × RO × P1)} {ih : St → (St → α) → α} {s : St} {T : Tr AV} {H : Tr AObj} (h : Ans.holds (List.casesOn chk (ih s k) fun _ _ => Bool.rec Ans.fail (ih s k) (checked chk T H) : α)) : Ans.holds (ih s k) ∧ checked chk T H = true := by
  cases chk with
  | nil => exact ⟨h, rfl⟩
  | cons c cs =>
    simp only at h
    cases hc : checked (c :: cs) T H with
    | false => rw [hc] at h; exact absurd h Ans.not_fail
    | true => rw [hc] at h; exact ⟨h, rfl⟩

/-- The machine comes to a panic. -/
def Panics (P : Program) (τ : Nat → Int) (m : Machine) (b : Frame) (ds : List Deferred) (cs : List Frame) (γ : Nat → G) (R : Nat → Prop) (st : St) (w : World) (kp : AV → St → α) : Prop :=
  ∃ v st' γ' R' w' tmps' todo, Steps P m (lone { on b tmps' ds todo with mode := .panicking [{ v := conc τ γ' v, recovered := false }] } cs w') ∧ Rel P τ γ' R' st'.H st'.nx w' ∧ Went γ R st.H w γ' R' st'.H w' ∧ okv γ' R' v ∧ st'.D = st.D ∧ st'.rd = st.rd ∧
    Ans.holds (kp v st')

theorem Panics.of_steps {m m' : Machine} {b : Frame} {ds : List Deferred} {cs : List Frame} {γ' : Nat → G} {R' : Nat → Prop} {st' : St} {w' : World} (hs : Steps P m m') (hw : Went γ R st.H w γ' R' st'.H w') (hd : st'.D = st.D) (hrd : st'.rd = st.rd) (h : Panics P τ m' b ds cs γ' R' st' w' kp) :
    Panics P τ m b ds cs γ R st w kp := by
  obtain ⟨v, s, γ₂, R₂, w₂, t, td, h1, h2, h3, h4, h5, h6, h7⟩ := h
  exact ⟨v, s, γ₂, R₂, w₂, t, td, hs.trans h1, h2, hw.trans h3, h4, h5.trans hd, h6.trans hrd, h7⟩

theorem exec2 (hcf : CallsOk P τ cf) (hyf : YieldsOk P τ yf) (hr : RegF P N ops fs pi rops) (inv : Lag P τ N ops fs S D lab γ R st tmps w) {i : Nat} {f : Full} {c : List (Option (P1 × Bool) × RO × P1)} {post : List Nat} {rops' : List ROp} (hpi : pi = D ++ i :: post)
    (hf : fs[i]? = some f) (hc : checksOf (befores ops) fs pi i = some c) (hl : isLoud f.a = true) (hah : ∀ j, Ahead (befores ops) j i → j ∈ S) (h : Ans.holds (runOps cf yf kp (ropOf f c :: rops') st k))
    (b : Frame) (ds : List Deferred) (rest : List Nat) (kk : List Item) (cs : List Frame) :
    (∃ tmps' st' γ' R' w', Steps P (lone (on b tmps ds (.inRegion ops.toArray (i :: rest) :: kk)) cs w) (lone (on b tmps' ds (.inRegion ops.toArray rest :: kk)) cs w') ∧ Lag P τ N ops fs (S ++ [i]) (D ++ [i]) lab γ' R' st' tmps' w' ∧ Went γ R st.H w γ' R' st'.H w' ∧
      st'.D = st.D ∧ st'.rd = st.rd ∧ Ans.holds (runOps cf yf kp rops' st' k)) ∨
    Panics P τ (lone (on b tmps ds (.inRegion ops.toArray (i :: rest) :: kk)) cs w) b ds cs γ R st w kp := by
  obtain ⟨hiD, hin, hDn, hnah⟩ := not_in hr hpi
  have hiS : i ∉ S := fun h => hiD (inv.sub i h)
  obtain ⟨o, ho, hoc, hd, hrs, hg, hdN, hxs, hgs⟩ := full_of hr hf hin
  have hreads := reads_ok hr inv hDn hin hf hiS hah (fun h => absurd h hiD)
  have hfit := fits_of hr inv hrs hreads
  have hwant : Region.wanted o (yielded ops.toArray tmps) = wanted (gP f.g) st.T := wanted_same hg fun t b e => ⟨Nat.lt_of_lt_of_le (hgs t b e).2 inv.size, (hreads t (hgs t b e).1).1⟩
  have hoa : ops.toArray[i]? = some o := by simpa using ho
  have hdsz : ∀ u, o.dst = some u → u < tmps.size := fun u hu => Nat.lt_of_lt_of_le (hdN u (hd.trans hu)) inv.size
  have hdef := opC_defer hoc
  -- who is behind isn't touched
  have hapart : ∀ j ∈ D, j ∉ S → ∀ g, fs[j]? = some g → (∀ t, f.d = some t → t ∉ g.rs ∧ g.d ≠ some t) ∧ ¬ (isHeap f.a = true ∧ isAlloc g.a = true) ∧ ¬ Ahead (befores ops) i j ∧ ¬ Ahead (befores ops) j i := by
    intro j hj hjS g hg
    have hne : i ≠ j := fun e => hiD (e ▸ hj)
    have h2 : ¬ Ahead (befores ops) j i := fun e => hjS (hah j e)
    have h3 : ¬ Ahead (befores ops) i j := hnah j hj
    rcases (pair_spec hr hin (hDn j hj) hne hf hg).1 with h1 | h1 | h1
    · exact absurd h1 h2
    · exact absurd h1 h3
    · exact ⟨h1.1, h1.2.2.2.1, h3, h2⟩
  have done : ∀ (v : AV) (γ' : Nat → G) (R' : Nat → Prop) (H' : Tr AObj) (nx' : Nat) (w' : World), (∀ l, R l → γ' l = γ l ∧ R' l) → okv γ' R' v → Rel P τ γ' R' H' nx' w' →
      (∀ j ∈ D, j ∉ S → ∀ g op v', fs[j]? = some g → g.a = .q op → wanted (gP g.g) (putT (f.d.map path) v st.T) = true → (∀ t, g.d = some t → tv (putT (f.d.map path) v st.T) t = v') → rev op (putT (f.d.map path) v st.T) st.H = some v' → rev op (putT (f.d.map path) v st.T) H' = some v') →
      (∀ j ∈ D, j ∉ S → ∀ g, fs[j]? = some g → Laid g st.T → ¬ R (lab j) → ∀ ob, hget st.H (lab j) = some ob → lab j < st.nx → hget H' (lab j) = some ob ∧ ¬ R' (lab j) ∧ lab j < nx') →
      Lag P τ N ops fs (S ++ [i]) (D ++ [i]) lab γ' R' ⟨putT (f.d.map path) v st.T, st.D, H', nx', st.rd⟩ (putV tmps o.dst (conc τ γ' v)) w' := by
    intro v γ' R' H' nx' w' ha hov hR' hq hal
    have hkeep : ∀ j ∈ D, j ∉ S → ∀ g, fs[j]? = some g → AgreeOn g.rs st.T (putT (f.d.map path) v st.T) ∧ ∀ t, g.d = some t → tv st.T t = tv (putT (f.d.map path) v st.T) t := by
      intro j hj hjS g hg
      have hp := (hapart j hj hjS g hg).1
      refine ⟨fun t ht => ?_, fun t ht => ?_⟩
      · rw [tv_put, if_neg]
        intro e
        exact (hp t e).1 ht
      · rw [tv_put, if_neg]
        intro e
        exact (hp t e).2 ht
    have hback : ∀ j, j ∈ D ++ [i] → j ∉ S ++ [i] → j ∈ D ∧ j ∉ S := by
      intro j hj hjS
      simp only [List.mem_append, List.mem_singleton, not_or] at hj hjS
      exact ⟨hj.resolve_right hjS.2, hjS.1⟩
    refine ⟨?_, ?_, ?_, by rw [size_put]; exact inv.size, ?_, hR', ?_, ?_⟩
    · intro j hj
      simp only [List.mem_append, List.mem_singleton] at hj ⊢
      exact hj.imp (inv.sub j) id
    · intro j hj g hg hl
      simp only [List.mem_append, List.mem_singleton] at hj ⊢
      exact hj.imp (fun hj => inv.loud j hj g hg hl) id
    · intro j hj m hm
      simp only [List.mem_append, List.mem_singleton] at hj
      rcases hj with hj | rfl
      · exact List.mem_append_left _ (inv.closed j hj m hm)
      · exact List.mem_append_left _ (hah m hm)
    · intro t ht
      rw [getD_put _ _ _ _ hdsz]
      simp only
      rw [tv_put, hd]
      by_cases e : o.dst = some t
      · rw [if_pos e, if_pos e]
        exact ⟨rfl, hov⟩
      · rw [if_neg e, if_neg e]
        have := inv.tmp t fun j hj hjS => ht j (by simp [hj]) (by simp only [List.mem_append, List.mem_singleton, not_or]; exact ⟨hjS, fun e => hiD (e ▸ hj)⟩)
        have h2 := conc_agree (τ := τ) ha _ this.2
        exact ⟨by rw [this.1, h2.1], h2.2⟩
    · intro j hj hjS g hg
      obtain ⟨hjD, hjS'⟩ := hback j hj hjS
      obtain ⟨_, _, _, _, _, _, _, hxs', hgs'⟩ := full_of hr hg (hDn j hjD)
      have hk := hkeep j hjD hjS' g hg
      exact Redo.keep (fun t b e => (hgs' t b e).1) hxs' hk.1 hk.2 (fun op v' e => hq j hjD hjS' g op v' hg e) (hal j hjD hjS' g hg) (inv.redo j hjD hjS' g hg)
    · intro j hj hjS m hm hmS g g' hg hg' hl hl'
      obtain ⟨hjD, hjS'⟩ := hback j hj hjS
      obtain ⟨hmD, hmS'⟩ := hback m hm hmS
      obtain ⟨_, _, _, _, _, _, _, _, hgs1⟩ := full_of hr hg (hDn j hjD)
      obtain ⟨_, _, _, _, _, _, _, _, hgs2⟩ := full_of hr hg' (hDn m hmD)
      exact inv.labs j hjD hjS' m hmD hmS' g g' hg hg' ((Laid.keep (fun t b e => (hgs1 t b e).1) (hkeep j hjD hjS' g hg).1).2 hl) ((Laid.keep (fun t b e => (hgs2 t b e).1) (hkeep m hmD hmS' g' hg').1).2 hl')
  rw [runOps_cons] at h
  unfold opStep at h
  have e1 : (ropOf f c).g = gP f.g := rfl
  have e2 : (ropOf f c).d = f.d.map path := rfl
  have e3 : (ropOf f c).op = f.a := rfl
  have e4 : (ropOf f c).chk = c := rfl
  rw [e1, e2, e3, e4] at h
  cases hw : wanted (gP f.g) st.T with
  | false =>
    rw [hw] at h hwant
    simp only at h
    have h1 := done und γ R st.H st.nx w (fun _ h => ⟨rfl, h⟩) (by simp [und, okv, okvL]) inv.rel (fun _ _ _ _ _ _ _ _ _ _ h => h) (fun _ _ _ _ _ _ hL ob hob hlt => ⟨hob, hL, hlt⟩)
    have e : conc τ γ und = undef := by simp [und, conc, concL, undef]
    rw [e] at h1
    exact .inl ⟨_, _, γ, R, w, .one (st_op_skip hoa hwant), h1, Went.refl _ _ _ _, rfl, rfl, h⟩
  | true =>
    rw [hw] at h hwant
    simp only at h
    cases hfa : f.a with
    | p op => rw [hfa] at hl; simp [isLoud] at hl
    | q op => rw [hfa] at hl; simp [isLoud] at hl
    | a op => rw [hfa] at hl; simp [isLoud] at hl
    | v vo =>
      rw [hfa] at h hoc
      simp only at h
      by_cases hh : isHeap f.a = true
      · -- the heap may change
        obtain ⟨γ', R', H', nx', w', h1, h2, h3⟩ := op_loud hcf hyf inv.rel hoa hwant hoc hfit h b ds rest kk cs
        rcases h3 with ⟨v, hov, hs, hk⟩ | ⟨v, hov, hs, hk⟩
        · simp only at hk
          obtain ⟨hk1, hk2⟩ := after_val hk
          refine .inl ⟨_, _, γ', R', w', hs, done v γ' R' H' nx' w' h2.agree hov h1 ?_ ?_, h2, rfl, rfl, hk1⟩
          · intro j hj hjS g op v' hg hga hwt hdv hrv
            obtain ⟨t, ht, hin⟩ := checks_have hr hpi hf hc hh hj hg hga (hapart j hj hjS g hg).2.2.1 (hapart j hj hjS g hg).2.2.2
            obtain ⟨a, ha1, ha2⟩ := checked_mem hk2 _ hin hwt
            simp only at ha1 ha2
            have : a = v' := by
              have := hdv t ht
              unfold tv at this
              rw [ev_t, ha2] at this
              simpa using this
            rw [← this]
            exact ha1
          · intro j hj hjS g hg hla
            exact absurd ⟨hh, hla.1⟩ (hapart j hj hjS g hg).2.1
        · simp only at hk
          exact .inr ⟨v, ⟨st.T, st.D, H', nx', st.rd⟩, γ', R', w', _, _, hs, h1, h2, hov, rfl, rfl, hk⟩
      · -- it may not
        have hasg : ∃ x, vo = .asg x := by
          rw [hfa] at hh
          cases vo <;> simp [isHeap] at hh
          exact ⟨_, rfl⟩
        obtain ⟨x', rfl⟩ := hasg
        simp only [vev] at h
        obtain ⟨hk1, _⟩ := after_val h
        have hop : ∃ x, o.op = .assign x ∧ opd P x = some x' := by
          obtain ⟨dst, op, ty, pos, af, gd⟩ := o
          cases op
          case assign x =>
            simp only [opC, Option.bind_eq_bind, Option.bind_eq_some_iff, Option.some.injEq, AOp.v.injEq, VO.asg.injEq] at hoc
            obtain ⟨y, hy, rfl⟩ := hoc
            exact ⟨x, rfl, hy⟩
          case makeMap t r => cases r <;> simp [opC] at hoc
          case makeFunc f a b => cases f <;> simp [opC, Option.bind_eq_some_iff] at hoc
          case unOp op t x => cases op <;> simp [opC, Option.bind_eq_some_iff] at hoc
          case binOp op t x y u =>
            exfalso
            simp only [opC, binC, Option.bind_eq_bind, Option.bind_eq_some_iff] at hoc
            repeat' (first | (simp only [Option.map_eq_some_iff, reduceCtorEq, and_false, exists_false] at hoc; done) | (simp only [Option.some.injEq, reduceCtorEq] at hoc; done) | (obtain ⟨_, _, hoc⟩ := hoc) | (split at hoc) | (simp only [Option.bind_eq_some_iff, Option.some.injEq] at hoc))
          case call c =>
            exfalso
            obtain ⟨callee, as, ts⟩ := c
            simp only [opC, Option.bind_eq_bind] at hoc
            split at hoc
            · simp only [Option.bind_eq_some_iff, Option.some.injEq, AOp.v.injEq, reduceCtorEq, and_false, exists_false] at hoc
            · obtain ⟨as⟩ := as
              obtain ⟨ts⟩ := ts
              unfold builtC at hoc
              simp only [Option.bind_eq_bind] at hoc
              split at hoc
              all_goals repeat' (first | (simp only [reduceCtorEq] at hoc; done) | (simp only [reduceCtorEq] at hoc; done) | (obtain ⟨_, _, hoc⟩ := hoc) | (split at hoc) | (simp only [Option.bind_eq_some_iff, Option.some.injEq, AOp.v.injEq, reduceCtorEq, and_false, exists_false] at hoc))
            · simp at hoc
          all_goals
            exfalso
            simp only [opC, Option.bind_eq_bind, Option.bind_eq_some_iff, Option.some.injEq, AOp.v.injEq, reduceCtorEq, and_false, exists_false] at hoc
            try (repeat' (first | (simp only [reduceCtorEq] at hoc; done) | (simp only [Option.some.injEq, reduceCtorEq] at hoc; done) | (obtain ⟨_, _, hoc⟩ := hoc) | (split at hoc) | (simp only [Option.bind_eq_some_iff, Option.some.injEq, AOp.v.injEq, reduceCtorEq, and_false, exists_false] at hoc)))
        obtain ⟨x, hx1, hx2⟩ := hop
        have hx3 := hfit x (by rw [hx1]; simp [Op.operands]) x' hx2
        have hrun : (execOp (evalT tmps) o).run P w = .ok (.value (conc τ γ (ev x' st.T))) w := by
          obtain ⟨dst, op, ty, pos, af, gd⟩ := o
          simp only at hx1
          subst hx1
          simp [execOp, hx3.1]
        exact .inl ⟨_, _, γ, R, w, .one (st_op_value hoa hwant hdef hrun), done _ γ R st.H st.nx w (fun _ h => ⟨rfl, h⟩) hx3.2 inv.rel (fun _ _ _ _ _ _ _ _ _ _ h => h) (fun _ _ _ _ _ _ hL ob hob hlt => ⟨hob, hL, hlt⟩), Went.refl _ _ _ _, rfl, rfl, hk1⟩
end
end Go.Ax
