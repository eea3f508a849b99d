/- An operation of a region as the machine runs it. -/
import Derived.Test.YtbhjokfopgbmiaaGreatDoorAxStatic
namespace Go.Ax
open Go

def retV : ARet → AV
  | .ret v => v
  | .pan v => v
noncomputable def concRet (τ : Nat → Int) (γ : Nat → G) : ARet → Ending
  | .ret v => .returned (conc τ γ v)
  | .pan v => .panicked [{ v := conc τ γ v, recovered := false }]

section
variable {α : Type} [Ans α]

/-- What a call gives. -/
def CallGives (P : Program) (τ : Nat → Int) (γ : Nat → G) (R : Nat → Prop) (g : Nat) (as : List AV) (H : Tr AObj) (w : World) (k : ARet → Tr AObj → Nat → α) : Prop :=
  ∀ cs, ∃ γ' R' H' nx' w' fr r, Rel P τ γ' R' H' nx' w' ∧ Went γ R H w γ' R' H' w' ∧ Steps P (lone (Frame.enter P g (concL τ γ as).toArray .normal) cs w) (lone fr cs w') ∧ fr.fn = g ∧
    okv γ' R' (retV r) ∧ fr.leaving P w' (concRet τ γ' r) ∧ Ans.holds (k r H' nx')
def Callable (P : Program) (g : Nat) : Prop := ∃ fn, P.funcs[g]? = some fn ∧ fn.body.isNone = false ∧ (fn.name == "runtime.NumGoroutine") = false
def CallsOk (P : Program) (τ : Nat → Int) (cf : CallF α) : Prop :=
  ∀ g as H nx k γ R w, Ans.holds (cf g as H nx k) → Rel P τ γ R H nx w → okvL γ R as → Callable P g ∧ CallGives P τ γ R g as H w k
def YieldsOk (P : Program) (τ : Nat → Int) (yf : YieldF α) : Prop :=
  ∀ l as H nx k γ R w, Ans.holds (yf l as H nx k) → Rel P τ γ R H nx w → okvL γ R as → R l →
    ∃ f tm x y, (Instr.yield (γ l).blk (concL τ γ as).toArray).run P w = .ok (.round (γ l).blk f tm x y) w ∧
      ∀ (c : Frame) (cs : List Frame), ∃ γ' R' H' nx' w' v, Rel P τ γ' R' H' nx' w' ∧ Went γ R H w γ' R' H' w' ∧ okv γ' R' v ∧
        Steps P (lone (Frame.round (γ l).blk f tm x y .normal) (c :: cs) w) (lone (c.finish (conc τ γ' v)) cs w') ∧ Ans.holds (k (.ret v) H' nx')
end

section
variable {P : Program} {τ : Nat → Int} {γ : Nat → G} {R : Nat → Prop}

theorem opC_call {o : Oper} {f' : X} {as' : List X} (hc : opC P o = some (.v (.call f' as'))) :
    ∃ f as ts, o.op = .call { callee := .value f, args := as, argTypes := ts } ∧ opd P f = some f' ∧ as.toList.mapM (opd P) = some as' := by
  obtain ⟨dst, op, ty, pos, af, gd⟩ := o
  cases op
  case call c =>
    obtain ⟨callee, as, ts⟩ := c
    simp only [opC, Option.bind_eq_bind] at hc
    split at hc
    · rename_i f
      simp only [Option.bind_eq_some_iff, Option.some.injEq, AOp.v.injEq, VO.call.injEq] at hc
      obtain ⟨f'', hf, as'', ha, rfl, rfl⟩ := hc
      exact ⟨f, as, ts, rfl, hf, ha⟩
    · exfalso
      obtain ⟨as⟩ := as
      obtain ⟨ts⟩ := ts
      unfold builtC at hc
      simp only [Option.bind_eq_bind] at hc
      split at hc
      all_goals repeat' (first | (simp only [reduceCtorEq] at hc; done) | (simp only [reduceCtorEq] at hc; done) | (obtain ⟨_, _, hc⟩ := hc) | (split at hc) | (simp only [Option.bind_eq_some_iff, Option.some.injEq, AOp.v.injEq, reduceCtorEq, and_false, exists_false] at hc))
    · simp at hc
  case makeMap t r => cases r <;> simp [opC] at hc
  case makeFunc f a b => cases f <;> simp [opC, Option.bind_eq_some_iff] at hc
  case unOp op t x => cases op <;> simp [opC, Option.bind_eq_some_iff] at hc
  case binOp op t x y u =>
    exfalso
    simp only [opC, binC, Option.bind_eq_bind, Option.bind_eq_some_iff] at hc
    repeat' (first | (simp only [Option.map_eq_some_iff, reduceCtorEq, and_false, exists_false] at hc; done) | (simp only [Option.some.injEq, reduceCtorEq] at hc; done) | (obtain ⟨_, _, hc⟩ := hc) | (split at hc) | (simp only [Option.bind_eq_some_iff, Option.some.injEq] at hc))
  all_goals
    exfalso
    simp only [opC, Option.bind_eq_bind, Option.bind_eq_some_iff, Option.some.injEq, AOp.v.injEq, reduceCtorEq, and_false, exists_false] at hc
    try (repeat' (first | (simp only [reduceCtorEq] at hc; done) | (simp only [Option.some.injEq, reduceCtorEq] at hc; done) | (obtain ⟨_, _, hc⟩ := hc) | (split at hc) | (simp only [Option.bind_eq_some_iff, Option.some.injEq, AOp.v.injEq, reduceCtorEq, and_false, exists_false] at hc)))

theorem opC_defer {o : Oper} {a : AOp} (hc : opC P o = some a) : ∀ c, o.op ≠ .defer c := by
  intro c e
  simp [opC, e] at hc

/-- An operand that can be seen. -/
theorem fit_of {H : Tr AObj} {nx : Nat} {w : World} {T : Tr AV} {tmps : Array Value} (hR : Rel P τ γ R H nx w) {x : Operand} (h : ∀ t, x = .tmp t → tmps.getD t undef = conc τ γ (tv T t) ∧ okv γ R (tv T t)) : Fit P τ γ R T (evalT tmps) x := by
  intro x' hx
  cases x with
  | tmp t =>
    simp only [opd, Option.some.injEq] at hx
    subst hx
    exact h t rfl
  | const v =>
    simp only [opd, Option.map_eq_some_iff] at hx
    obtain ⟨a, ha, rfl⟩ := hx
    have := toAV_sound τ γ R 20 v a ha
    simp only [ev_c]
    exact ⟨this.1.symm, this.2⟩
  | global g =>
    simp only [opd] at hx
    split at hx
    · rename_i hg
      simp only [Option.some.injEq] at hx
      subst hx
      have := hR.glob g hg
      simp only [ev_c, evalT, conc, okv]
      rw [this.2]
      exact ⟨by simp, this.1⟩
    · simp at hx
  | func f =>
    simp only [opd, Option.some.injEq] at hx
    subst hx
    simp [evalT, conc, concFn, concL, okv, okvL]

variable {α : Type} [Ans α]

/-- An operation that changes something. -/
theorem op_loud {cf : CallF α} {yf : YieldF α} (hcf : CallsOk P τ cf) (hyf : YieldsOk P τ yf) {ops : Array Oper} {i : Nat} {o : Oper} {st : St} {tmps : Array Value} {w : World} {vo : VO} {kk : ONext → St → α} (hR : Rel P τ γ R st.H st.nx w)
    (ho : ops[i]? = some o) (hw : Region.wanted o (yielded ops tmps) = true) (hc : opC P o = some (.v vo)) (hf : ∀ x ∈ o.op.operands.toList, Fit P τ γ R st.T (evalT tmps) x) (h : Ans.holds (vev cf yf vo st kk))
    (b : Frame) (ds : List Deferred) (rest : List Nat) (k : List Item) (cs : List Frame) :
    ∃ γ' R' H' nx' w', Rel P τ γ' R' H' nx' w' ∧ Went γ R st.H w γ' R' H' w' ∧
      ((∃ v, okv γ' R' v ∧ Steps P (lone (on b tmps ds (.inRegion ops (i :: rest) :: k)) cs w) (lone (on b (putV tmps o.dst (conc τ γ' v)) ds (.inRegion ops rest :: k)) cs w') ∧ Ans.holds (kk (.val v) ⟨st.T, st.D, H', nx', st.rd⟩)) ∨
       (∃ v, okv γ' R' v ∧ Steps P (lone (on b tmps ds (.inRegion ops (i :: rest) :: k)) cs w) (lone { on b tmps ds (.inRegion ops (i :: rest) :: k) with mode := .panicking [{ v := conc τ γ' v, recovered := false }] } cs w') ∧ Ans.holds (kk (.pan v) ⟨st.T, st.D, H', nx', st.rd⟩))) := by
  have hd := opC_defer hc
  by_cases hcall : ∃ f as, vo = .call f as
  · obtain ⟨f', as', rfl⟩ := hcall
    obtain ⟨f, as, ts, hop, hof, hoa⟩ := opC_call hc
    obtain ⟨dst, op, ty, pos, af, gd⟩ := o
    simp only at hop
    subst hop
    have ff := hf f (by simp [Op.operands, Call.operands])
    have fa : ∀ x ∈ as.toList, Fit P τ γ R st.T (evalT tmps) x := fun x hx => hf x (by simp [Op.operands, Call.operands] at *; exact .inr hx)
    have hfin := fun v => finish_on b tmps ds ops i rest k v
    simp only [ho, Option.bind_some] at hfin
    simp only [vev, callV] at h
    split at h
    · -- a function
      rename_i g a b' hv
      simp only [appL_eq] at h
      have hargs : okvL γ R (a ++ (evL as' st.T ++ b')) := by
        have h1 := (ff f' hof).2
        rw [hv] at h1
        simp only [okv] at h1
        exact okvL_append h1.2.1 (okvL_append (fits_list hoa fa).2 h1.2.2)
      obtain ⟨⟨fn, hg, hb, hn⟩, hgives⟩ := hcf _ _ _ _ _ _ _ _ h hR hargs
      have hrun := (call_sound (dst := dst) (ty := ty) (pos := pos) (af := af) (gd := gd) (ts := ts) (w := w) ff hof fa hoa hv hg hb hn).1
      obtain ⟨γ', R', H', nx', w', fr, r, h1, h2, h3, h4, h5, h6, h7⟩ := hgives (on b tmps ds (.inRegion ops (i :: rest) :: k) :: cs)
      refine ⟨γ', R', H', nx', w', h1, h2, ?_⟩
      cases r with
      | ret v =>
        refine .inl ⟨v, h5, .head (st_op_enter ho hw hd hrun) (h3.trans (.one ?_)), h7⟩
        rw [step_leave_returned h6, hfin]
      | pan v =>
        refine .inr ⟨v, h5, .head (st_op_enter ho hw hd hrun) (h3.trans (.one ?_)), h7⟩
        rw [step_leave_panicked h6, raise_on]
    · -- a round
      rename_i l a b' hv
      cases a with
      | cons x xs => exact absurd h Ans.not_fail
      | nil =>
        simp only at h
        obtain ⟨hrun, hargs, hRl⟩ := call_yield (dst := dst) (ty := ty) (pos := pos) (af := af) (gd := gd) (ts := ts) (w := w) ff hof fa hoa hv
        obtain ⟨g, tm, x, y, h1, h2⟩ := hyf _ _ _ _ _ _ _ _ h hR hargs hRl
        rw [h1] at hrun
        obtain ⟨γ', R', H', nx', w', v, h3, h4, h5, h6, h7⟩ := h2 (on b tmps ds (.inRegion ops (i :: rest) :: k)) cs
        refine ⟨γ', R', H', nx', w', h3, h4, .inl ⟨v, h5, .head (st_op_round ho hw hd hrun) ?_, h7⟩⟩
        rw [← hfin]
        exact h6
    · exact absurd h Ans.not_fail
  · rcases loud_sound hR hf hc (fun f as e => hcall ⟨f, as, e⟩) h with ⟨v, γ', R', H', nx', w', hg, h1, h2, h3, h4⟩ | ⟨t, v, hr, h1, h2⟩
    · refine ⟨γ', R', H', nx', w', h1, h2, .inl ⟨v, h3, ?_, h4⟩⟩
      rcases hg with hg | ⟨hg, he⟩
      · exact .one (st_op_value ho hw hd hg)
      · rw [he]; exact .one (st_op_next ho hw hd hg)
    · exact ⟨γ, R, st.H, st.nx, w, hR, Went.refl _ _ _ _, .inr ⟨_, h1, .one (st_op_panic ho hw hd hr), h2⟩⟩
end
end Go.Ax
