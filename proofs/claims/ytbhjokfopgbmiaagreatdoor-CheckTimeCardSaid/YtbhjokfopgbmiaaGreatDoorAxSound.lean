/- Code, calls, rounds: the run is sound. -/
import Derived.Test.YtbhjokfopgbmiaaGreatDoorAxCode
namespace Go.Ax
open Go

section
variable {P : Program} {τ : Nat → Int} {α : Type} [Ans α]

/-- The table of functions is the program's. -/
def Table (P : Program) (ft : FT) : Prop := ∀ g fn, ft g = some fn → ∃ f, P.funcs[g]? = some f ∧ funC P f = some fn ∧ (f.name == "runtime.NumGoroutine") = false

/-- What is told of functions that aren't walked into is so. -/
def HookOk (P : Program) (τ : Nat → Int) (hk : Hook) : Prop := ∀ g as H nx v, hk g as H nx = some v → ∀ γ R w, Rel P τ γ R H nx w → okvL γ R as → Callable P g ∧ okv γ R v ∧
  ∀ cs, ∃ w' fr, Rel P τ γ R H nx w' ∧ Went γ R H w γ R H w' ∧ Steps P (lone (Frame.enter P g (concL τ γ as).toArray .normal) cs w) (lone fr cs w') ∧ fr.fn = g ∧ fr.leaving P w' (.returned (conc τ γ v))

structure Sound (P : Program) (τ : Nat → Int) (run : RunF α) : Prop where
  code : ∀ (N : Nat) (c : Code) (ac : ACode), codeC P N c = some ac → ∀ (st : St) (K : Kont α), Ans.holds (run ac st K) → ∀ γ R tmps ds w, Sit P τ N γ R st tmps w → DefsR γ R st.D ds → ∀ (b : Frame) (k : List Item) (cs : List Frame), b.roundOf.isSome = st.rd →
    Arr P τ N (lone (on b tmps ds (.code c :: k)) cs w) b k cs γ R st w K
  loop : ∀ (N : Nat) (c : Code) (ac : ACode), codeC P N c = some ac → ∀ (st : St) (K : Kont α), Ans.holds (run (.loop ac) st K) → ∀ γ R tmps ds w, Sit P τ N γ R st tmps w → DefsR γ R st.D ds → ∀ (b : Frame) (k : List Item) (cs : List Frame), b.roundOf.isSome = st.rd →
    Arr P τ N (lone (on b tmps ds (.inLoop c :: k)) cs w) b k cs γ R st w K

variable {γ : Nat → G} {R : Nat → Prop} {w : World} {H : Tr AObj} {nx : Nat}

/-! ## Loops over functions -/

theorem loop_of {l : Nat} {stt : LSt} {pend : Option AExit} {T : Tr AV} {ps : List P1} {a b : ACode} {df : Nat} (hR : Rel P τ γ R H nx w) (hl : R l) (hg : hget H l = some (.loop stt pend T ps a b df)) :
    ∃ (L : Loop) (N : Nat), w.heap[(γ l).blk]? = some (.loop L) ∧ (γ l).base = 0 ∧ L.state = concSt stt ∧ L.pending = pend.bind concPend ∧ (∀ e, pend = some e → concPend e ≠ none) ∧ TmpsR τ γ T L.tmps ∧ TmpsOk γ R T ∧ N ≤ L.tmps.size ∧ L.params.toList.all (· < N) = true ∧
      ps = L.params.toList.map path ∧ codeC P N L.assign = some a ∧ codeC P N L.body = some b ∧ L.defers = (γ df).blk ∧ R df := by
  obtain ⟨ob, hb, hr⟩ := hR.obj l _ hl hg
  cases hr with
  | loop _ _ _ _ _ _ _ L N hb' hst hp hpn hT hO hN hps hps' ha hb'' hd hRd => exact ⟨L, N, hb, hb', hst, hp, hpn, hT, hO, hN, hps, hps', ha, hb'', hd, hRd⟩

theorem run_getLoop {b : Nat} {L : Loop} (h : w.heap[b]? = some (.loop L)) : (Instr.getLoop b).run P w = .ok L w := by
  have := run_getObj_of (P := P) h (by simp)
  simp [Instr.getLoop, this]

/-- A loop's block changes. -/
theorem loop_put {l : Nat} {stt stt' : LSt} {pend pend' : Option AExit} {T : Tr AV} {ps : List P1} {a b : ACode} {df : Nat} (hR : Rel P τ γ R H nx w) (hl : R l) (hg : hget H l = some (.loop stt pend T ps a b df)) {L : Loop} (hL : w.heap[(γ l).blk]? = some (.loop L)) (hpn : ∀ e, pend' = some e → concPend e ≠ none) :
    Rel P τ γ R (hset H l (.loop stt' pend' T ps a b df)) nx { w with heap := w.heap.setIfInBounds (γ l).blk (.loop { L with state := concSt stt', pending := pend'.bind concPend }) } ∧
    Went γ R H w γ R (hset H l (.loop stt' pend' T ps a b df)) { w with heap := w.heap.setIfInBounds (γ l).blk (.loop { L with state := concSt stt', pending := pend'.bind concPend }) } := by
  obtain ⟨L', N, h1, h2, h3, h4, h5, h6, h7, h8, h9, h10, h11, h12, h13, h14⟩ := loop_of hR hl hg
  rw [hL] at h1
  simp only [Option.some.injEq, Obj.loop.injEq] at h1
  subst h1
  exact obj_put hR hl hg rfl hL (.loop stt' pend' T ps a b df _ N h2 rfl rfl hpn h6 h7 h8 h9 h10 h11 h12 h13 h14)

/-! ## A call -/

theorem tv_argsT : ∀ (as : List AV) (n : Nat) (T : Tr AV) (t : Nat), tv (argsT as n T) t = if n ≤ t ∧ t < n + as.length then (as[t - n]?).getD und else tv T t := by
  intro as
  induction as with
  | nil => intro n T t; show tv T t = _; rw [if_neg]; simp only [List.length_nil]; omega
  | cons a as ih =>
    intro n T t
    have e : argsT (a :: as) n T = argsT as (Nat.succ n) (Tr.set (pathR n) (some a) T) := rfl
    rw [e, ih, pathR_eq, List.length_cons, Nat.succ_eq_add_one]
    have htv : tv (Tr.set (path n) (some a) T) t = if t = n then a else tv T t := by
      have := tv_put (some n) a T t
      simp only [Option.map_some, Option.some.injEq, putT] at this
      rw [this]
      by_cases h : n = t
      · subst h; simp
      · rw [if_neg h, if_neg (fun e => h e.symm)]
    rw [htv]
    by_cases h1 : t = n
    · subst h1
      rw [if_neg (by omega), if_pos rfl, if_pos (by omega), Nat.sub_self]
      rfl
    · by_cases h2 : n + 1 ≤ t ∧ t < n + 1 + as.length
      · rw [if_pos h2, if_pos (by omega), show t - n = (t - (n + 1)) + 1 by omega, List.getElem?_cons_succ]
      · rw [if_neg h2, if_neg h1, if_neg (by omega)]

theorem tv_e (t : Nat) : tv .e t = und := by
  unfold tv
  rw [ev_t]
  simp

theorem sit_args {N : Nat} {as : List AV} (hR : Rel P τ γ R H nx w) (ho : okvL γ R as) (rd : Bool) (D : List ADef) : Sit P τ N γ R ⟨argsT as 0 .e, D, H, nx, rd⟩ ((concL τ γ as).toArray ++ Array.replicate (N - (concL τ γ as).toArray.size) undef) w := by
  have hlen : (concL τ γ as).length = as.length := by rw [concL_eq, List.length_map]
  refine ⟨fun t => ?_, fun t => ?_, hR, by simp; omega⟩
  · simp only
    rw [tv_argsT, Array.getD_eq_getD_getElem?]
    by_cases h : t < as.length
    · rw [if_pos (by omega), Array.getElem?_append_left (by simp [hlen, h])]
      simp [concL_eq, h]
    · rw [if_neg (by omega), tv_e, Array.getElem?_append_right (by simp [hlen]; omega)]
      rw [show conc τ γ und = undef by simp [und, conc, concL, undef]]
      rw [Array.getElem?_replicate]
      split <;> rfl
  · simp only
    rw [tv_argsT]
    split
    · rename_i h
      cases hv : as[t - 0]? with
      | none => simp [und, okv, okvL]
      | some v => exact okvL_get ho hv
    · rw [tv_e]
      simp [und, okv, okvL]

/-- What is put off is taken. -/
theorem take_all {N : Nat} {T : Tr AV} {tmps : Array Value} : ∀ (D : List ADef) (H : Tr AObj) (ds : List Deferred) (H' : Tr AObj) (w : World), Rel P τ γ R H nx w → DefsR γ R D ds → takenD D H = some H' → ∀ (fr : Frame) (cs : List Frame), fr.mode = .returning → fr.defers = ds →
    ∃ w', Steps P (lone fr cs w) (lone { fr with defers := [] } cs w') ∧ Rel P τ γ R H' nx w' ∧ Went γ R H w γ R H' w' := by
  intro D
  induction D with
  | nil =>
    intro H ds H' w hR hD h fr cs hm hd
    have h0 : some H = some H' := h
    simp only [Option.some.injEq] at h0
    subst h0
    have : ds = [] := by rw [hD.1]; rfl
    subst this
    refine ⟨w, ?_, hR, Went.refl _ _ _ _⟩
    have : ({ fr with defers := [] } : Frame) = fr := by rw [← hd]
    rw [this]
    exact Steps.refl _ _
  | cons d D ih =>
    intro H ds H' w hR hD h fr cs hm hd
    obtain ⟨l, rfl, hl⟩ := hD.2 d (by simp)
    have h0 : (match hget H l with | some (.dfr false) => takenD D (hset H l (.dfr true)) | _ => none) = some H' := h
    split at h0
    case h_2 => simp at h0
    rename_i hg
    obtain ⟨ob, hb, hr⟩ := hR.obj l _ hl hg
    cases hr with
    | dfr _ hb' =>
      simp only [Bool.false_eq_true, if_false] at hb
      have hp := obj_put (o := .dfr true) (ob := .deferred none) hR hl hg rfl hb (by simpa using ObjR.dfr (P := P) (τ := τ) (γ := γ) (R := R) (g := γ l) true hb')
      have hds : ds = { target := .collected (γ l).blk, args := #[] } :: D.map (concD γ) := hD.1
      have hrun : (Instr.takeDeferred (γ l).blk).run P w = .ok [] { w with heap := w.heap.setIfInBounds (γ l).blk (.deferred none) } := by
        have h1 := run_getObj_of (P := P) hb (by simp)
        have h2 := run_setObj_of (P := P) (o' := .deferred none) hb (by simp)
        simp [Instr.takeDeferred, h1, h2]
      have hst := st_take (cs := cs) hm (hd.trans hds) hrun
      obtain ⟨w', h3, h4, h5⟩ := ih (hset H l (.dfr true)) (D.map (concD γ)) H' _ hp.1 ⟨rfl, fun d hd => hD.2 d (by simp [hd])⟩ h0 { fr with defers := [] ++ D.map (concD γ) } cs hm rfl
      exact ⟨w', .head hst h3, h4, hp.2.trans h5⟩

def resF (tmps : Array Value) (r : ResultVar) : Sem Value := match r with
  | .tmp t => pure (tmps.getD t undef)
  | .cell a t => do loadVar t (← asAddr (tmps.getD a undef))
theorem results_eq (f : Func) (tmps : Array Value) : results f tmps = (f.results.mapM (resF tmps) >>= fun vs => pure (if h : vs.size = 1 then vs[0] else .tuple vs)) := rfl

/-- A variable is read. -/
theorem load_sound {t : TypeId} {b : Bool} {a : Nat} {T : Tr AV} {tmps : Array Value} {v : AV} (hb : isAggB P t = some b) (hT : TmpsR τ γ T tmps) (hO : TmpsOk γ R T) (hR : Rel P τ γ R H nx w)
    (h : rev (if b = true then .ldn (P.cellsOf t) (.t (path a)) else .ld1 (.t (path a))) T H = some v) : ∃ A, tmps.getD a undef = .pointer (some A) ∧ (loadVar t A).run P w = .ok (conc τ γ v) w ∧ okv γ R v := by
  have fa : Fit P τ γ R T (evalT tmps) (.tmp a) := fit_of hR fun t' e => by cases e; exact ⟨hT a, hO a⟩
  have hd : Does P τ γ R (evalT tmps) w ⟨none, .load t (.tmp a), 0, "", #[], none⟩ v := by
    cases b with
    | true => exact q_ldn hR hb fa rfl h
    | false => exact q_ld1 hR hb fa rfl h
  have hp : ∃ l o, tv T a = .ptr l o := by
    unfold tv
    cases b <;> simp only [if_true, Bool.false_eq_true, if_false, rev] at h <;> split at h
    · exact ⟨_, _, by assumption⟩
    · simp at h
    · exact ⟨_, _, by assumption⟩
    · simp at h
  obtain ⟨l, o, hlo⟩ := hp
  have hA : tmps.getD a undef = .pointer (some ⟨(γ l).blk, (γ l).base + o, none⟩) := by rw [hT a, hlo]; rfl
  refine ⟨_, hA, ?_, hd.2⟩
  have h1 := hd.1
  have hA' : evalT tmps (.tmp a) = .pointer (some ⟨(γ l).blk, (γ l).base + o, none⟩) := hA
  simp only [execOp, Instr.loadAt, hA', Instr.sureAddr, Sem.run_bind, Sem.run_pure, Result.andThen_ok] at h1
  cases hr : (loadVar t ⟨(γ l).blk, (γ l).base + o, none⟩).run P w with
  | ok x w' => rw [hr] at h1; simpa using h1
  | halt x w' => rw [hr] at h1; simp at h1

theorem run_resList {D : List ADef} {rd : Bool} {T : Tr AV} {tmps : Array Value} (hT : TmpsR τ γ T tmps) (hO : TmpsOk γ R T) (hR : Rel P τ γ R H nx w) : ∀ (rl : List ResultVar) (rs : List (P1 × Option (Option Nat))) (vs : List AV), rl.mapM (resC P) = some rs → resL rs ⟨T, D, H, nx, rd⟩ = some vs →
    (rl.mapM (resF tmps)).run P w = .ok (concL τ γ vs) w ∧ okvL γ R vs := by
  intro rl
  induction rl with
  | nil =>
    intro rs vs h1 h2
    simp at h1
    subst h1
    simp [resL] at h2
    subst h2
    simp [concL, okvL]
  | cons r rl ih =>
    intro rs vs h1 h2
    simp only [List.mapM_cons, Option.bind_eq_bind, Option.bind_eq_some_iff, Option.pure_def, Option.some.injEq] at h1
    obtain ⟨x, hx, xs, hxs, rfl⟩ := h1
    have e : resL (x :: xs) ⟨T, D, H, nx, rd⟩ = (Option.casesOn (res1 x ⟨T, D, H, nx, rd⟩) none fun v => Option.casesOn (resL xs ⟨T, D, H, nx, rd⟩) none fun vs => some (v :: vs) : Option (List AV)) := rfl
    rw [e] at h2
    simp only [orec_bind, Option.bind_eq_some_iff, Option.some.injEq] at h2
    obtain ⟨v, hv, vs', hvs, rfl⟩ := h2
    have ih := ih xs vs' hxs hvs
    cases r with
    | tmp t =>
      simp only [resC, Option.some.injEq] at hx
      subst hx
      simp only [res1, Option.some.injEq] at hv
      subst hv
      have ht := hT t
      have ho := hO t
      unfold tv at ht ho
      have hh : (resF tmps (.tmp t)).run P w = .ok (conc τ γ (ev (.t (path t)) T)) w := by simp only [resF, ht, Sem.run_pure]
      simp only [List.mapM_cons, Sem.run_bind, Sem.run_pure, Result.andThen_ok, ih.1, concL, hh, okvL]
      exact ⟨trivial, ho, ih.2⟩
    | cell a ty =>
      simp only [resC, Option.bind_eq_bind, Option.bind_eq_some_iff, Option.some.injEq] at hx
      obtain ⟨b, hb, rfl⟩ := hx
      have hv' : rev (if b = true then .ldn (P.cellsOf ty) (.t (path a)) else .ld1 (.t (path a))) T H = some v := by
        cases b
        · simpa [res1] using hv
        · simpa [res1] using hv
      obtain ⟨A, hA, hrun, ho⟩ := load_sound hb hT hO hR hv'
      have hh : (resF tmps (.cell a ty)).run P w = .ok (conc τ γ v) w := by simp only [resF, hA, asAddr, Sem.run_bind, Sem.run_pure, Result.andThen_ok, hrun]
      simp only [List.mapM_cons, Sem.run_bind, Sem.run_pure, Result.andThen_ok, hh, ih.1, concL, okvL]
      exact ⟨trivial, ho, ih.2⟩

theorem run_results {f : Func} {rs : List (P1 × Option (Option Nat))} (hrs : f.results.toList.mapM (resC P) = some rs) {T : Tr AV} {tmps : Array Value} {v : AV} {D : List ADef} {rd : Bool} (hT : TmpsR τ γ T tmps) (hO : TmpsOk γ R T) (hR : Rel P τ γ R H nx w) (h : resV rs ⟨T, D, H, nx, rd⟩ = some v) :
    (results f tmps).run P w = .ok (conc τ γ v) w ∧ okv γ R v := by
  unfold resV at h
  simp only [orec_bind, Option.bind_eq_some_iff, Option.some.injEq] at h
  obtain ⟨vs, hvs, rfl⟩ := h
  obtain ⟨h1, h2⟩ := run_resList hT hO hR _ _ _ hrs hvs
  rw [results_eq, Array.mapM_eq_mapM_toList]
  simp only [Sem.run_bind, Sem.run_map, h1, Result.andThen_ok, Sem.run_pure]
  cases vs with
  | nil => simp [concL, conc, okv, okvL]
  | cons x xs => cases xs with
    | nil => simp only [okvL] at h2; simp [concL, h2.1]
    | cons y ys => simp [concL, conc, okv, okvL] at h2 ⊢; exact h2
end
end Go.Ax
