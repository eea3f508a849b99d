/- The run is sound: calls, rounds, code. -/
import Derived.Test.YtbhjokfopgbmiaaGreatDoorAxSound
namespace Go.Ax
open Go

section
variable {P : Program} {τ : Nat → Int} {α : Type} [Ans α]
variable {ft : FT} {hk : Hook} {run : RunF α}

theorem funC_spec {f : Func} {fn : AFn} (h : funC P f = some fn) : ∃ c, f.body = some c ∧ codeC P f.ntmps c = some fn.body ∧ f.results.toList.mapM (resC P) = some fn.res := by
  unfold funC at h
  simp only [Option.bind_eq_bind, Option.bind_eq_some_iff, Option.some.injEq] at h
  obtain ⟨c, hc, b, hb, r, hr, rfl⟩ := h
  exact ⟨c, hc, hb, hr⟩

/-- The end of a function. -/
theorem finish_sound {N : Nat} {f : Func} {fn : AFn} {g : Nat} (hf : P.funcs[g]? = some f) (hrs : f.results.toList.mapM (resC P) = some fn.res) {γ : Nat → G} {R : Nat → Prop} {st : St} {tmps : Array Value} {ds : List Deferred} {w : World} {k : ARet → Tr AObj → Nat → α}
    (hs : Sit P τ N γ R st tmps w) (hd : DefsR γ R st.D ds) (h : Ans.holds (finish fn st k)) (fr : Frame) (cs : List Frame) (hm : fr.mode = .returning) (hds : fr.defers = ds) (ht : fr.tmps = tmps) (hfn : fr.fn = g) (hk : fr.kind = .normal) :
    ∃ H' w' fr' v, Rel P τ γ R H' st.nx w' ∧ Went γ R st.H w γ R H' w' ∧ Steps P (lone fr cs w) (lone fr' cs w') ∧ fr'.fn = g ∧ okv γ R v ∧ fr'.leaving P w' (.returned (conc τ γ v)) ∧ Ans.holds (k (.ret v) H' st.nx) := by
  unfold finish at h
  cases hH : takenD st.D st.H with
  | none => rw [hH] at h; exact absurd h Ans.not_fail
  | some H' =>
    rw [hH] at h
    simp only at h
    cases hv : resV fn.res ⟨st.T, [], H', st.nx, st.rd⟩ with
    | none => rw [hv] at h; exact absurd h Ans.not_fail
    | some v =>
      rw [hv] at h
      obtain ⟨w', h1, h2, h3⟩ := take_all (N := N) (T := st.T) (tmps := tmps) st.D st.H ds H' w hs.rel hd hH fr cs hm hds
      have hr := run_results hrs hs.tm hs.ok h2 hv
      refine ⟨H', w', _, v, h2, h3, h1, hfn, hr.2, ⟨hm, rfl, hk, f, ?_, ?_⟩, h⟩
      · rw [← hfn] at hf; exact hf
      · show (results f fr.tmps).run P w' = _
        rw [ht]
        exact hr.1

theorem calls_ok (htab : Table P ft) (hhk : HookOk P τ hk) (hrun : Sound P τ run) : CallsOk P τ (callF run ft hk) := by
  intro g as H nx k γ R w h hR ho
  unfold callF at h
  cases hh : hk g as H nx with
  | some v =>
    rw [hh] at h
    simp only at h
    obtain ⟨hc, hov, hgo⟩ := hhk g as H nx v hh γ R w hR ho
    refine ⟨hc, fun cs => ?_⟩
    obtain ⟨w', fr, h1, h2, h3, h4, h5⟩ := hgo cs
    exact ⟨γ, R, H, nx, w', fr, .ret v, h1, h2, h3, h4, hov, h5, h⟩
  | none =>
    rw [hh] at h
    simp only at h
    cases hf : ft g with
    | none => rw [hf] at h; exact absurd h Ans.not_fail
    | some fn =>
      rw [hf] at h
      simp only at h
      obtain ⟨f, hf1, hf2, hf3⟩ := htab g fn hf
      obtain ⟨c, hb, hcode, hrs⟩ := funC_spec hf2
      refine ⟨⟨f, hf1, by rw [hb]; rfl, hf3⟩, fun cs => ?_⟩
      let b : Frame := { fn := g, tmps := #[], todo := [], defers := [], mode := .run, kind := .normal }
      have henter : Frame.enter P g (concL τ γ as).toArray .normal = on b ((concL τ γ as).toArray ++ Array.replicate (f.ntmps - (concL τ γ as).toArray.size) undef) [] [.code c] := by
        simp only [Frame.enter, hf1, Option.map_some, Option.bind_some, Option.getD_some, hb, on, b]
      rw [henter]
      obtain ⟨e, tmps', ds', st', γ', R', w', hat, hdf, hrd, hwent, hk'⟩ := hrun.code f.ntmps c fn.body hcode _ _ h γ R _ [] w (sit_args (N := f.ntmps) hR ho false []) ⟨rfl, by simp⟩ b [] cs rfl
      cases e with
      | normal =>
        simp only at hk'
        obtain ⟨hs, hst⟩ := hat
        obtain ⟨H', w₂, fr', v, h1, h2, h3, h4, h5, h6, h7⟩ := finish_sound hf1 hrs hs hdf hk' { on b tmps' ds' [] with mode := .returning } cs rfl rfl rfl rfl rfl
        exact ⟨γ', R', H', st'.nx, w₂, fr', .ret v, h1, hwent.trans h2, hst.trans (.head (st_end rfl) h3), h4, h5, h6, h7⟩
      | ret =>
        simp only at hk'
        obtain ⟨hs, kk, hst⟩ := hat
        obtain ⟨H', w₂, fr', v, h1, h2, h3, h4, h5, h6, h7⟩ := finish_sound hf1 hrs hs hdf hk' { on b tmps' ds' (.code .ret :: kk) with mode := .returning } cs rfl rfl rfl rfl rfl
        exact ⟨γ', R', H', st'.nx, w₂, fr', .ret v, h1, hwent.trans h2, hst.trans (.head (st_ret rfl) h3), h4, h5, h6, h7⟩
      | exit id => exact absurd hk' Ans.not_fail
      | panic v =>
        simp only at hk'
        obtain ⟨hR', hov, kk, hst⟩ := hat
        cases hD : st'.D with
        | cons d D => rw [hD] at hk'; exact absurd hk' Ans.not_fail
        | nil =>
          rw [hD] at hk' hdf
          have hds : ds' = [] := hdf.1
          subst hds
          exact ⟨γ', R', st'.H, st'.nx, w', _, .pan v, hR', hwent, hst, rfl, hov, ⟨rfl, rfl, f, hf1⟩, hk'⟩

/-! ## Rounds -/

theorem putPs_sound {N : Nat} {γ : Nat → G} {R : Nat → Prop} : ∀ (ps : List Nat) (as : List AV) (T T' : Tr AV) (tmps : Array Value), putPs (ps.map path) as T = some T' → (∀ p ∈ ps, p < N) → N ≤ tmps.size → TmpsR τ γ T tmps → TmpsOk γ R T → okvL γ R as →
    as.length = ps.length ∧ TmpsR τ γ T' ((ps.zip (concL τ γ as)).foldl (fun t (x : Nat × Value) => t.setIfInBounds x.1 x.2) tmps) ∧ TmpsOk γ R T' ∧ N ≤ ((ps.zip (concL τ γ as)).foldl (fun t (x : Nat × Value) => t.setIfInBounds x.1 x.2) tmps).size := by
  intro ps
  induction ps with
  | nil =>
    intro as T T' tmps h _ hN hT hO _
    cases as with
    | nil => have h' : some T = some T' := h; simp only [Option.some.injEq] at h'; subst h'; exact ⟨rfl, hT, hO, hN⟩
    | cons a as => have h' : (none : Option (Tr AV)) = some T' := h; simp at h'
  | cons p ps ih =>
    intro as T T' tmps h hp hN hT hO ho
    cases as with
    | nil => have h' : (none : Option (Tr AV)) = some T' := h; simp at h'
    | cons a as =>
      have h' : putPs (ps.map path) as (Tr.set (path p) (some a) T) = some T' := h
      simp only [okvL] at ho
      have hp0 := hp p (by simp)
      have hset : ∀ t, tv (Tr.set (path p) (some a) T) t = if some p = some t then a else tv T t := fun t => tv_put (some p) a T t
      obtain ⟨h1, h2, h3, h4⟩ := ih as _ T' (tmps.setIfInBounds p (conc τ γ a)) h' (fun q hq => hp q (by simp [hq])) (by simpa using hN)
        (fun t => by
          rw [hset]
          have := getD_put tmps (some p) (conc τ γ a) t (fun u hu => by cases hu; exact Nat.lt_of_lt_of_le hp0 hN)
          simp only [putV] at this
          rw [this]
          split
          · rfl
          · exact hT t)
        (fun t => by
          rw [hset]
          split
          · exact ho.1
          · exact hO t) ho.2
      exact ⟨by simp [h1], h2, h3, h4⟩

theorem end_round {N : Nat} {γ : Nat → G} {R : Nat → Prop} {st : St} {tmps : Array Value} {ds : List Deferred} {w : World} {k : ARet → Tr AObj → Nat → α} {l : Nat} {jump : Option AExit} {todo : List Item} {b c : Frame} {cs : List Frame} (hR : Rel P τ γ R st.H st.nx w) (hl : R l) (hr : b.roundOf = some (γ l).blk) (hk : b.kind = .normal)
    (hj : ∀ e, jump = some e → concPend e ≠ none)
    (ht : (todo = [] ∧ jump = none) ∨ (∃ k, todo = .code .ret :: k ∧ jump = some .ret) ∨ ∃ id k, todo = .code (.exit id) :: k ∧ exitTo id k = none ∧ jump = some (.exit id)) (h : Ans.holds (endRound l jump st k)) :
    ∃ γ' R' H' nx' w' v, Rel P τ γ' R' H' nx' w' ∧ Went γ R st.H w γ' R' H' w' ∧ okv γ' R' v ∧ Steps P (lone (on b tmps ds todo) (c :: cs) w) (lone (c.finish (conc τ γ' v)) cs w') ∧ Ans.holds (k (.ret v) H' nx') := by
  unfold endRound at h
  cases hD : st.D with
  | cons d D => rw [hD] at h; exact absurd h Ans.not_fail
  | nil =>
    rw [hD] at h
    simp only at h
    split at h
    case h_2 => exact absurd h Ans.not_fail
    rename_i stt pend T ps a b' df hg
    obtain ⟨L, N', hL, _⟩ := loop_of hR hl hg
    have hp := loop_put (stt' := (Option.casesOn jump .ready fun _ => .done : LSt)) (pend' := jump) hR hl hg hL hj
    refine ⟨γ, R, _, _, _, _, hp.1, hp.2, ?_, ?_, h⟩
    · simp [okv]
    · have hrun : (Instr.endRound (γ l).blk (jump.bind concPend)).run P w = .ok (.bool (jump.bind concPend).isNone) { w with heap := w.heap.setIfInBounds (γ l).blk (.loop { L with state := if (jump.bind concPend).isNone then .ready else .done, pending := jump.bind concPend }) } := by
        simp [Instr.endRound, run_getLoop hL, run_setObj_of hL]
      have hnone : (jump.bind concPend).isNone = (Option.casesOn jump true fun _ => false : Bool) := by
        cases jump with
        | none => rfl
        | some e =>
          have := hj e rfl
          simp only [Option.bind_some]
          cases h : concPend e with
          | none => exact absurd h this
          | some c => rfl
      have hstate : (if (jump.bind concPend).isNone then LoopState.ready else .done) = concSt (Option.casesOn jump .ready fun _ => .done) := by
        rw [hnone]
        cases jump <;> rfl
      rw [hstate, hnone] at hrun
      have ht' : (todo = [] ∧ jump.bind concPend = none) ∨ (∃ k, todo = .code .ret :: k ∧ jump.bind concPend = some .ret) ∨ ∃ id k, todo = .code (.exit id) :: k ∧ exitTo id k = none ∧ jump.bind concPend = some (.exit id) := by
        rcases ht with ⟨h1, h2⟩ | ⟨k, h1, h2⟩ | ⟨id, k, h1, h2, h3⟩
        · exact .inl ⟨h1, by rw [h2]; rfl⟩
        · exact .inr (.inl ⟨k, h1, by rw [h2]; rfl⟩)
        · exact .inr (.inr ⟨id, k, h1, h2, by rw [h3]; rfl⟩)
      refine .one ?_
      have := st_endRound (P := P) (tmps := tmps) (ds := ds) (c := c) (cs := cs) hr hk ht' hrun
      rw [this]
      simp [conc]

theorem yields_ok (hrun : Sound P τ run) : YieldsOk P τ (yieldF run) := by
  intro l as H nx k γ R w h hR ho hl
  unfold yieldF at h
  split at h
  case h_2 => exact absurd h Ans.not_fail
  rename_i stt pend T ps a b df hg
  obtain ⟨L, N, hL, hbase, hst, hpend, hpn, hT, hO, hN, hpar, hps, ha, hb, hd, hRd⟩ := loop_of hR hl hg
  cases hput : putPs ps as T with
  | none => rw [hput] at h; exact absurd h Ans.not_fail
  | some T' =>
    rw [hput] at h
    simp only at h
    rw [hps] at hput
    have hparN : ∀ p ∈ L.params.toList, p < N := fun p hp => by
      have := (List.all_eq_true.1 hpar) p hp
      simpa using this
    obtain ⟨hlen, hT', hO', hN'⟩ := putPs_sound _ _ _ _ _ hput hparN hN hT hO ho
    have hsize : (concL τ γ as).toArray.size = L.params.size := by
      rw [List.size_toArray, concL_eq, List.length_map, hlen]
      simp
    have hyield : (Instr.yield (γ l).blk (concL τ γ as).toArray).run P w = .ok (.round (γ l).blk L.fn ((L.params.toList.zip (concL τ γ as)).foldl (fun t (x : Nat × Value) => t.setIfInBounds x.1 x.2) L.tmps) L.assign L.body) w := by
      have hfold : (L.params.zip (concL τ γ as).toArray).foldl (fun tmps (x : Nat × Value) => match x with | (t, a) => tmps.setIfInBounds t a) L.tmps = (L.params.toList.zip (concL τ γ as)).foldl (fun t (x : Nat × Value) => t.setIfInBounds x.1 x.2) L.tmps := by
        rw [← Array.foldl_toList]
        simp
      simp only [Instr.yield, Sem.run_bind, run_getLoop hL, Result.andThen_ok, hsize, ne_eq, not_true_eq_false, if_false, Sem.run_pure]
      rw [← hfold]
    refine ⟨_, _, _, _, hyield, fun c cs => ?_⟩
    let b₀ : Frame := { fn := L.fn, tmps := #[], todo := [], defers := [], mode := .run, kind := .normal, roundOf := some (γ l).blk }
    have hround : Frame.round (γ l).blk L.fn ((L.params.toList.zip (concL τ γ as)).foldl (fun t (x : Nat × Value) => t.setIfInBounds x.1 x.2) L.tmps) L.assign L.body .normal =
        on b₀ ((L.params.toList.zip (concL τ γ as)).foldl (fun t (x : Nat × Value) => t.setIfInBounds x.1 x.2) L.tmps) [] [.code L.assign, .beginRound, .code L.body] := rfl
    rw [hround]
    obtain ⟨e, tmps', ds', st', γ', R', w', hat, hdf, hrd, hwent, hk'⟩ := hrun.code N L.assign a ha _ _ h γ R _ [] w ⟨hT', hO', hR, hN'⟩ ⟨rfl, by simp⟩ b₀ [.beginRound, .code L.body] (c :: cs) rfl
    cases e with
    | exit id => exact absurd hk' Ans.not_fail
    | ret => exact absurd hk' Ans.not_fail
    | panic v => exact absurd hk' Ans.not_fail
    | normal =>
      obtain ⟨hs, hst'⟩ := hat
      simp only at hk'
      split at hk'
      case h_2 => exact absurd hk' Ans.not_fail
      rename_i pend₂ T₂ ps₂ a₂ b₂ df₂ hg₂
      have hl' : R' l := (hwent.agree l hl).2
      have hγl : γ' l = γ l := (hwent.agree l hl).1
      obtain ⟨L₂, N₂, hL₂, hbase₂, hst₂, hpend₂, hpn₂, _⟩ := loop_of hs.rel hl' hg₂
      have hp := loop_put (stt' := .busy) (pend' := pend₂) hs.rel hl' hg₂ hL₂ hpn₂
      rw [← hpend₂] at hp
      have hbegin : (Instr.beginRound (γ l).blk).run P w' = .ok () { w' with heap := w'.heap.setIfInBounds (γ' l).blk (.loop { L₂ with state := concSt .busy, pending := L₂.pending }) } := by
        rw [← hγl]
        simp only [Instr.beginRound, Sem.run_bind, run_getLoop hL₂, Result.andThen_ok, run_setObj_of hL₂ (by simp), hst₂, concSt, Sem.run_pure]
      have hb1 := st_beginRound (P := P) (b := b₀) (tmps := tmps') (ds := ds') (k := [.code L.body]) (cs := c :: cs) rfl hbegin
      obtain ⟨e, tmps₃, ds₃, st₃, γ₃, R₃, w₃, hat₃, hdf₃, hrd₃, hwent₃, hk₃⟩ := hrun.code N L.body b hb _ _ hk' γ' R' tmps' ds' _ ⟨hs.tm, hs.ok, hp.1, hs.size⟩ hdf b₀ [] (c :: cs) (by simp only; rw [hrd]; rfl)
      have hl₃ : R₃ l := (hwent₃.agree l hl').2
      have hγ₃ : (γ₃ l).blk = (γ l).blk := by rw [(hwent₃.agree l hl').1, hγl]
      have hw₀ := (hwent.trans hp.2).trans hwent₃
      cases e with
      | normal =>
        obtain ⟨hs₃, hst₃⟩ := hat₃
        obtain ⟨γ₄, R₄, H₄, nx₄, w₄, v, g1, g2, g3, g4, g5⟩ := end_round (N := N) (tmps := tmps₃) (ds := ds₃) (c := c) (cs := cs) (jump := none) hs₃.rel hl₃ (show b₀.roundOf = some (γ₃ l).blk by rw [hγ₃]) rfl (by simp) (.inl ⟨rfl, rfl⟩) hk₃
        exact ⟨γ₄, R₄, H₄, nx₄, w₄, v, g1, hw₀.trans g2, g3, hst'.trans (.head hb1 (hst₃.trans g4)), g5⟩
      | ret =>
        obtain ⟨hs₃, kk, hst₃⟩ := hat₃
        obtain ⟨γ₄, R₄, H₄, nx₄, w₄, v, g1, g2, g3, g4, g5⟩ := end_round (N := N) (tmps := tmps₃) (ds := ds₃) (c := c) (cs := cs) (jump := some .ret) hs₃.rel hl₃ (show b₀.roundOf = some (γ₃ l).blk by rw [hγ₃]) rfl (by simp [concPend]) (.inr (.inl ⟨kk, rfl, rfl⟩)) hk₃
        exact ⟨γ₄, R₄, H₄, nx₄, w₄, v, g1, hw₀.trans g2, g3, hst'.trans (.head hb1 (hst₃.trans g4)), g5⟩
      | exit id =>
        obtain ⟨hs₃, kk, hex, hst₃⟩ := hat₃
        obtain ⟨γ₄, R₄, H₄, nx₄, w₄, v, g1, g2, g3, g4, g5⟩ := end_round (N := N) (tmps := tmps₃) (ds := ds₃) (c := c) (cs := cs) (jump := some (.exit id)) hs₃.rel hl₃ (show b₀.roundOf = some (γ₃ l).blk by rw [hγ₃]) rfl (by simp [concPend]) (.inr (.inr ⟨id, kk, rfl, hex, rfl⟩)) hk₃
        exact ⟨γ₄, R₄, H₄, nx₄, w₄, v, g1, hw₀.trans g2, g3, hst'.trans (.head hb1 (hst₃.trans g4)), g5⟩
      | panic v => exact absurd hk₃ Ans.not_fail
end
end Go.Ax
