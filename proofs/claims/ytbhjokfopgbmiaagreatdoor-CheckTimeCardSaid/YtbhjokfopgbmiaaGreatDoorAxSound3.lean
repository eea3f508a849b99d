/- The run is sound. -/
import Derived.Test.YtbhjokfopgbmiaaGreatDoorAxSound2
namespace Go.Ax
open Go

section
variable {P : Program} {τ : Nat → Int} {α : Type} [Ans α]
variable {ft : FT} {hk : Hook} {run : RunF α}

/-- A loop over a function. -/
theorem rf_sound (hcf : CallsOk P τ (callF run ft hk)) {N : Nat} {f : Operand} {f' : X} {ps : Array Tmp} {x y : Code} {a b' : ACode} (hps : ps.toList.all (· < N) = true) (hf : opd P f = some f') (hx : codeC P N x = some a) (hy : codeC P N y = some b')
    {st : St} {K : Kont α} (h : Ans.holds (rRf (callF run ft hk) f' (ps.toList.map path) a b' st K)) {γ : Nat → G} {R : Nat → Prop} {tmps : Array Value} {ds : List Deferred} {w : World} (hs : Sit P τ N γ R st tmps w) (hd : DefsR γ R st.D ds) (b : Frame) (k : List Item) (cs : List Frame) (hrd : b.roundOf.isSome = st.rd) :
    Arr P τ N (lone (on b tmps ds (.code (.rangeFunc f ps x y) :: k)) cs w) b k cs γ R st w K := by
  unfold rRf at h
  split at h
  case h_2 => exact absurd h Ans.not_fail
  rename_i g xs ys hv hrdf
  have hround : b.roundOf = none := by
    cases hb : b.roundOf with
    | none => rfl
    | some l => rw [hb, hrdf] at hrd; simp at hrd
  have ff := fit_of hs.rel (x := f) (tmps := tmps) (T := st.T) (fun t _ => ⟨hs.tm t, hs.ok t⟩) f' hf
  rw [hv] at ff
  simp only [okv] at ff
  -- the two blocks
  have hp1 := hs.rel.push (w' := w.alloc (.deferred (some []))) (.dfr false) (.deferred (some [])) ⟨w.heap.size, 0, 0, 0⟩ rfl rfl (by simpa using ObjR.dfr (P := P) (τ := τ) (γ := upd γ st.nx ⟨w.heap.size, 0, 0, 0⟩) (R := more R st.nx) (g := ⟨w.heap.size, 0, 0, 0⟩) false rfl)
  obtain ⟨hr1, hw1⟩ := hp1
  generalize hγ1 : upd γ st.nx ⟨w.heap.size, 0, 0, 0⟩ = γ1 at hr1 hw1
  generalize hR1 : more R st.nx = R1 at hr1 hw1
  have hdf1 : γ1 st.nx = ⟨w.heap.size, 0, 0, 0⟩ := by rw [← hγ1]; simp [upd]
  have hdR1 : R1 st.nx := by rw [← hR1]; exact .inr rfl
  have hT1 := hs.tm.agree hw1.agree hs.ok
  let L : Loop := { state := .ready, pending := none, fn := b.fn, tmps := tmps, params := ps, assign := x, body := y, defers := w.heap.size }
  have hN1 : ¬ R1 (st.nx + 1) := (hr1.fresh (st.nx + 1) (Nat.le_refl _)).2
  have ha2 := upd_agree (γ := γ1) (g := ⟨w.heap.size + 1, 0, 0, 0⟩) hN1
  have hT2 := hT1.1.agree ha2 hT1.2
  have hp2 := hr1.push (w' := (w.alloc (.deferred (some []))).alloc (.loop L)) (.loop .ready none st.T (ps.toList.map path) a b' st.nx) (.loop L) ⟨w.heap.size + 1, 0, 0, 0⟩ (by show _ = (w.heap.push _).size; simp) rfl
    (.loop .ready none st.T _ a b' st.nx L N rfl rfl rfl (by simp) hT2.1 hT2.2 hs.size hps rfl hx hy (by rw [(ha2 st.nx hdR1).1, hdf1]) (ha2 st.nx hdR1).2)
  obtain ⟨hr2, hw2⟩ := hp2
  generalize hγ2 : upd γ1 (st.nx + 1) ⟨w.heap.size + 1, 0, 0, 0⟩ = γ2 at hr2 hw2 ha2 hT2
  generalize hR2 : more R1 (st.nx + 1) = R2 at hr2 hw2 ha2 hT2
  have hLg : γ2 (st.nx + 1) = ⟨w.heap.size + 1, 0, 0, 0⟩ := by rw [← hγ2]; simp [upd]
  have hLR : R2 (st.nx + 1) := by rw [← hR2]; exact .inr rfl
  have hwent := hw1.trans hw2
  have hxs := concL_agree (τ := τ) hwent.agree xs ff.2.2.1
  have hys := concL_agree (τ := τ) hwent.agree ys ff.2.2.2
  have hargs : okvL γ2 R2 (xs ++ (.fn (.yield (st.nx + 1)) [] [] :: ys)) := okvL_append hxs.2 (by simp only [okvL, okv]; exact ⟨⟨fun l e => by cases e; exact hLR, trivial, trivial⟩, hys.2⟩)
  simp only [appL_eq, List.singleton_append] at h
  obtain ⟨⟨fn, hg, hb, hn⟩, hgives⟩ := hcf _ _ _ _ _ _ _ _ h hr2 hargs
  have h1 : (Instr.enterLoop b.fn tmps ps x y b.roundOf).run P w = .ok (w.heap.size + 1, [{ target := .collected w.heap.size, args := #[] }]) ((w.alloc (.deferred (some []))).alloc (.loop L)) := by
    rw [hround]
    simp only [Instr.enterLoop, Sem.run_bind, run_newObj, Result.andThen_ok, Sem.run_pure, World.alloc, Array.size_push]
    rfl
  have h2 : (do let d ← resolve (evalT tmps) { callee := .value f, args := #[.const (.func (.yield (w.heap.size + 1)) #[] #[])], argTypes := #[] } 0; invoke d.target d.args : Sem Next).run P ((w.alloc (.deferred (some []))).alloc (.loop L)) =
      .ok (.enter g (concL τ γ2 (xs ++ (.fn (.yield (st.nx + 1)) [] [] :: ys))).toArray) ((w.alloc (.deferred (some []))).alloc (.loop L)) := by
    simp only [resolve, ff.1, conc, concFn, Deferred.ofValue, Sem.run_bind, Sem.run_pure, Result.andThen_ok, invoke, callFunc, run_program, hg, hn, hb, Bool.false_eq_true, if_false]
    congr 2
    have e1 := hxs.1
    have e2 := hys.1
    rw [concL_eq, concL_eq] at e1 e2
    rw [concL_eq, concL_eq, concL_eq, List.map_append, List.map_cons, e1, e2]
    simp [conc, concFn, hLg, concL, evalT]
  have hst := st_rangeFunc (P := P) (ds := ds) (k := k) (cs := cs) h1 h2
  obtain ⟨γ', R', H', nx', w', fr, r, g1, g2, g3, g4, g5, g6, g7⟩ := hgives (on b tmps ([{ target := .collected w.heap.size, args := #[] }] ++ ds) (.inRangeFunc (w.heap.size + 1) :: k) :: cs)
  cases r with
  | pan v => exact absurd g7 Ans.not_fail
  | ret v =>
    simp only at g7
    split at g7
    · exact absurd g7 Ans.not_fail
    case h_3 => exact absurd g7 Ans.not_fail
    rename_i stt pend T₂ ps₂ a₂ b₂ df₂ hnb hg'
    have hLR' : R' (st.nx + 1) := (g2.agree _ hLR).2
    have hLg' : γ' (st.nx + 1) = ⟨w.heap.size + 1, 0, 0, 0⟩ := by rw [(g2.agree _ hLR).1, hLg]
    obtain ⟨L₂, N₂, hL₂, hbase₂, hst₂, hpend₂, hpn₂, _⟩ := loop_of g1 hLR' hg'
    have hp := loop_put (stt' := .exhausted) (pend' := pend) g1 hLR' hg' hL₂ hpn₂
    rw [← hpend₂] at hp
    have hend : (Instr.endLoop (w.heap.size + 1)).run P w' = .ok (pend.bind concPend) { w' with heap := w'.heap.setIfInBounds (γ' (st.nx + 1)).blk (.loop { L₂ with state := concSt .exhausted, pending := L₂.pending }) } := by
      have e : w.heap.size + 1 = (γ' (st.nx + 1)).blk := by rw [hLg']
      rw [e]
      have hnb' : (L₂.state == .busy) = false := by
        rw [hst₂]
        cases stt <;> first | rfl | exact (hnb rfl).elim
      simp only [Instr.endLoop, Sem.run_bind, run_getLoop hL₂, Result.andThen_ok, hnb', Bool.false_eq_true, if_false, run_setObj_of hL₂ (by simp), Sem.run_pure, hpend₂, concSt]
    have hwall := (hwent.trans g2).trans hp.2
    have hT' := hT2.1.agree g2.agree hT2.2
    have hT'' : TmpsR τ γ' st.T tmps ∧ TmpsOk γ' R' st.T := by
      have := hs.tm.agree (hwent.trans g2).agree hs.ok
      exact this
    have hds : DefsR γ' R' (.coll st.nx :: st.D) ([{ target := .collected w.heap.size, args := #[] }] ++ ds) := by
      have hD' := hd.agree (hwent.trans g2).agree
      have hblk : (γ' st.nx).blk = w.heap.size := by rw [(g2.agree _ (ha2 _ hdR1).2).1, (ha2 _ hdR1).1, hdf1]
      refine ⟨?_, fun d hd => ?_⟩
      · rw [hD'.1]
        simp [concD, hblk]
      · rw [List.mem_cons] at hd
        rcases hd with rfl | hd
        · exact ⟨st.nx, rfl, (g2.agree _ (ha2 _ hdR1).2).2⟩
        · exact hD'.2 d hd
    have hsit : Sit P τ N γ' R' ⟨st.T, .coll st.nx :: st.D, hset H' (st.nx + 1) (.loop .exhausted pend T₂ ps₂ a₂ b₂ df₂), nx', st.rd⟩ tmps { w' with heap := w'.heap.setIfInBounds (γ' (st.nx + 1)).blk (.loop { L₂ with state := concSt .exhausted, pending := L₂.pending }) } :=
      ⟨hT''.1, hT''.2, hp.1, hs.size⟩
    have hsteps : Steps P (lone (on b tmps ds (.code (.rangeFunc f ps x y) :: k)) cs w) (lone (on b tmps ([{ target := .collected w.heap.size, args := #[] }] ++ ds) (((pend.bind concPend).map Item.code).toList ++ k)) cs
        { w' with heap := w'.heap.setIfInBounds (γ' (st.nx + 1)).blk (.loop { L₂ with state := concSt .exhausted, pending := L₂.pending }) }) := by
      refine .head hst (g3.trans (.head ?_ (.one (st_endRange hend))))
      rw [step_leave_returned g6, finish_inRange]
    cases pend with
    | none => exact ⟨.normal, tmps, _, _, γ', R', _, ⟨hsit, hsteps⟩, hds, rfl, hwall, g7⟩
    | some e =>
      cases e with
      | normal => exact absurd rfl (hpn₂ _ rfl)
      | panic v => exact absurd rfl (hpn₂ _ rfl)
      | ret => exact ⟨.ret, tmps, _, _, γ', R', _, ⟨hsit, k, hsteps⟩, hds, rfl, hwall, g7⟩
      | exit id => exact ⟨.exit id, tmps, _, _, γ', R', _, ⟨hsit, k, rfl, hsteps⟩, hds, rfl, hwall, g7⟩

theorem sound_step (htab : Table P ft) (hhk : HookOk P τ hk) (hrun : Sound P τ run) : Sound P τ (runStep ft hk run) := by
  have hcf := calls_ok htab hhk hrun
  have hyf := yields_ok (P := P) (τ := τ) hrun
  -- a loop, from where its body begins
  have hloop : ∀ (N : Nat) (c : Code) (ac : ACode), codeC P N c = some ac → ∀ (st : St) (K : Kont α), Ans.holds (runStep ft hk run (.loop ac) st K) → ∀ γ R tmps ds w, Sit P τ N γ R st tmps w → DefsR γ R st.D ds → ∀ (b : Frame) (k : List Item) (cs : List Frame), b.roundOf.isSome = st.rd →
      Arr P τ N (lone (on b tmps ds (.code c :: .inLoop c :: k)) cs w) b k cs γ R st w K := by
    intro N c ac hc st K h γ R tmps ds w hs hd b k cs hrd
    have h' : Ans.holds (run ac st (kSeq run (.loop ac) K)) := h
    obtain ⟨e, tmps', ds', st', γ', R', w', hat, hdf, hrd', hwent, hk'⟩ := hrun.code N c ac hc st _ h' γ R tmps ds w hs hd b (.inLoop c :: k) cs hrd
    cases e with
    | normal =>
      obtain ⟨hs', hst⟩ := hat
      exact (hrun.loop N c ac hc st' K hk' γ' R' tmps' ds' w' hs' hdf b k cs (hrd.trans hrd'.symm)).of_steps hst hwent hrd'
    | exit id => obtain ⟨hs', kk, hex, hst⟩ := hat; exact ⟨.exit id, tmps', ds', st', γ', R', w', ⟨hs', kk, hex, hst⟩, hdf, hrd', hwent, hk'⟩
    | ret => obtain ⟨hs', kk, hst⟩ := hat; exact ⟨.ret, tmps', ds', st', γ', R', w', ⟨hs', kk, hst⟩, hdf, hrd', hwent, hk'⟩
    | panic v => obtain ⟨hs', ho, kk, hst⟩ := hat; exact ⟨.panic v, tmps', ds', st', γ', R', w', ⟨hs', ho, kk, hst⟩, hdf, hrd', hwent, hk'⟩
  refine ⟨?_, fun N c ac hc st K h γ R tmps ds w hs hd b k cs hrd => (hloop N c ac hc st K h γ R tmps ds w hs hd b k cs hrd).of_steps (.one st_inLoop) (Went.refl _ _ _ _) rfl⟩
  intro N c ac hc st K h γ R tmps ds w hs hd b k cs hrd
  cases c with
  | skip =>
    simp only [codeC, Option.some.injEq] at hc
    subst hc
    exact ⟨.normal, tmps, ds, st, γ, R, w, ⟨hs, .one st_skip⟩, hd, rfl, Went.refl _ _ _ _, h⟩
  | label l =>
    simp only [codeC, Option.some.injEq] at hc
    subst hc
    exact ⟨.normal, tmps, ds, st, γ, R, w, ⟨hs, .one st_label⟩, hd, rfl, Went.refl _ _ _ _, h⟩
  | region id ops draw =>
    simp only [codeC, Option.map_eq_some_iff] at hc
    obtain ⟨rops, hr, rfl⟩ := hc
    have h' : Ans.holds (runOps (callF run ft hk) (yieldF run) (fun v st => K (.panic v) st) rops st (K .normal)) := h
    rcases region_sound hcf hyf hr hs h' b ds k cs with ⟨t, s, γ', R', w', h1, h2, h3, h4, h5, h6⟩ | ⟨v, s, γ', R', w', t, td, h1, h2, h3, h4, h5, h6, h7⟩
    · exact ⟨.normal, t, ds, s, γ', R', w', ⟨h2, h1⟩, by rw [h4]; exact hd.agree h3.agree, h5, h3, h6⟩
    · exact ⟨.panic v, t, ds, s, γ', R', w', ⟨h2, h4, td, h1⟩, by rw [h5]; exact hd.agree h3.agree, h6, h3, h7⟩
  | seq x y =>
    simp only [codeC, Option.bind_eq_bind, Option.bind_eq_some_iff, Option.some.injEq] at hc
    obtain ⟨a, ha, b', hb, rfl⟩ := hc
    have h' : Ans.holds (run a st (kSeq run b' K)) := h
    obtain ⟨e, tmps', ds', st', γ', R', w', hat, hdf, hrd', hwent, hk'⟩ := hrun.code N x a ha st _ h' γ R tmps ds w hs hd b (.code y :: k) cs hrd
    have hat' := At.of_steps (.one st_seq) hat
    cases e with
    | normal =>
      obtain ⟨hs', hst⟩ := hat'
      exact (hrun.code N y b' hb st' K hk' γ' R' tmps' ds' w' hs' hdf b k cs (hrd.trans hrd'.symm)).of_steps hst hwent hrd'
    | exit id => obtain ⟨hs', kk, hex, hst⟩ := hat'; exact ⟨.exit id, tmps', ds', st', γ', R', w', ⟨hs', kk, hex, hst⟩, hdf, hrd', hwent, hk'⟩
    | ret => obtain ⟨hs', kk, hst⟩ := hat'; exact ⟨.ret, tmps', ds', st', γ', R', w', ⟨hs', kk, hst⟩, hdf, hrd', hwent, hk'⟩
    | panic v => obtain ⟨hs', ho, kk, hst⟩ := hat'; exact ⟨.panic v, tmps', ds', st', γ', R', w', ⟨hs', ho, kk, hst⟩, hdf, hrd', hwent, hk'⟩
  | cond c x y =>
    simp only [codeC, Option.bind_eq_bind, Option.bind_eq_some_iff, Option.some.injEq] at hc
    obtain ⟨c', hc', a, ha, b', hb, rfl⟩ := hc
    have h' : Ans.holds (rCond run c' a b' st K) := h
    have fc := fit_of hs.rel (x := c) (tmps := tmps) (T := st.T) (fun t _ => ⟨hs.tm t, hs.ok t⟩) c' hc'
    unfold rCond at h'
    split at h'
    case h_2 => exact absurd h' Ans.not_fail
    rename_i t ht
    rw [ht] at fc
    have hcond := st_cond (P := P) (b := b) (tmps := tmps) (ds := ds) (k := k) (cs := cs) (w := w) (x := x) (y := y) (t := t) fc.1
    cases t with
    | true => exact (hrun.code N x a ha st K h' γ R tmps ds w hs hd b k cs hrd).of_steps (.one hcond) (Went.refl _ _ _ _) rfl
    | false => exact (hrun.code N y b' hb st K h' γ R tmps ds w hs hd b k cs hrd).of_steps (.one hcond) (Went.refl _ _ _ _) rfl
  | block id x =>
    simp only [codeC, Option.bind_eq_bind, Option.bind_eq_some_iff, Option.some.injEq] at hc
    obtain ⟨a, ha, rfl⟩ := hc
    have h' : Ans.holds (run a st (kBlock id K)) := h
    obtain ⟨e, tmps', ds', st', γ', R', w', hat, hdf, hrd', hwent, hk'⟩ := hrun.code N x a ha st _ h' γ R tmps ds w hs hd b (.inBlock id :: k) cs hrd
    have hat' := At.of_steps (.one st_block) hat
    cases e with
    | normal => obtain ⟨hs', hst⟩ := hat'; exact ⟨.normal, tmps', ds', st', γ', R', w', ⟨hs', hst.trans (.one st_inBlock)⟩, hdf, hrd', hwent, hk'⟩
    | exit j =>
      obtain ⟨hs', kk, hex, hst⟩ := hat'
      simp only [kBlock, natbeq_eq] at hk'
      by_cases hj : j = id
      · rw [decide_eq_true hj] at hk'
        subst hj
        simp only [exitTo, beq_self_eq_true, if_true] at hex
        exact ⟨.normal, tmps', ds', st', γ', R', w', ⟨hs', hst.trans (.one (st_exit hex))⟩, hdf, hrd', hwent, hk'⟩
      · rw [decide_eq_false hj] at hk'
        have hne : (id == j) = false := by simp; exact fun e => hj e.symm
        simp only [exitTo, hne, Bool.false_eq_true, if_false] at hex
        exact ⟨.exit j, tmps', ds', st', γ', R', w', ⟨hs', kk, hex, hst⟩, hdf, hrd', hwent, hk'⟩
    | ret => obtain ⟨hs', kk, hst⟩ := hat'; exact ⟨.ret, tmps', ds', st', γ', R', w', ⟨hs', kk, hst⟩, hdf, hrd', hwent, hk'⟩
    | panic v => obtain ⟨hs', ho, kk, hst⟩ := hat'; exact ⟨.panic v, tmps', ds', st', γ', R', w', ⟨hs', ho, kk, hst⟩, hdf, hrd', hwent, hk'⟩
  | loop x =>
    simp only [codeC, Option.bind_eq_bind, Option.bind_eq_some_iff, Option.some.injEq] at hc
    obtain ⟨a, ha, rfl⟩ := hc
    exact (hloop N x a ha st K h γ R tmps ds w hs hd b k cs hrd).of_steps (.one st_loop) (Went.refl _ _ _ _) rfl
  | exit id =>
    simp only [codeC, Option.some.injEq] at hc
    subst hc
    exact ⟨.exit id, tmps, ds, st, γ, R, w, ⟨hs, k, rfl, Steps.refl _ _⟩, hd, rfl, Went.refl _ _ _ _, h⟩
  | ret =>
    simp only [codeC, Option.some.injEq] at hc
    subst hc
    exact ⟨.ret, tmps, ds, st, γ, R, w, ⟨hs, k, Steps.refl _ _⟩, hd, rfl, Went.refl _ _ _ _, h⟩
  | scope x =>
    simp only [codeC, Option.bind_eq_bind, Option.bind_eq_some_iff, Option.some.injEq] at hc
    obtain ⟨a, ha, rfl⟩ := hc
    have h' : Ans.holds (run a st K) := h
    obtain ⟨e, tmps', ds', st', γ', R', w', hat, hdf, hrd', hwent, hk'⟩ := hrun.code N x a ha st _ h' γ R tmps ds w hs hd b (.inScope x :: k) cs hrd
    have hat' := At.of_steps (.one st_scope) hat
    cases e with
    | normal => obtain ⟨hs', hst⟩ := hat'; exact ⟨.normal, tmps', ds', st', γ', R', w', ⟨hs', hst.trans (.one st_inScope)⟩, hdf, hrd', hwent, hk'⟩
    | exit id => obtain ⟨hs', kk, hex, hst⟩ := hat'; exact ⟨.exit id, tmps', ds', st', γ', R', w', ⟨hs', kk, hex, hst⟩, hdf, hrd', hwent, hk'⟩
    | ret => obtain ⟨hs', kk, hst⟩ := hat'; exact ⟨.ret, tmps', ds', st', γ', R', w', ⟨hs', kk, hst⟩, hdf, hrd', hwent, hk'⟩
    | panic v => obtain ⟨hs', ho, kk, hst⟩ := hat'; exact ⟨.panic v, tmps', ds', st', γ', R', w', ⟨hs', ho, kk, hst⟩, hdf, hrd', hwent, hk'⟩
  | rangeFunc f ps x y =>
    simp only [codeC, Option.bind_eq_bind] at hc
    split at hc
    · simp at hc
    · rename_i hps
      simp only [Option.bind_eq_some_iff, Option.some.injEq] at hc
      obtain ⟨f', hf, a, ha, b', hb, rfl⟩ := hc
      exact rf_sound hcf (by simpa using hps) hf ha hb h hs hd b k cs hrd
  | goto l => simp [codeC] at hc
  | refuse why => simp [codeC] at hc

theorem run_sound (htab : Table P ft) (hhk : HookOk P τ hk) : ∀ n, Sound P τ (Ax.run (ρ := α) ft hk n) := by
  intro n
  induction n with
  | zero => exact ⟨fun _ _ _ _ _ _ h => absurd h Ans.not_fail, fun _ _ _ _ _ _ h => absurd h Ans.not_fail⟩
  | succ n ih => exact sound_step htab hhk ih

/-- What the abstract machine says of a call is so. -/
theorem call_ok (htab : Table P ft) (hhk : HookOk P τ hk) (n : Nat) : CallsOk P τ (Ax.call (ρ := α) ft hk n) := calls_ok htab hhk (run_sound htab hhk n)
end
end Go.Ax
