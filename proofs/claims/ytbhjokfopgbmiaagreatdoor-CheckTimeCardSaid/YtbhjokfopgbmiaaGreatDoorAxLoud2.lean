/- Operations that change something: maps and iterators. -/
import Derived.Test.YtbhjokfopgbmiaaGreatDoorAxLoud
namespace Go.Ax
open Go

theorem eqCell_true {y : Lay} {a b : AV} (h : eqCell y a b = some true) : a = b := by
  unfold eqCell at h
  split at h
  · simp only [kindEq_eq, ieq_eq, brec_eq, decide_eq_true_eq] at h
    split at h
    · simp_all
    · simp at h
  · simp only [streq_eq, Option.some.injEq, decide_eq_true_eq] at h
    rw [h]
  · rename_i m n
    cases m <;> cases n <;> simp_all
  · simp at h
theorem eqCells_true : ∀ (lay : List Lay) (xs ys : List AV), eqCells lay xs ys = some true → xs = ys := by
  intro lay
  induction lay with
  | nil => intro xs ys h; rw [eqCells_nil] at h; split at h <;> simp_all
  | cons y lay ih =>
    intro xs ys h
    rw [eqCells_cons] at h
    split at h
    · simp only [Option.bind_eq_some_iff, Option.some.injEq] at h
      obtain ⟨r, hr, s, hs, h⟩ := h
      simp only [Bool.and_eq_true] at h
      obtain ⟨rfl, rfl⟩ := h
      rw [eqCell_true hr, ih _ _ hs]
    · simp at h
theorem eqK_true {g : Bool} {lay : List Lay} {a b : AV} (h : eqK g lay a b = some true) : a = b := by
  unfold eqK at h
  simp only [orec_bind, Option.bind_eq_some_iff] at h
  obtain ⟨xs, hx, ys, hy, h⟩ := h
  have := eqCells_true _ _ _ h
  subst this
  cases g with
  | true => rw [shaped_true hx, shaped_true hy]
  | false =>
    have h1 := (shaped_false hx).1
    have h2 := (shaped_false hy).1
    rw [h1] at h2
    simpa using h2

theorem run_setObj_of {P : Program} {w : World} {b : Nat} {o o' : Obj} (h : w.heap[b]? = some o) (hn : ∀ c e f, o ≠ .cells c e f) : (setObj b o').run P w = .ok () { w with heap := w.heap.setIfInBounds b o' } := by
  simp only [setObj, Sem.run, h]

theorem heap_self {h : Array Obj} {b : Nat} {o : Obj} (hb : h[b]? = some o) : h.setIfInBounds b o = h := by
  apply Array.ext_getElem?
  intro j
  by_cases hj : b = j
  · subst hj
    have hlt : b < h.size := (Array.getElem?_eq_some_iff.1 hb).1
    simp only [Array.getElem?_setIfInBounds, hlt, if_true]
    exact hb.symm
  · simp [Array.getElem?_setIfInBounds_ne hj]
theorem eraseIdx_map' {α β : Type} (f : α → β) : ∀ (l : List α) (i : Nat), (l.map f).eraseIdx i = (l.eraseIdx i).map f := by
  intro l
  induction l with
  | nil => intro i; rfl
  | cons x xs ih => intro i; cases i with
    | zero => rfl
    | succ i => simp [ih]

section
variable {P : Program} {τ : Nat → Int} {γ : Nat → G} {R : Nat → Prop} {w : World} {α : Type} [Ans α]

theorem obj_put {H : Tr AObj} {nx : Nat} (hR : Rel P τ γ R H nx w) {l : Nat} {o₀ o : AObj} {ob₀ ob : Obj} (hl : R l) (hg : hget H l = some o₀) (hro : o₀.ro = false) (hb : w.heap[(γ l).blk]? = some ob₀) (ho : ObjR P τ γ R (γ l) o ob) :
    Rel P τ γ R (hset H l o) nx { w with heap := w.heap.setIfInBounds (γ l).blk ob } ∧ Went γ R H w γ R (hset H l o) { w with heap := w.heap.setIfInBounds (γ l).blk ob } := by
  have hlt : (γ l).blk < w.heap.size := (Array.getElem?_eq_some_iff.1 hb).1
  exact hR.put l _ _ ob hl hg hro ho (by simp) (by simp [hlt]) fun b hne => by simp [Array.getElem?_setIfInBounds_ne (Ne.symm hne)]

section
variable {T : Tr AV} {ρ : Operand → Value} {dst : Option Tmp} {ty : TypeId} {pos : String} {af : Array Edge} {gd : Option (Nat × Bool)}

theorem run_keyStays {old new : Value} (h : old = new) : ∃ w', (Instr.keyThatStays old new).run P w = .ok new w' ∧ w'.heap = w.heap ∧ w'.os = w.os ∧ w'.output = w.output := by
  subst h
  unfold Instr.keyThatStays
  split
  · exact ⟨w, rfl, rfl, rfl, rfl⟩
  · refine ⟨{ w with drawn := w.drawn + 1 }, ?_, rfl, rfl, rfl⟩
    simp [Question.forced]

theorem v_mupd {st : St} {t kt e : TypeId} {lay : List Lay} {g : Bool} {m k v : Operand} {m' k' v' : X} {cf : CallF α} {yf : YieldF α} {kk : ONext → St → α} (hR : Rel P τ γ R st.H st.nx w) (ht : P.underlying t = some (.map kt e))
    (hg : isAggB P kt = some g) (hl : layOf P 20 kt = some lay) (fm : Fit P τ γ R st.T ρ m) (hm : opd P m = some m') (fk : Fit P τ γ R st.T ρ k) (hk : opd P k = some k') (fv : Fit P τ γ R st.T ρ v) (hv : opd P v = some v')
    (h : Ans.holds (vev cf yf (.mupd g lay m' k' v') st kk)) : Out P τ γ R w st ((execOp ρ ⟨dst, .mapUpdate t m k v, ty, pos, af, gd⟩).run P w) kk := by
  have m1 := fm m' hm
  have k1 := fk k' hk
  have v1 := fv v' hv
  simp only [vev, mupdV] at h
  cases hko : keyOk g lay (ev k' st.T) with
  | false => rw [hko] at h; exact absurd h Ans.not_fail
  | true =>
    rw [hko] at h
    simp only at h
    split at h
    case h_2 => exact absurd h Ans.not_fail
    rename_i l hml
    rw [hml] at m1
    have hRl : R l := by simpa [okv] using m1.2
    split at h
    case h_2 => exact absurd h Ans.not_fail
    rename_i es clock hgl
    have hmp := map_of hR hRl hgl
    have hob := hR.obj l _ hRl hgl
    have hbase : (γ l).base = 0 := by obtain ⟨ob, _, hr⟩ := hob; cases hr; assumption
    have hck : (Instr.checkKey false 10000 kt (conc τ γ (ev k' st.T))).run P w = .ok () w := run_checkKey (P := P) (τ := τ) (w := w) 20 kt lay g _ false 9980 hl hg (keyOk_spec hko) k1.2
    have hget : (getObj (γ l).blk).run P w = .ok _ w := run_getObj_of hmp.1 (by simp)
    cases hr : findK g lay (ev k' st.T) es 0 with
    | none => rw [hr] at h; exact absurd h Ans.not_fail
    | some r =>
      rw [hr] at h
      have hf := findKey_sound (P := P) (τ := τ) (w := w) hl hg k1.2 hr hmp.2
      have hfa := (findAsking_sound (P := P) (τ := τ) (w := w) hl hg k1.2 es 0 _ hr hmp.2).2
      cases r with
      | none =>
        simp only [appL_eq] at h
        have hp := obj_put (o := .mp (es ++ [(ev k' st.T, ev v' st.T, clock)]) (clock + 1)) (ob := .map ((es.map (concE τ γ)).toArray.push ⟨conc τ γ (ev k' st.T), conc τ γ (ev v' st.T), clock⟩) (clock + 1)) hR hRl hgl rfl hmp.1
          (.mp _ _ _ hbase (by simp [concE]) (by
            intro e' he'
            simp only [List.mem_append, List.mem_singleton] at he'
            rcases he' with he' | rfl
            · exact hmp.2 e' he'
            · exact ⟨k1.2, v1.2⟩))
        refine .inl ⟨und, γ, R, _, st.nx, _, .inr ⟨?_, by simp [conc, und, undef, concL]⟩, hp.1, hp.2, by simp [und, okv, okvL], h⟩
        simp only [execOp, Instr.mapUpdate, Sem.run_bind, run_underlying ht, Result.andThen_ok, m1.1, k1.1, v1.1, conc, Sem.run_pure, hget, hck, hf, Option.map_none, run_setObj_of hmp.1 (by simp)]
      | some p =>
        obtain ⟨i, pv⟩ := p
        obtain ⟨_, e', he', hv', hq⟩ := hfa (i, pv) rfl
        simp only [Nat.sub_zero] at he'
        have hkk := eqK_true hq
        simp only [getL_eq, he', setL_eq] at h
        obtain ⟨w₂, hks, hw₂, ho₂⟩ := run_keyStays (P := P) (w := w) (old := conc τ γ e'.1) (new := conc τ γ (ev k' st.T)) (by rw [hkk])
        have hp := obj_put (w := w₂) (o := .mp (es.set i (ev k' st.T, ev v' st.T, e'.2.2)) clock) (ob := .map ((es.map (concE τ γ)).toArray.modify i fun e => { e with key := conc τ γ (ev k' st.T), val := conc τ γ (ev v' st.T) }) clock) (hR.heap hw₂) hRl hgl rfl (by rw [hw₂]; exact hmp.1)
          (.mp _ _ _ hbase (by
            apply List.ext_getElem?
            intro j
            simp only [List.getElem?_map, List.getElem?_set, Array.getElem?_toList, Array.getElem?_modify, List.getElem?_toArray]
            by_cases hj : i = j
            · subst hj
              obtain ⟨hlt, heq⟩ := List.getElem?_eq_some_iff.1 he'
              simp [hlt, heq, concE]
            · simp only [hj, if_false]; rfl) (by
            intro x hx
            rcases List.mem_or_eq_of_mem_set hx with hx | rfl
            · exact hmp.2 x hx
            · exact ⟨k1.2, v1.2⟩))
        refine .inl ⟨und, γ, R, _, st.nx, _, .inr ⟨?_, by simp [conc, und, undef, concL]⟩, hp.1, (Went.heap hw₂ ho₂).trans hp.2, by simp [und, okv, okvL], h⟩
        have hold : (((es.map (concE τ γ)).toArray[i]?).map (·.key)).getD (conc τ γ (ev k' st.T)) = conc τ γ e'.1 := by simp [he', concE]
        simp only [execOp, Instr.mapUpdate, Sem.run_bind, run_underlying ht, Result.andThen_ok, m1.1, k1.1, v1.1, conc, Sem.run_pure, hget, hck, hf, Option.map_some, hold, hks, run_setObj_of (w := w₂) (by rw [hw₂]; exact hmp.1) (by simp)]

theorem v_del {st : St} {t u kt e : TypeId} {lay : List Lay} {g : Bool} {m k : Operand} {m' k' : X} {cf : CallF α} {yf : YieldF α} {kk : ONext → St → α} (hR : Rel P τ γ R st.H st.nx w) (ht : P.underlying t = some (.map kt e))
    (hg : isAggB P kt = some g) (hl : layOf P 20 kt = some lay) (fm : Fit P τ γ R st.T ρ m) (hm : opd P m = some m') (fk : Fit P τ γ R st.T ρ k) (hk : opd P k = some k')
    (h : Ans.holds (vev cf yf (.del g lay m' k') st kk)) : Out P τ γ R w st ((execOp ρ ⟨dst, .call { callee := .builtin .delete, args := #[m, k], argTypes := #[t, u] }, ty, pos, af, gd⟩).run P w) kk := by
  have m1 := fm m' hm
  have k1 := fk k' hk
  simp only [vev, delV] at h
  cases hko : keyOk g lay (ev k' st.T) with
  | false => rw [hko] at h; exact absurd h Ans.not_fail
  | true =>
    rw [hko] at h
    simp only at h
    have hck : ∀ emp, (Instr.checkKey emp 10000 kt (conc τ γ (ev k' st.T))).run P w = .ok () w := fun emp => run_checkKey (P := P) (τ := τ) (w := w) 20 kt lay g _ emp 9980 hl hg (keyOk_spec hko) k1.2
    split at h
    · rename_i hml
      rw [hml] at m1
      refine .inl ⟨.tup [], γ, R, _, st.nx, w, .inl ?_, hR, Went.refl _ _ _ _, by simp [okv, okvL], h⟩
      simp [execOp, resolve, invoke, builtin, Builtin.delete_, run_underlying ht, m1.1, k1.1, conc, hck, concL]
    · rename_i l hml
      rw [hml] at m1
      have hRl : R l := by simpa [okv] using m1.2
      split at h
      case h_2 => exact absurd h Ans.not_fail
      rename_i es clock hgl
      have hmp := map_of hR hRl hgl
      have hob := hR.obj l _ hRl hgl
      have hbase : (γ l).base = 0 := by obtain ⟨ob, _, hr⟩ := hob; cases hr; assumption
      have hget : (getObj (γ l).blk).run P w = .ok _ w := run_getObj_of hmp.1 (by simp)
      cases hr : findK g lay (ev k' st.T) es 0 with
      | none => rw [hr] at h; exact absurd h Ans.not_fail
      | some r =>
        rw [hr] at h
        have hf := findKey_sound (P := P) (τ := τ) (w := w) hl hg k1.2 hr hmp.2
        cases r with
        | none =>
          simp only at h
          refine .inl ⟨.tup [], γ, R, st.H, st.nx, w, .inl ?_, hR, Went.refl _ _ _ _, by simp [okv, okvL], h⟩
          have hself : ({ w with heap := w.heap.setIfInBounds (γ l).blk (.map (es.map (concE τ γ)).toArray clock) } : World) = w := by rw [heap_self hmp.1]
          simp [execOp, resolve, invoke, builtin, Builtin.delete_, run_underlying ht, m1.1, k1.1, conc, hck, concL, hget, hf, run_setObj_of hmp.1, hself]
        | some p =>
          obtain ⟨i, pv⟩ := p
          simp only [eraseL_eq] at h
          have hp := obj_put (o := .mp (es.eraseIdx i) clock) (ob := .map ((es.map (concE τ γ)).toArray.eraseIdxIfInBounds i) clock) hR hRl hgl rfl hmp.1 (.mp _ _ _ hbase (by
              simp only [Array.toList_eraseIdxIfInBounds, eraseIdx_map']; rfl) (fun x hx => hmp.2 x (List.mem_of_mem_eraseIdx hx)))
          refine .inl ⟨.tup [], γ, R, _, st.nx, _, .inl ?_, hp.1, hp.2, by simp [okv, okvL], h⟩
          simp [execOp, resolve, invoke, builtin, Builtin.delete_, run_underlying ht, m1.1, k1.1, conc, hck, concL, hget, hf, run_setObj_of hmp.1]
    · exact absurd h Ans.not_fail

theorem v_rngM {st : St} {t kt e : TypeId} {x : Operand} {x' : X} {cf : CallF α} {yf : YieldF α} {k : ONext → St → α} (hR : Rel P τ γ R st.H st.nx w) (ht : P.underlying t = some (.map kt e))
    (fx : Fit P τ γ R st.T ρ x) (hx : opd P x = some x') (h : Ans.holds (vev cf yf (.rngM x') st k)) :
    Out P τ γ R w st ((execOp ρ ⟨dst, .range t x, ty, pos, af, gd⟩).run P w) k := by
  have x1 := fx x' hx
  have hL : ¬ R st.nx := (hR.fresh st.nx (Nat.le_refl _)).2
  simp only [vev] at h
  split at h
  · rename_i hv
    rw [hv] at x1
    have hp := hR.push (w' := w.alloc (.mapIter none 0 #[] 0)) (.mit none 0 [] 0) (.mapIter none 0 #[] 0) ⟨w.heap.size, 0, 0, 0⟩ rfl rfl (.mit none 0 [] 0 rfl (by simp))
    refine .inl ⟨_, _, _, _, _, _, .inl ?_, hp.1, hp.2, by simp [okv, more], h⟩
    simp [execOp, Instr.range, run_underlying ht, x1.1, conc, upd]
  · rename_i m hv
    rw [hv] at x1
    have hRm : R m := by simpa [okv] using x1.2
    split at h
    · rename_i es clock hg
      have hmp := map_of hR hRm hg
      have hget : (getObj (γ m).blk).run P w = .ok _ w := run_getObj_of hmp.1 (by simp)
      have ha := upd_agree (γ := γ) (g := ⟨w.heap.size, 0, 0, 0⟩) hL
      have hp := hR.push (w' := w.alloc (.mapIter (some (γ m).blk) clock #[] clock)) (.mit (some m) clock [] clock) (.mapIter (some (γ m).blk) clock #[] clock) ⟨w.heap.size, 0, 0, 0⟩ rfl rfl (by
        have := ObjR.mit (P := P) (τ := τ) (γ := upd γ st.nx ⟨w.heap.size, 0, 0, 0⟩) (R := more R st.nx) (g := ⟨w.heap.size, 0, 0, 0⟩) (some m) clock [] clock rfl (by
          intro l hl
          simp only [Option.some.injEq] at hl
          subst hl
          exact (ha m hRm).2)
        simpa [(ha m hRm).1] using this)
      refine .inl ⟨_, _, _, _, _, _, .inl ?_, hp.1, hp.2, by simp [okv, more], h⟩
      simp [execOp, Instr.range, run_underlying ht, x1.1, conc, upd, hget]
    · exact absurd h Ans.not_fail
  · exact absurd h Ans.not_fail
end
end
end Go.Ax
