/- Operations that read. -/
import Derived.Test.YtbhjokfopgbmiaaGreatDoorAxPure3
namespace Go.Ax
open Go

section
variable {P : Program} {τ : Nat → Int} {γ : Nat → G} {R : Nat → Prop} {T : Tr AV} {H : Tr AObj} {nx : Nat} {ρ : Operand → Value} {w : World}
variable {dst : Option Tmp} {ty : TypeId} {pos : String} {af : Array Edge} {gd : Option (Nat × Bool)}

theorem cell_of {e : Nat} {cs : List AV} {fz : Nat} {ro : Bool} {l o : Nat} {v : AV} (hR : Rel P τ γ R H nx w) (hl : R l) (hg : hget H l = some (.cells e cs fz ro)) (hv : cs[o]? = some v) :
    w.cell? ⟨(γ l).blk, (γ l).base + o, none⟩ = some (conc τ γ v) ∧ okv γ R v := by
  obtain ⟨ob, hb, hr⟩ := hR.obj l _ hl hg
  cases hr with
  | cells _ _ _ _ c fr hs hl' hn hc ho hf =>
    refine ⟨?_, okvL_get ho hv⟩
    simp only [World.cell?, hb]
    exact hc o v hv

theorem cellsAt_spec {l o n : Nat} {r : List AV} (h : cellsAt H l o n = some r) : ∃ e cs fz ro, hget H l = some (.cells e cs fz ro) ∧ o + n ≤ cs.length + (if n = 0 then o else 0) ∧ r = (cs.drop o).take n ∧ n ≤ (cs.drop o).length := by
  unfold cellsAt at h
  split at h
  · rename_i e cs fz ro hg
    simp only [dropL_eq, takeL_eq] at h
    split at h
    · rename_i hle
      simp only [Option.some.injEq] at h
      refine ⟨e, cs, fz, ro, hg, ?_, h.symm, hle⟩
      simp only [List.length_drop] at hle
      split <;> omega
    · simp at h
  · simp at h

theorem run_loadCells_at {l o n : Nat} {r : List AV} (hR : Rel P τ γ R H nx w) (hl : R l) (h : cellsAt H l o n = some r) :
    (loadCells ⟨(γ l).blk, (γ l).base + o, none⟩ n).run P w = .ok (concL τ γ r).toArray w ∧ okvL γ R r := by
  obtain ⟨e, cs, fz, ro, hg, _, rfl, hle⟩ := cellsAt_spec h
  have ho : okvL γ R cs := by
    obtain ⟨ob, hb, hr⟩ := hR.obj l _ hl hg
    cases hr; assumption
  refine ⟨?_, okvL_take _ (okvL_drop _ ho)⟩
  have hlen : n = ((cs.drop o).take n).length := by simp only [List.length_take]; omega
  have := run_loadCells_list (P := P) w ⟨(γ l).blk, (γ l).base + o, none⟩ (concL τ γ ((cs.drop o).take n)) (fun j v hv => by
    rw [concL_eq, List.getElem?_map, Option.map_eq_some_iff] at hv
    obtain ⟨u, hu, rfl⟩ := hv
    rw [addr_add, Nat.add_assoc]
    refine (cell_of hR hl hg ?_).1
    rw [List.getElem?_take] at hu
    split at hu
    · rwa [List.getElem?_drop] at hu
    · simp at hu)
  rw [show (concL τ γ ((cs.drop o).take n)).length = n by rw [concL_eq, List.length_map, ← hlen]] at this
  exact this

theorem q_ld1 {t : TypeId} {a : Operand} {a' : X} {v : AV} (hR : Rel P τ γ R H nx w) (hb : isAggB P t = some false) (fa : Fit P τ γ R T ρ a) (ha : opd P a = some a') (h : rev (.ld1 a') T H = some v) :
    Does P τ γ R ρ w ⟨dst, .load t a, ty, pos, af, gd⟩ v := by
  have a1 := fa a' ha
  simp only [rev] at h
  split at h
  · rename_i l o hv
    rw [hv] at a1
    have hl : R l := by simpa [okv] using a1.2
    split at h
    · rename_i e cs fz ro hg
      simp only [getL_eq] at h
      have := cell_of hR hl hg h
      refine ⟨?_, this.2⟩
      simp [execOp, Instr.loadAt, a1.1, conc, Instr.sureAddr, loadVar, run_isAgg hb, this.1]
    · simp at h
  · simp at h

theorem q_ldn {t : TypeId} {a : Operand} {a' : X} {v : AV} (hR : Rel P τ γ R H nx w) (hb : isAggB P t = some true) (fa : Fit P τ γ R T ρ a) (ha : opd P a = some a') (h : rev (.ldn (P.cellsOf t) a') T H = some v) :
    Does P τ γ R ρ w ⟨dst, .load t a, ty, pos, af, gd⟩ v := by
  have a1 := fa a' ha
  obtain ⟨i, hi⟩ := info_of_isAgg hb
  simp only [rev] at h
  split at h
  · rename_i l o hv
    rw [hv] at a1
    have hl : R l := by simpa [okv] using a1.2
    simp only [orec_bind, Option.bind_eq_some_iff, Option.some.injEq] at h
    obtain ⟨cs, hc, rfl⟩ := h
    have := run_loadCells_at (τ := τ) hR hl hc
    refine ⟨?_, by simpa [okv] using this.2⟩
    simp [execOp, Instr.loadAt, a1.1, conc, Instr.sureAddr, loadVar, run_isAgg hb, run_sizeOf' hi, ← cellsOf_info hi, this.1]
  · simp at h

/-! ## Maps -/

def concE (τ : Nat → Int) (γ : Nat → G) (e : AV × AV × Nat) : MapEntry := ⟨conc τ γ e.1, conc τ γ e.2.1, e.2.2⟩

theorem map_of {l : Nat} {es : List (AV × AV × Nat)} {clock : Nat} (hR : Rel P τ γ R H nx w) (hl : R l) (hg : hget H l = some (.mp es clock)) :
    w.heap[(γ l).blk]? = some (.map (es.map (concE τ γ)).toArray clock) ∧ ∀ e ∈ es, okv γ R e.1 ∧ okv γ R e.2.1 := by
  obtain ⟨ob, hb, hr⟩ := hR.obj l _ hl hg
  cases hr with
  | mp _ _ ents hb' he ho =>
    refine ⟨?_, ho⟩
    rw [hb]
    congr 2
    apply Array.ext'
    rw [he]
    rfl

theorem run_getObj_of {b : Nat} {o : Obj} (h : w.heap[b]? = some o) (hn : ∀ c e f, o ≠ .cells c e f) : (getObj b).run P w = .ok o w := by
  simp only [getObj, Sem.run, h]

theorem mapAt_sound {m : Value} {a : AV} {es : List (AV × AV × Nat)} (hR : Rel P τ γ R H nx w) (ho : okv γ R a) (h : mapAt H a = some es) (hm : m = conc τ γ a) :
    (m = .map none ∧ es = []) ∨ ∃ r clock, m = .map (some r) ∧ (getObj r).run P w = .ok (.map (es.map (concE τ γ)).toArray clock) w ∧ ∀ e ∈ es, okv γ R e.1 ∧ okv γ R e.2.1 := by
  subst hm
  unfold mapAt at h
  split at h
  · simp only [Option.some.injEq] at h
    exact .inl ⟨rfl, h.symm⟩
  · rename_i l
    split at h
    · rename_i es' clock hg
      simp only [Option.some.injEq] at h
      subst h
      have := map_of hR (by simpa [okv] using ho) hg
      exact .inr ⟨_, clock, rfl, run_getObj_of this.1 (by simp), this.2⟩
    · simp at h
  · simp at h

theorem isAgg_of_lay {n : Nat} {t : TypeId} {lay : List Lay} (h : layOf P n t = some lay) : ∃ g, isAggB P t = some g := by
  cases n with
  | zero => simp [layOf] at h
  | succ n => unfold layOf at h; unfold isAggB; split at h <;> simp_all

/-- The fields' part of a key is looked at. -/
theorem checkFields {n d : Nat} {emp : Bool} {xs : List AV} (hox : okvL γ R xs)
    (ih : ∀ (t : TypeId) (lay : List Lay) (g : Bool) (a : AV), layOf P n t = some lay → isAggB P t = some g → (g = true → ∃ ys, a = .agg ys ∧ ys.length = lay.length) → okv γ R a →
      (Instr.checkKey emp (n + d) t (conc τ γ a)).run P w = .ok () w) : ∀ (fs : List Field) (acc lay : List Lay), fs.foldlM (fun (acc : List Lay) f => do
        if f.name == "_" || f.offset != acc.length then none
        let l ← layOf P n f.type
        if l.length != P.cellsOf f.type then none
        some (acc ++ l)) acc = some lay → lay.length ≤ xs.length →
      (forIn fs PUnit.unit (fun f _ =>
        if f.name ≠ "_" then do
          let a ← part f.type (concL τ γ xs).toArray f.offset
          Instr.checkKey emp (n + d) f.type a
          pure (ForInStep.yield PUnit.unit)
        else pure (ForInStep.yield PUnit.unit)) : Sem PUnit).run P w = .ok PUnit.unit w ∧ acc.length ≤ lay.length := by
  intro fs
  induction fs with
  | nil => intro acc lay h _; simp at h; subst h; simp
  | cons f fs ihf =>
    intro acc lay h hle
    simp only [List.foldlM_cons, Option.bind_eq_bind, Option.bind_eq_some_iff] at h
    obtain ⟨acc', h1, h2⟩ := h
    have h3 := ihf acc' lay h2 hle
    split at h1
    · simp at h1
    · rename_i hname
      simp only [Bool.or_eq_true, beq_iff_eq, bne_iff_ne, ne_eq, not_or, Decidable.not_not] at hname
      simp only [Option.bind_eq_some_iff] at h1
      obtain ⟨l, hl, h1⟩ := h1
      split at h1
      · simp at h1
      · rename_i hll
        simp only [bne_iff_ne, ne_eq, Decidable.not_not] at hll
        simp only [Option.some.injEq] at h1
        subst h1
        obtain ⟨g', hg'⟩ := isAgg_of_lay hl
        have hal : acc.length + l.length ≤ xs.length := by have := h3.2; simp only [List.length_append] at this; omega
        have hp : ∃ b, pfl f.offset (if g' = true then some (P.cellsOf f.type) else none) (.agg xs) = some b ∧ (g' = true → ∃ ys, b = .agg ys ∧ ys.length = l.length) := by
          cases g' with
          | true =>
            refine ⟨.agg ((xs.drop acc.length).take l.length), ?_, fun _ => ⟨_, rfl, by simp; omega⟩⟩
            simp only [if_true, pfl, dropL_eq, takeL_eq, orec_bind, hname.2, ← hll]
            rw [if_pos (by simp; omega)]
            rfl
          | false =>
            have hone : l.length = 1 := by rcases layOf_basic (_d := .bool) hl hg' with ⟨_, rfl⟩ | ⟨_, _, rfl⟩ | ⟨_, rfl⟩ <;> rfl
            refine ⟨xs[acc.length]'(by omega), ?_, by simp⟩
            simp [pfl, hname.2]
        obtain ⟨b, hb, hb'⟩ := hp
        have pa := part_sound (τ := τ) (w := w) hg' hb hox
        have h4 := ih f.type l g' b hl hg' hb' pa.2
        refine ⟨?_, by have := h3.2; simp only [List.length_append] at this; omega⟩
        simp only [List.forIn_cons, hname.1, ne_eq, not_false_eq_true, if_true, Sem.run_bind, pa.1, Result.andThen_ok, h4, Sem.run_pure]
        exact h3.1

/-- A key is looked at. -/
theorem run_checkKey : ∀ (n : Nat) (t : TypeId) (lay : List Lay) (g : Bool) (a : AV) (emp : Bool) (d : Nat), layOf P n t = some lay → isAggB P t = some g → (g = true → ∃ ys, a = .agg ys ∧ ys.length = lay.length) → okv γ R a →
    (Instr.checkKey emp (n + d) t (conc τ γ a)).run P w = .ok () w := by
  intro n
  induction n with
  | zero => intro t lay g a emp d h; simp [layOf] at h
  | succ n ih =>
    intro t lay g a emp d h hg hk hoa
    rw [show n + 1 + d = (n + d) + 1 by omega]
    cases g with
    | false =>
      have hb := layOf_basic (_d := .bool) h hg
      simp only [Instr.checkKey, Sem.run_bind]
      rcases hb with ⟨hu, _⟩ | ⟨k, hu, _⟩ | ⟨hu, _⟩ <;> (rw [run_underlying hu]; rfl)
    | true =>
      obtain ⟨xs, rfl, hlen⟩ := hk rfl
      unfold layOf at h
      split at h
      · rename_i hu; simp [isAggB, hu] at hg
      · rename_i hu; simp [isAggB, hu] at hg
      · rename_i hu; simp [isAggB, hu] at hg
      · rename_i fs hu
        split at h
        · simp at h
        · simp only [okv] at hoa
          have := (checkFields (τ := τ) (w := w) (emp := emp) (d := d) hoa (fun t lay g a b c e f => ih t lay g a emp d b c e f) fs.toList [] lay h (by omega)).1
          simp only [Instr.checkKey, Sem.run_bind, run_underlying hu, Result.andThen_ok, conc]
          rw [← Array.forIn_toList, this]
          rfl
      · simp at h

theorem keyOk_spec {g : Bool} {lay : List Lay} {k : AV} (h : keyOk g lay k = true) : g = true → ∃ ys, k = .agg ys ∧ ys.length = lay.length := by
  intro hg
  subst hg
  unfold keyOk at h
  cases hk : kc true k with
  | none => simp [hk] at h
  | some xs =>
    have := shaped_true hk
    subst this
    simp only [hk, natbeq_eq, lenL_eq, decide_eq_true_eq] at h
    exact ⟨xs, rfl, h⟩

/-- A key is looked for. -/
theorem findAsking_sound {kt : TypeId} {lay : List Lay} {g : Bool} {k : AV} (hl : layOf P 20 kt = some lay) (hg : isAggB P kt = some g) (hok : okv γ R k) : ∀ (es : List (AV × AV × Nat)) (i : Nat) (r : Option (Nat × AV)),
    findK g lay k es i = some r → (∀ e ∈ es, okv γ R e.1 ∧ okv γ R e.2.1) →
      (Instr.findAsking kt (conc τ γ k) (es.map (concE τ γ)) i).run P w = .ok (r.map fun p => (p.1, conc τ γ p.2)) w ∧ (∀ p, r = some p → i ≤ p.1 ∧ ∃ e, es[p.1 - i]? = some e ∧ e.2.1 = p.2 ∧ eqK g lay k e.1 = some true) := by
  intro es
  induction es with
  | nil => intro i r h _; simp [findK] at h; subst h; simp [Instr.findAsking]
  | cons e es ih =>
    intro i r h ho
    have e1 : findK g lay k (e :: es) i = (Option.casesOn (eqK g lay k e.1) none fun r => Bool.rec (findK g lay k es (Nat.succ i)) (some (some (i, e.2.1))) r : Option (Option (Nat × AV))) := rfl
    rw [e1] at h
    simp only [orec_bind, Option.bind_eq_some_iff, brec_eq] at h
    obtain ⟨b, hb, h⟩ := h
    have he := equal_sound (P := P) (τ := τ) (w := w) 20 kt lay g _ _ b 9980 hl hg hb hok (ho e (by simp)).1
    have he' : (Op.equal kt (conc τ γ k) (conc τ γ e.1)).run P w = .ok b w := he
    simp only [List.map_cons, Instr.findAsking, concE, Sem.run_bind, he', Result.andThen_ok]
    cases b with
    | true =>
      simp only [if_true, Option.some.injEq] at h
      subst h
      refine ⟨by simp, ?_⟩
      rintro p hp
      simp only [Option.some.injEq] at hp
      subst hp
      exact ⟨Nat.le_refl _, e, by simp, rfl, hb⟩
    | false =>
      simp only [Bool.false_eq_true, if_false] at h ⊢
      have := ih (i + 1) r h (fun x hx => ho x (by simp [hx]))
      refine ⟨this.1, ?_⟩
      intro p hp
      obtain ⟨h1, e', h2, h3⟩ := this.2 p hp
      refine ⟨by omega, e', ?_, h3⟩
      rw [show p.1 - i = (p.1 - (i + 1)) + 1 by omega]
      simpa using h2

theorem findKey_sound {kt : TypeId} {lay : List Lay} {g : Bool} {k : AV} {es : List (AV × AV × Nat)} {r : Option (Nat × AV)} (hl : layOf P 20 kt = some lay) (hg : isAggB P kt = some g) (hok : okv γ R k)
    (h : findK g lay k es 0 = some r) (ho : ∀ e ∈ es, okv γ R e.1 ∧ okv γ R e.2.1) : (Instr.findKey kt (conc τ γ k) (es.map (concE τ γ))).run P w = .ok (r.map fun p => (p.1, conc τ γ p.2)) w := by
  have ha := (findAsking_sound (P := P) (τ := τ) (w := w) hl hg hok es 0 r h ho).1
  have hu : ∃ d, P.underlying kt = some d := by
    cases hu : P.underlying kt with
    | none => simp [isAggB, hu] at hg
    | some d => exact ⟨d, rfl⟩
  obtain ⟨d, hu⟩ := hu
  simp only [Instr.findKey, Sem.run_bind, run_underlying hu, Result.andThen_ok]
  have hs : ∀ (e : AV × AV × Nat) (b : Bool), okv γ R e.1 → eqK g lay k e.1 = some b → Instr.sameNow d (conc τ γ k) (conc τ γ e.1) = none ∨ Instr.sameNow d (conc τ γ k) (conc τ γ e.1) = some b := by
    intro e b hoe hb
    cases g with
    | true =>
      left
      have : ∀ v, isAggB P kt = some true → Instr.sameNow d (conc τ γ k) v = none := by
        intro v hg
        unfold isAggB at hg
        rw [hu] at hg
        cases d <;> simp at hg <;> rfl
      exact this _ hg
    | false =>
      right
      simp only [eqK, orec_bind, Option.bind_eq_some_iff] at hb
      obtain ⟨xs, hx, vs, hv, he⟩ := hb
      obtain ⟨rfl, hna⟩ := shaped_false hx
      obtain ⟨rfl, hnb⟩ := shaped_false hv
      have hb := layOf_basic (_d := .bool) hl hg
      obtain ⟨y, rfl⟩ : ∃ y, lay = [y] := by rcases hb with ⟨_, rfl⟩ | ⟨_, _, rfl⟩ | ⟨_, rfl⟩ <;> exact ⟨_, rfl⟩
      rw [eqCells_cons] at he
      simp only [Option.bind_eq_some_iff, eqCells_nil, and_self, if_true, Option.some.injEq] at he
      obtain ⟨r0, hr0, s, rfl, rfl⟩ := he
      simp only [Bool.and_true]
      clear hna hnb hx hv
      generalize e.1 = a at *
      unfold eqCell at hr0
      split at hr0
      · rename_i j m k' n
        simp only [kindEq_eq, brec_eq, ieq_eq, decide_eq_true_eq] at hr0
        split at hr0
        · rename_i hk
          subst hk
          simp only [Option.some.injEq] at hr0
          subst hr0
          rcases hb with ⟨_, e⟩ | ⟨kk, hu', _⟩ | ⟨_, e⟩
          · simp at e
          · rw [hu] at hu'; simp only [Option.some.injEq] at hu'; subst hu'; simp [conc, Instr.sameNow]; rfl
          · simp at e
        · simp at hr0
      · rename_i m n
        simp only [Option.some.injEq, streq_eq] at hr0
        subst hr0
        simp only [okv] at hok hoe
        rcases hb with ⟨_, e⟩ | ⟨kk, _, e⟩ | ⟨hu', _⟩
        · simp at e
        · simp at e
        · rw [hu] at hu'; simp only [Option.some.injEq] at hu'; subst hu'
          simp only [conc, Instr.sameNow, beq_toListBytes, strV_toList, beq_bytes hok hoe]
      · rename_i m n
        simp only [Option.some.injEq] at hr0
        subst hr0
        rcases hb with ⟨hu', _⟩ | ⟨kk, _, e⟩ | ⟨_, e⟩
        · rw [hu] at hu'; simp only [Option.some.injEq] at hu'; subst hu'; cases m <;> cases n <;> rfl
        · simp at e
        · simp at e
      · simp at hr0
  have hnow : ∀ (es : List (AV × AV × Nat)) (i : Nat) (r : Option (Nat × AV)), (∀ e ∈ es, okv γ R e.1 ∧ okv γ R e.2.1) → findK g lay k es i = some r →
      Instr.findNow d (conc τ γ k) (es.map (concE τ γ)) i = none ∨ Instr.findNow d (conc τ γ k) (es.map (concE τ γ)) i = some (r.map fun p => (p.1, conc τ γ p.2)) := by
    intro es
    induction es with
    | nil => intro i r _ h; simp [findK] at h; subst h; right; rfl
    | cons e es ih =>
      intro i r ho h
      have e1 : findK g lay k (e :: es) i = (Option.casesOn (eqK g lay k e.1) none fun r => Bool.rec (findK g lay k es (Nat.succ i)) (some (some (i, e.2.1))) r : Option (Option (Nat × AV))) := rfl
      rw [e1] at h
      simp only [orec_bind, Option.bind_eq_some_iff, brec_eq] at h
      obtain ⟨b, hb, h⟩ := h
      simp only [List.map_cons, Instr.findNow, concE]
      rcases hs e b (ho e (by simp)).1 hb with h1 | h1
      · left; rw [h1]
      · rw [h1]
        cases b with
        | true => simp only [if_true, Option.some.injEq] at h; subst h; right; simp
        | false =>
          simp only [Bool.false_eq_true, if_false] at h
          exact ih (i + 1) r (fun x hx => ho x (by simp [hx])) h
  rcases hnow es 0 r ho h with h1 | h1
  · rw [h1]; exact ha
  · rw [h1]; rfl

theorem q_lkup {t kt e : TypeId} {ie : TypeInfo} {zv : Value} {lay : List Lay} {g ok : Bool} {z : AV} {m k : Operand} {m' k' : X} {v : AV} (hR : Rel P τ γ R H nx w) (ht : P.underlying t = some (.map kt e)) (hi : P.info? e = some ie)
    (hzv : ie.zero = some zv) (hz : toAV 20 zv = some z) (hg : isAggB P kt = some g) (hl : layOf P 20 kt = some lay) (fm : Fit P τ γ R T ρ m) (hm : opd P m = some m') (fk : Fit P τ γ R T ρ k) (hk : opd P k = some k')
    (h : rev (.lkup g lay z ok m' k') T H = some v) : Does P τ γ R ρ w ⟨dst, .lookup t m k ok, ty, pos, af, gd⟩ v := by
  have m1 := fm m' hm
  have k1 := fk k' hk
  have z1 := toAV_sound τ γ R 20 zv z hz
  simp only [rev, orec_bind, Option.bind_eq_some_iff, brec_eq] at h
  obtain ⟨es, hes, h⟩ := h
  split at h
  · rename_i hko
    simp only [Option.bind_eq_some_iff] at h
    obtain ⟨r, hr, h⟩ := h
    have hck := fun emp => run_checkKey (P := P) (τ := τ) (w := w) 20 kt lay g _ emp 9980 hl hg (keyOk_spec hko) k1.2
    have hzero := run_zeroValue (w := w) hi hzv
    have hval : ∀ (ho : ∀ e ∈ es, okv γ R e.1 ∧ okv γ R e.2.1), okv γ R v ∧ (∀ p, r = some p → okv γ R p.2) := by
      intro ho
      have hp : ∀ p, r = some p → okv γ R p.2 := by
        rintro p rfl
        obtain ⟨_, e', he', hv', _⟩ := (findAsking_sound (P := P) (τ := τ) (w := w) hl hg k1.2 es 0 _ hr ho).2 p rfl
        exact hv' ▸ (ho e' (List.mem_of_getElem? he')).2
      refine ⟨?_, hp⟩
      cases r with
      | none => simp only [Option.some.injEq] at h; subst h; cases ok <;> simp [z1.2, okv, okvL]
      | some p => simp only [Option.some.injEq] at h; subst h; cases ok <;> simp [hp p rfl, okv, okvL]
    rcases mapAt_sound (τ := τ) hR m1.2 hes m1.1 with ⟨hmn, rfl⟩ | ⟨r', clock, hmr, hget, ho⟩
    · refine ⟨?_, (hval (by simp)).1⟩
      have hf := findKey_sound (P := P) (τ := τ) (w := w) hl hg k1.2 hr (by simp)
      simp only [List.map_nil] at hf
      have hck' : ∀ emp, (Instr.checkKey emp 10000 kt (conc τ γ (ev k' T))).run P w = .ok () w := hck
      simp only [execOp, Instr.lookup, Sem.run_bind, run_underlying ht, Result.andThen_ok, hmn, k1.1, Sem.run_pure, hck', hf]
      cases r with
      | none => simp only [Option.some.injEq] at h; subst h; cases ok <;> simp [hzero, conc, z1.1, concL]
      | some p => simp only [Option.some.injEq] at h; subst h; cases ok <;> simp [conc, concL]
    · refine ⟨?_, (hval ho).1⟩
      have hf := findKey_sound (P := P) (τ := τ) (w := w) hl hg k1.2 hr ho
      have hck' : ∀ emp, (Instr.checkKey emp 10000 kt (conc τ γ (ev k' T))).run P w = .ok () w := hck
      simp only [execOp, Instr.lookup, Sem.run_bind, run_underlying ht, Result.andThen_ok, hmr, k1.1, Sem.run_pure, hget, hck', hf]
      cases r with
      | none => simp only [Option.some.injEq] at h; subst h; cases ok <;> simp [hzero, conc, z1.1, concL]
      | some p => simp only [Option.some.injEq] at h; subst h; cases ok <;> simp [conc, concL]
  · simp at h

theorem q_lenM {x : Operand} {x' : X} {t kt e : TypeId} {v : AV} (hR : Rel P τ γ R H nx w) (ht : P.underlying t = some (.map kt e)) (fx : Fit P τ γ R T ρ x) (hx : opd P x = some x') (h : rev (.lenM x') T H = some v) :
    Does P τ γ R ρ w ⟨dst, .call { callee := .builtin .len, args := #[x], argTypes := #[t] }, ty, pos, af, gd⟩ v := by
  have x1 := fx x' hx
  simp only [rev, orec_bind, Option.bind_eq_some_iff, Option.some.injEq, lenL_eq] at h
  obtain ⟨es, hes, rfl⟩ := h
  refine ⟨?_, by simp [okv]⟩
  rcases mapAt_sound (τ := τ) hR x1.2 hes x1.1 with ⟨hmn, rfl⟩ | ⟨r', clock, hmr, hget, ho⟩
  · simp [execOp, resolve, invoke, builtin, Builtin.len_, run_underlying ht, hmn, conc, goInt]
  · simp [execOp, resolve, invoke, builtin, Builtin.len_, run_underlying ht, hmr, conc, goInt, hget]

theorem bytesOf_cons (c : AV) (cs : List AV) : bytesOf (c :: cs) = (match c with | .int .u8 (.ofNat n) => Bool.casesOn (Nat.blt n 256) none (Option.casesOn (bytesOf cs) none fun r => some (n :: r)) | _ => none) := rfl
theorem bytesOf_spec : ∀ (cs : List AV) (s : List Nat), bytesOf cs = some s → cs = s.map (fun b => .int .u8 (.ofNat b)) ∧ ∀ b ∈ s, b < 256 := by
  intro cs
  induction cs with
  | nil => intro s h; simp [bytesOf] at h; subst h; simp
  | cons c cs ih =>
    intro s h
    rw [bytesOf_cons] at h
    split at h
    · rename_i n
      simp only [natblt_eq, brec_eq, orec_bind, decide_eq_true_eq] at h
      split at h
      · rename_i hn
        simp only [Option.bind_eq_some_iff, Option.some.injEq] at h
        obtain ⟨r, hr, rfl⟩ := h
        have := ih r hr
        refine ⟨by rw [this.1]; simp, ?_⟩
        intro b hb
        simp only [List.mem_cons] at hb
        rcases hb with rfl | hb
        · exact hn
        · exact this.2 b hb
      · simp at h
    · simp at h

theorem q_b2s {x : Operand} {x' : X} {s d e : TypeId} {v : AV} (hR : Rel P τ γ R H nx w) (hs : P.underlying s = some (.slice e)) (hd : P.underlying d = some .string) (he : P.underlying e = some (.int .u8)) (fx : Fit P τ γ R T ρ x) (hx : opd P x = some x')
    (h : rev (.b2s x') T H = some v) : Does P τ γ R ρ w ⟨dst, .convert s d x, ty, pos, af, gd⟩ v := by
  have x1 := fx x' hx
  simp only [rev] at h
  split at h
  · rename_i hv
    rw [hv] at x1
    simp only [Option.some.injEq] at h
    subst h
    refine ⟨?_, by simp [okv]⟩
    simp only [execOp, Sem.run_bind, convert, run_underlying hs, run_underlying hd, Result.andThen_ok, x1.1, conc, run_underlying he, Conv.bytesToString, Sem.run_pure]
    rfl
  · rename_i l o q n c y hv
    rw [hv] at x1
    simp only [orec_bind, Option.bind_eq_some_iff, Option.some.injEq] at h
    obtain ⟨cs, hc, str, hb, rfl⟩ := h
    obtain ⟨rfl, hlt⟩ := bytesOf_spec cs str hb
    obtain ⟨hl, hnc, hlim, hz, _⟩ : R l ∧ n ≤ c ∧ o + c * 1 ≤ (γ l).lim ∧ 0 < 1 ∧ (y = true → 1 ∣ (γ l).lim - o) := by simpa [okv] using x1.2
    refine ⟨?_, by simpa [okv] using hlt⟩
    have hadr : n = 0 ∨ (if (γ l).lim = o then q else o) = o := by
      by_cases hn : n = 0
      · exact .inl hn
      · right; rw [if_neg (by omega)]
    have hload : (loadCells ⟨(γ l).blk, (γ l).base + (if (γ l).lim = o then q else o), none⟩ n).run P w = .ok (concL τ γ (str.map fun b => .int .u8 (.ofNat b))).toArray w := by
      rcases hadr with hn | hn
      · subst hn
        have hc' : str = [] := by
          obtain ⟨_, _, _, _, _, _, e2, _⟩ := cellsAt_spec hc
          simpa using e2
        subst hc'
        simp [loadCells, loadCellsFrom, concL]
      · rw [hn]
        exact (run_loadCells_at (τ := τ) hR hl hc).1
    simp only [execOp, Sem.run_bind, convert, run_underlying hs, run_underlying hd, Result.andThen_ok, x1.1, conc, run_underlying he, Conv.bytesToString, hload]
    have key : ∀ (str : List Nat) (acc : ByteArray), (forIn (concL τ γ (str.map fun b => AV.int .u8 (.ofNat b))) acc (fun c (s : ByteArray) =>
          match c with
          | .int .u8 n => pure (ForInStep.yield (s.push (UInt8.ofNat n.toNat)))
          | _ => do
            stuck "bytesToString: byte expected"
            pure (ForInStep.yield s)) : Sem ByteArray).run P w = .ok (acc ++ strV str) w := by
      intro str
      induction str with
      | nil =>
        intro acc
        have : acc ++ strV [] = acc := by apply ByteArray.ext; simp [strV, bytesB]
        rw [this]
        rfl
      | cons b str ih =>
        intro acc
        simp only [List.map_cons, concL, conc, List.forIn_cons, Sem.run_bind, Sem.run_pure, Result.andThen_ok]
        rw [ih]
        congr 1
        apply ByteArray.ext
        simp [strV, bytesB]
    rw [← Array.forIn_toList]
    have := key str ByteArray.empty
    simp only at this ⊢
    refine Eq.trans (congrArg (fun r : Result ByteArray => (r.andThen fun a w' => Sem.run P (pure (Value.string a)) w').andThen fun a w' => Sem.run P (pure (Next.value a)) w') this) ?_
    have e0 : ByteArray.empty ++ strV str = strV str := by apply ByteArray.ext; simp
    simp [e0]
  · simp at h
end
end Go.Ax
