/- Equality of comparable values. -/
import Derived.Test.YtbhjokfopgbmiaaGreatDoorAxPure2
namespace Go.Ax
open Go

theorem eqCells_nil (a b : List AV) : eqCells [] a b = if a = [] ∧ b = [] then some true else none := by
  cases a <;> cases b <;> simp [eqCells]
theorem eqCells_cons (y : Lay) (ys : List Lay) (a b : List AV) : eqCells (y :: ys) a b = match a, b with
    | u :: us, v :: vs => (eqCell y u v).bind fun r => (eqCells ys us vs).bind fun s => some (r && s)
    | _, _ => none := by
  cases a with
  | nil => rfl
  | cons u us => cases b with
    | nil => rfl
    | cons v vs =>
      show (Option.casesOn (eqCell y u v) none fun r => Option.casesOn (eqCells ys us vs) none fun s => some (band r s) : Option Bool) = _
      simp

theorem eqCells_append (l rest : List Lay) : ∀ (xs vs : List AV) (r : Bool), eqCells (l ++ rest) xs vs = some r →
    ∃ r1 r2, eqCells l (xs.take l.length) (vs.take l.length) = some r1 ∧ eqCells rest (xs.drop l.length) (vs.drop l.length) = some r2 ∧ r = (r1 && r2) ∧ l.length ≤ xs.length ∧ l.length ≤ vs.length := by
  induction l with
  | nil => intro xs vs r h; exact ⟨true, r, by simp [eqCells_nil], by simpa using h, by simp, by simp, by simp⟩
  | cons y l ih =>
    intro xs vs r h
    rw [List.cons_append, eqCells_cons] at h
    cases xs with
    | nil => simp at h
    | cons u us => cases vs with
      | nil => simp at h
      | cons v vs =>
        simp only [Option.bind_eq_some_iff, Option.some.injEq] at h
        obtain ⟨r1, h1, s, h2, rfl⟩ := h
        obtain ⟨a, b, ha, hb, rfl, hl1, hl2⟩ := ih us vs s h2
        refine ⟨r1 && a, b, ?_, by simpa using hb, by simp [Bool.and_assoc], by simp; omega, by simp; omega⟩
        simp [eqCells_cons, h1, ha]

theorem eqCells_length : ∀ (l : List Lay) (xs vs : List AV) (r : Bool), eqCells l xs vs = some r → xs.length = l.length ∧ vs.length = l.length := by
  intro l
  induction l with
  | nil => intro xs vs r h; rw [eqCells_nil] at h; split at h <;> simp_all
  | cons y l ih =>
    intro xs vs r h
    rw [eqCells_cons] at h
    cases xs with
    | nil => simp at h
    | cons u us => cases vs with
      | nil => simp at h
      | cons v vs =>
        simp only [Option.bind_eq_some_iff, Option.some.injEq] at h
        obtain ⟨_, _, s, h2, _⟩ := h
        have := ih us vs s h2
        simp [this.1, this.2]

section
variable {P : Program} {τ : Nat → Int} {γ : Nat → G} {R : Nat → Prop} {w : World}

/-- A value's shape. -/
def Shaped (g : Bool) (v : AV) (cs : List AV) : Prop := kc g v = some cs

theorem shaped_true {v : AV} {cs : List AV} (h : kc true v = some cs) : v = .agg cs := by
  cases v <;> simp_all [kc]
theorem shaped_false {v : AV} {cs : List AV} (h : kc false v = some cs) : cs = [v] ∧ ∀ x, v ≠ .agg x := by
  cases v <;> simp_all [kc]

theorem layOf_basic {n : Nat} {t : TypeId} {_d : TypeDesc} {lay : List Lay} (h : layOf P n t = some lay) (ha : isAggB P t = some false) :
    (P.underlying t = some .bool ∧ lay = [.b]) ∨ (∃ k, P.underlying t = some (.int k) ∧ lay = [.i]) ∨ (P.underlying t = some .string ∧ lay = [.s]) := by
  cases n with
  | zero => simp [layOf] at h
  | succ n =>
    unfold layOf at h
    split at h
    · rename_i hu; simp only [Option.some.injEq] at h; exact .inl ⟨hu, h.symm⟩
    · rename_i k hu; simp only [Option.some.injEq] at h; exact .inr (.inl ⟨k, hu, h.symm⟩)
    · rename_i hu; simp only [Option.some.injEq] at h; exact .inr (.inr ⟨hu, h.symm⟩)
    · rename_i fs hu; simp [isAggB, hu] at ha
    · simp at h

theorem eqCell_sound {d : Nat} {t : TypeId} {y : Lay} {a b : AV} {r : Bool} (hy : (P.underlying t = some .bool ∧ y = .b) ∨ (∃ k, P.underlying t = some (.int k) ∧ y = .i) ∨ (P.underlying t = some .string ∧ y = .s))
    (h : eqCell y a b = some r) (ha : okv γ R a) (hb : okv γ R b) : (Op.equalIn (d + 1) t (conc τ γ a) (conc τ γ b)).run P w = .ok r w := by
  rcases hy with ⟨hu, rfl⟩ | ⟨k, hu, rfl⟩ | ⟨hu, rfl⟩
  · cases a <;> cases b <;> simp only [eqCell, reduceCtorEq] at h
    rename_i m n
    simp only [Option.some.injEq] at h
    subst h
    simp only [conc, run_equalIn_bool w d t m n hu]
    cases m <;> cases n <;> rfl
  · cases a <;> cases b <;> simp only [eqCell, reduceCtorEq] at h
    rename_i j m k' n
    simp only [kindEq_eq, brec_eq, ieq_eq] at h
    split at h
    · rename_i hk
      simp only [decide_eq_true_eq] at hk
      subst hk
      simp only [Option.some.injEq] at h
      subst h
      simp only [conc, run_equalIn_int w d t _ _ _ _ hu]
      rfl
    · simp at h
  · cases a <;> cases b <;> simp only [eqCell, reduceCtorEq] at h
    rename_i m n
    simp only [Option.some.injEq, streq_eq] at h
    subst h
    simp only [okv] at ha hb
    simp only [conc, run_equalIn_string w d t _ _ hu, strV_toList]
    congr 1
    rw [Bool.eq_iff_iff]
    simp only [beq_iff_eq, decide_eq_true_eq]
    exact ⟨bytesB_inj m n ha hb, fun e => by rw [e]⟩

theorem eqCell_plain {y : Lay} {a b : AV} {r : Bool} (h : eqCell y a b = some r) : kc false a = some [a] ∧ kc false b = some [b] := by
  unfold eqCell at h
  split at h
  · exact ⟨rfl, rfl⟩
  · exact ⟨rfl, rfl⟩
  · exact ⟨rfl, rfl⟩
  · simp at h

set_option maxHeartbeats 1000000 in
/-- What 'equalIn' says of struct's cells. -/
theorem eqFields_sound {n d : Nat} (ih : ∀ (t : TypeId) (lay : List Lay) (g : Bool) (a b : AV) (r : Bool), layOf P n t = some lay → isAggB P t = some g → eqK g lay a b = some r → okv γ R a → okv γ R b →
      (Op.equalIn (n + d) t (conc τ γ a) (conc τ γ b)).run P w = .ok r w) :
    ∀ (fs : List Field) (acc lay : List Lay), fs.foldlM (fun (acc : List Lay) f => do
        if f.name == "_" || f.offset != acc.length then none
        let l ← layOf P n f.type
        if l.length != P.cellsOf f.type then none
        some (acc ++ l)) acc = some lay →
      ∃ rest, lay = acc ++ rest ∧ ∀ (xs vs : List AV) (r : Bool), eqCells rest (xs.drop acc.length) (vs.drop acc.length) = some r → acc.length ≤ xs.length → acc.length ≤ vs.length → okvL γ R xs → okvL γ R vs →
        (Op.eqFields (n + d) (concL τ γ xs).toArray (concL τ γ vs).toArray fs).run P w = .ok r w := by
  intro fs
  induction fs with
  | nil =>
    intro acc lay h
    simp at h
    subst h
    refine ⟨[], by simp, ?_⟩
    intro xs vs r h _ _ _ _
    rw [eqCells_nil] at h
    split at h
    · simp only [Option.some.injEq] at h; subst h; simp [Op.eqFields]
    · simp at h
  | cons f fs ihf =>
    intro acc lay h
    simp only [List.foldlM_cons, Option.bind_eq_bind, Option.bind_eq_some_iff] at h
    obtain ⟨acc', h1, h2⟩ := h
    split at h1
    · simp at h1
    · rename_i hname
      simp only [Bool.or_eq_true, beq_iff_eq, bne_iff_ne, ne_eq, not_or, Decidable.not_not] at hname
      simp only [Option.bind_eq_some_iff] at h1
      obtain ⟨l, hl, h1⟩ := h1
      split at h1
      · simp at h1
      · rename_i hlen
        simp only [bne_iff_ne, ne_eq, Decidable.not_not] at hlen
        simp only [Option.some.injEq] at h1
        subst h1
        obtain ⟨rest, rfl, hrest⟩ := ihf _ _ h2
        refine ⟨l ++ rest, by simp, ?_⟩
        intro xs vs r h hax hav hox hov
        obtain ⟨r1, r2, e1, e2, rfl, hl1, hl2⟩ := eqCells_append _ _ _ _ _ h
        simp only [List.length_drop] at hl1 hl2
        have e2' : eqCells rest (xs.drop (acc ++ l).length) (vs.drop (acc ++ l).length) = some r2 := by
          simpa [List.drop_drop] using e2
        have h3 := hrest xs vs r2 e2' (by simp; omega) (by simp; omega) hox hov
        -- the field
        have hg : ∃ g, isAggB P f.type = some g := by
          cases n with
          | zero => simp [layOf] at hl
          | succ n =>
            unfold layOf at hl
            unfold isAggB
            split at hl <;> simp_all
        obtain ⟨g, hg⟩ := hg
        obtain ⟨i, hi⟩ := info_of_isAgg hg
        have key : ∃ a b, eqK g l a b = some r1 ∧ okv γ R a ∧ okv γ R b ∧ (part f.type (concL τ γ xs).toArray f.offset).run P w = .ok (conc τ γ a) w ∧
            (part f.type (concL τ γ vs).toArray f.offset).run P w = .ok (conc τ γ b) w := by
          cases g with
          | true =>
            have hp : ∀ (zs : List AV), l.length ≤ zs.length - acc.length → pfl f.offset (if true = true then some (P.cellsOf f.type) else none) (.agg zs) = some (.agg ((zs.drop acc.length).take l.length)) := by
              intro zs hz
              simp only [if_true, pfl, dropL_eq, takeL_eq, orec_bind, hname.2, ← hlen]
              rw [if_pos (by simpa using hz)]
              rfl
            have pa := part_sound (τ := τ) (w := w) hg (hp xs hl1) hox
            have pb := part_sound (τ := τ) (w := w) hg (hp vs hl2) hov
            exact ⟨_, _, by simp [eqK, kc, e1], pa.2, pb.2, pa.1, pb.1⟩
          | false =>
            have hb := layOf_basic (_d := .bool) hl hg
            have hone : l.length = 1 := by rcases hb with ⟨_, rfl⟩ | ⟨_, _, rfl⟩ | ⟨_, rfl⟩ <;> rfl
            have hx : ∃ a, xs[acc.length]? = some a := ⟨xs[acc.length]'(by omega), by simp⟩
            have hv : ∃ b, vs[acc.length]? = some b := ⟨vs[acc.length]'(by omega), by simp⟩
            obtain ⟨a, hxa⟩ := hx
            obtain ⟨b, hvb⟩ := hv
            have hp : ∀ (zs : List AV) (c : AV), zs[acc.length]? = some c → pfl f.offset (if false = true then some (P.cellsOf f.type) else none) (.agg zs) = some c := by
              intro zs c hc
              simp [pfl, hname.2, hc]
            have pa := part_sound (τ := τ) (w := w) hg (hp xs a hxa) hox
            have pb := part_sound (τ := τ) (w := w) hg (hp vs b hvb) hov
            refine ⟨a, b, ?_, pa.2, pb.2, pa.1, pb.1⟩
            have ta : (xs.drop acc.length).take l.length = [a] := by
              rw [hone]; rw [List.drop_eq_getElem_cons (by omega)]; simp [(List.getElem?_eq_some_iff.1 hxa).2]
            have tb : (vs.drop acc.length).take l.length = [b] := by
              rw [hone]; rw [List.drop_eq_getElem_cons (by omega)]; simp [(List.getElem?_eq_some_iff.1 hvb).2]
            rw [ta, tb] at e1
            obtain ⟨y, rfl⟩ : ∃ y, l = [y] := by
              cases l with
              | nil => simp at hone
              | cons y l => cases l with
                | nil => exact ⟨y, rfl⟩
                | cons _ _ => simp at hone
            have e1' := e1
            rw [eqCells_cons] at e1
            simp only [Option.bind_eq_some_iff] at e1
            obtain ⟨r0, hr0, _⟩ := e1
            have := eqCell_plain hr0
            simp [eqK, this.1, this.2, e1']
        obtain ⟨a, b, hab, hoa, hob, pa, pb⟩ := key
        have h4 := ih f.type l g a b r1 hl hg hab hoa hob
        simp only [Op.eqFields, hname.1, ne_eq, not_false_eq_true, if_true, Sem.run_bind, pa, pb, Result.andThen_ok, h4]
        cases r1
        · simp
        · simp [h3]

theorem equal_sound : ∀ (n : Nat) (t : TypeId) (lay : List Lay) (g : Bool) (a b : AV) (r : Bool) (d : Nat), layOf P n t = some lay → isAggB P t = some g → eqK g lay a b = some r → okv γ R a → okv γ R b →
    (Op.equalIn (n + d) t (conc τ γ a) (conc τ γ b)).run P w = .ok r w := by
  intro n
  induction n with
  | zero => intro t lay g a b r d h; simp [layOf] at h
  | succ n ih =>
    intro t lay g a b r d h hg he hoa hob
    rw [show n + 1 + d = (n + d) + 1 by omega]
    cases g with
    | false =>
      have hb := layOf_basic (_d := .bool) h hg
      simp only [eqK, orec_bind, Option.bind_eq_some_iff] at he
      obtain ⟨xs, hx, vs, hv, he⟩ := he
      obtain ⟨rfl, _⟩ := shaped_false hx
      obtain ⟨rfl, _⟩ := shaped_false hv
      obtain ⟨y, rfl⟩ : ∃ y, lay = [y] := by rcases hb with ⟨_, rfl⟩ | ⟨_, _, rfl⟩ | ⟨_, rfl⟩ <;> exact ⟨_, rfl⟩
      rw [eqCells_cons] at he
      simp only [Option.bind_eq_some_iff, eqCells_nil, and_self, if_true, Option.some.injEq] at he
      obtain ⟨r0, hr0, s, rfl, rfl⟩ := he
      simp only [Bool.and_true]
      refine eqCell_sound ?_ hr0 hoa hob
      rcases hb with ⟨hu, e⟩ | ⟨k, hu, e⟩ | ⟨hu, e⟩ <;> simp only [List.cons.injEq, and_true] at e
      · exact .inl ⟨hu, e⟩
      · exact .inr (.inl ⟨k, hu, e⟩)
      · exact .inr (.inr ⟨hu, e⟩)
    | true =>
      simp only [eqK, orec_bind, Option.bind_eq_some_iff] at he
      obtain ⟨xs, hx, vs, hv, he⟩ := he
      have := shaped_true hx
      subst this
      have := shaped_true hv
      subst this
      unfold layOf at h
      split at h
      · rename_i hu; simp [isAggB, hu] at hg
      · rename_i hu; simp [isAggB, hu] at hg
      · rename_i hu; simp [isAggB, hu] at hg
      · rename_i fs hu
        split at h
        · simp at h
        · rename_i hp
          simp only [okv] at hoa hob
          obtain ⟨rest, hl, hr⟩ := eqFields_sound (w := w) (d := d) (fun t lay g a b r => ih t lay g a b r d) fs.toList [] lay h
          simp only [List.nil_append] at hl
          subst hl
          have := hr xs vs r (by simpa using he) (by simp) (by simp) hoa hob
          have hf : P.underlying t = some (.struct (P.fieldsOf t)) := by simp [Program.fieldsOf, hu]
          have hf' : P.fieldsOf t = fs := by simp [Program.fieldsOf, hu]
          simp only [conc]
          rw [run_equalIn_agg w (n + d) t _ _ hf (by simpa using hp), hf']
          exact this
      · simp at h

end
end Go.Ax
