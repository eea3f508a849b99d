/- Operations that change something: iterators, clearing. -/
import Derived.Test.YtbhjokfopgbmiaaGreatDoorAxLoud2
namespace Go.Ax
open Go

@[simp] theorem memN_eq (x : Nat) (l : List Nat) : memN x l = l.contains x := by
  induction l with
  | nil => rfl
  | cons y l ih =>
    show (Bool.rec (memN x l) true (Nat.beq x y) : Bool) = _
    rw [ih, List.contains_cons]
    cases h : (x == y)
    · have : Nat.beq x y = false := by simpa using h
      rw [this]; simp
    · have : Nat.beq x y = true := by simpa using h
      rw [this]; simp
theorem leftOf_eq (es : List (AV × AV × Nat)) (seen : List Nat) : leftOf es seen = es.filter fun e => !seen.contains e.2.2 := by
  induction es with
  | nil => rfl
  | cons e es ih =>
    show (Bool.rec (e :: leftOf es seen) (leftOf es seen) (memN e.2.2 seen) : List (AV × AV × Nat)) = _
    rw [ih, memN_eq, List.filter_cons]
    cases seen.contains e.2.2 <;> simp
theorem allOld_iff (es : List (AV × AV × Nat)) (b : Nat) : allOld es b = true ↔ ∀ e ∈ es, e.2.2 < b := by
  induction es with
  | nil => simp [allOld]
  | cons e es ih =>
    have h0 : allOld (e :: es) b = (Bool.rec false (allOld es b) (Nat.blt e.2.2 b) : Bool) := rfl
    rw [h0, natblt_eq]
    by_cases h : e.2.2 < b
    · rw [decide_eq_true h]; simp [h, ih]
    · rw [decide_eq_false h]; simp [h]

section
variable {P : Program} {τ : Nat → Int} {γ : Nat → G} {R : Nat → Prop} {w : World} {α : Type} [Ans α]

theorem both_all (go : (AV × AV × Nat) → α) : ∀ (rest : List (AV × AV × Nat)) (e : AV × AV × Nat),
    Ans.holds (List.rec (motive := fun _ => (AV × AV × Nat) → α) (fun e => go e) (fun e' _ ih e => Ans.both (go e) (ih e')) rest e) → ∀ x ∈ e :: rest, Ans.holds (go x) := by
  intro rest
  induction rest with
  | nil => intro e h x hx; simp only [List.mem_singleton] at hx; subst hx; exact h
  | cons e' rest ih =>
    intro e h x hx
    have := Ans.holds_both _ _ h
    rw [List.mem_cons] at hx
    rcases hx with rfl | hx
    · exact this.1
    · exact ih e' this.2 x hx

theorem run_pickNext (n : Nat) (hn : 0 < n) : ∃ j w₁, (choose (.mapNext n)).run P w = .ok j w₁ ∧ j < n ∧ w₁.heap = w.heap ∧ w₁.os = w.os ∧ w₁.output = w.output := by
  by_cases h : n ≤ 1
  · exact ⟨0, w, by simp [Question.forced, h], hn, rfl, rfl, rfl⟩
  · exact ⟨w.tape w.drawn (.mapNext n) % n, { w with drawn := w.drawn + 1 }, by simp [Question.forced, h, Question.cut], Nat.mod_lt _ hn, rfl, rfl, rfl⟩

section
variable {T : Tr AV} {ρ : Operand → Value} {dst : Option Tmp} {ty : TypeId} {pos : String} {af : Array Edge} {gd : Option (Nat × Bool)}

theorem v_nextS {st : St} {x : Operand} {x' : X} {cf : CallF α} {yf : YieldF α} {k : ONext → St → α} {l : Nat} {s : List Nat} {q : Nat} (hR : Rel P τ γ R st.H st.nx w)
    (fx : Fit P τ γ R st.T ρ x) (hx : opd P x = some x') (he : ev x' st.T = .ptr l 0) (hg : hget st.H l = some (.sit s q))
    (h : Ans.holds (nextV (.ptr l 0) true st fun v => k (.val v))) : Out P τ γ R w st ((execOp ρ ⟨dst, .next x true, ty, pos, af, gd⟩).run P w) k := by
  have x1 := fx x' hx
  rw [he] at x1
  have hl : R l := by simpa [okv] using x1.2
  obtain ⟨ob, hb, hr⟩ := hR.obj l _ hl hg
  simp only [nextV, hg] at h
  cases hr with
  | sit _ _ hbase ho =>
    have hget : (getObj (γ l).blk).run P w = .ok _ w := run_getObj_of hb (by simp)
    simp only [dropL_eq] at h
    cases hd : s.drop q with
    | nil =>
      rw [hd] at h
      have hlen : s.length ≤ q := by simpa using hd
      refine .inl ⟨.tup [.bool false], γ, R, st.H, st.nx, w, .inl ?_, hR, Went.refl _ _ _ _, by simp [okv, okvL], h⟩
      simp only [execOp, Instr.next, Sem.run_bind, x1.1, conc, hbase, Nat.zero_add, hget, Result.andThen_ok, strV_size]
      rw [if_neg (by omega)]
      simp [conc, concL]
    | cons a r =>
      rw [hd] at h
      simp only [decR, natblt_eq] at h
      have hlt : q < s.length := by
        rcases Nat.lt_or_ge q s.length with h' | h'
        · exact h'
        · rw [List.drop_eq_nil_of_le h'] at hd; simp at hd
      have ha : s[q]? = some a := by
        have := congrArg List.head? hd
        simpa [List.head?_drop] using this
      by_cases h128 : a < 128
      · rw [decide_eq_true h128] at h
        simp only [Nat.add_eq] at h
        have hp := obj_put (o := .sit s (q + 1)) (ob := .stringIter (strV s) (q + 1)) hR hl hg rfl hb (.sit _ _ hbase ho)
        refine .inl ⟨_, γ, R, _, st.nx, _, .inl ?_, hp.1, hp.2, by simp [okv, okvL], h⟩
        have hsz : q < (strV s).size := by simpa using hlt
        have hby : (strV s)[q]'hsz = UInt8.ofNat a := by
          have := strV_get ha
          rw [getElem?_pos (strV s) q hsz] at this
          simpa using this
        have hdec : Utf8.decode (strV s) q = (a, 1) := by
          have h1 : ((strV s)[q]'hsz).toNat = a := by rw [hby]; simp; omega
          rw [decode_ascii (strV s) q hsz (by rw [h1]; exact h128), h1]
        simp only [execOp, Instr.next, Sem.run_bind, x1.1, conc, hbase, Nat.zero_add, hget, Result.andThen_ok, hsz, if_true, hdec, run_setObj_of hb (by simp : ∀ c e f, Obj.stringIter (strV s) q ≠ .cells c e f), Sem.run_pure]
        simp [concL, conc, goInt]
      · rw [decide_eq_false h128] at h
        exact absurd h Ans.not_fail

theorem v_nextM {st : St} {x : Operand} {x' : X} {cf : CallF α} {yf : YieldF α} {k : ONext → St → α} {l : Nat} {m : Option Nat} {since : Nat} {seen : List Nat} {last : Nat} (hR : Rel P τ γ R st.H st.nx w)
    (fx : Fit P τ γ R st.T ρ x) (hx : opd P x = some x') (he : ev x' st.T = .ptr l 0) (hg : hget st.H l = some (.mit m since seen last))
    (h : Ans.holds (nextV (.ptr l 0) false st fun v => k (.val v))) : Out P τ γ R w st ((execOp ρ ⟨dst, .next x false, ty, pos, af, gd⟩).run P w) k := by
  have x1 := fx x' hx
  rw [he] at x1
  have hl : R l := by simpa [okv] using x1.2
  have hm := mit_of hR hl hg
  have hget : (getObj (γ l).blk).run P w = .ok _ w := run_getObj_of hm.1 (by simp)
  simp only [nextV, hg, nextM] at h
  cases m with
  | none =>
    refine .inl ⟨.tup [.bool false], γ, R, st.H, st.nx, w, .inl ?_, hR, Went.refl _ _ _ _, by simp [okv, okvL], h⟩
    simp only [execOp, Instr.next, Sem.run_bind, x1.1, conc, hm.2.1, Nat.zero_add, hget, Result.andThen_ok, Option.map_none]
    simp [conc, concL]
  | some m =>
    simp only at h
    split at h
    case h_2 => exact absurd h Ans.not_fail
    rename_i es clock hgm
    have hRm := hm.2.2 m rfl
    have hmp := map_of hR hRm hgm
    have hgetm : (getObj (γ m).blk).run P w = .ok _ w := run_getObj_of hmp.1 (by simp)
    simp only [band_eq, natble_eq] at h
    cases hc : (allOld es since && decide (since ≤ last)) with
    | false => rw [hc] at h; exact absurd h Ans.not_fail
    | true =>
      rw [hc] at h
      simp only [Bool.and_eq_true, decide_eq_true_eq, allOld_iff] at hc
      obtain ⟨hold, hsl⟩ := hc
      simp only [leftOf_eq] at h
      have hchk : (!seen.toArray.isEmpty && !(es.map (concE τ γ)).toArray.isEmpty && (es.map (concE τ γ)).toArray.all (fun e => decide (e.born ≥ last))) = false := by
        cases es with
        | nil => simp
        | cons e es =>
          have := hold e (by simp)
          simp only [List.map_cons, List.all_toArray, List.all_cons, Bool.and_eq_false_iff]
          right
          left
          simp only [concE, ge_iff_le, decide_eq_false_iff_not]
          omega
      have hleft : (es.map (concE τ γ)).toArray.filter (fun e => !seen.toArray.contains e.born) = ((es.filter fun e => !seen.contains e.2.2).map (concE τ γ)).toArray := by
        simp only [List.filter_toArray, List.filter_map]
        congr 2
        apply List.filter_congr
        intro e _
        show (!seen.toArray.contains e.2.2) = _
        rw [List.contains_toArray]
      generalize hL : (es.filter fun e => !seen.contains e.2.2) = left at h hleft
      have hmem : ∀ e ∈ left, e ∈ es := fun e he => by rw [← hL] at he; exact (List.mem_filter.1 he).1
      have hold2 : (left.map (concE τ γ)).toArray.filter (fun e => decide (e.born < since)) = (left.map (concE τ γ)).toArray := by
        simp only [List.filter_toArray]
        congr 1
        apply List.filter_eq_self.2
        intro e he
        simp only [List.mem_map] at he
        obtain ⟨e', he', rfl⟩ := he
        have := hold e' (hmem e' he')
        simp [concE, this]
      have hnew : (left.map (concE τ γ)).toArray.filter (fun e => decide (e.born ≥ since)) = #[] := by
        simp only [List.filter_toArray]
        have : (left.map (concE τ γ)).filter (fun e => decide (e.born ≥ since)) = [] := by
          apply List.filter_eq_nil_iff.2
          intro e he
          simp only [List.mem_map] at he
          obtain ⟨e', he', rfl⟩ := he
          have := hold e' (hmem e' he')
          simp [concE]
          omega
        rw [this]
      cases left with
      | nil =>
        refine .inl ⟨.tup [.bool false], γ, R, st.H, st.nx, w, .inl ?_, hR, Went.refl _ _ _ _, by simp [okv, okvL], h⟩
        have hch : (choose (.mapNext 1)).run P w = .ok 0 w := by simp [Question.forced]
        simp only [execOp, Instr.next, Sem.run_bind, x1.1, conc, hm.2.1, Nat.zero_add, hget, Result.andThen_ok, Option.map_some, hgetm, hchk, Bool.false_eq_true, if_false, Sem.run_pure, hleft, hold2, hnew]
        have e1 : ((if (List.map (concE τ γ) ([] : List (AV × AV × Nat))).toArray.isEmpty = true then #[none] else #[]) ++ Array.map some ((List.map (concE τ γ) ([] : List (AV × AV × Nat))).toArray ++ #[]) : Array (Option MapEntry)) = #[none] := by simp
        rw [e1]
        simp [hch, concL, conc]
      | cons e rest =>
        have hall := both_all (fun e => k (.val (.tup [.bool true, e.1, e.2.1])) ⟨st.T, st.D, hset st.H l (.mit (some m) since (appL seen [e.2.2]) clock), st.nx, st.rd⟩) rest e h
        obtain ⟨j, w₁, hch, hj, hw₁, ho₁⟩ := run_pickNext (P := P) (w := w) (e :: rest).length (by simp)
        have hjm : (e :: rest)[j]? = some ((e :: rest)[j]'hj) := List.getElem?_eq_getElem hj
        generalize (e :: rest)[j]'hj = x at hjm
        have hxm : x ∈ e :: rest := List.mem_of_getElem? hjm
        have hxo := hmp.2 x (hmem x hxm)
        have hobj := hR.obj l _ hl hg
        have hp := obj_put (w := w₁) (o := .mit (some m) since (seen ++ [x.2.2]) clock) (ob := .mapIter (some (γ m).blk) since (seen.toArray.push x.2.2) clock) (hR.heap hw₁) hl hg rfl (by rw [hw₁]; exact hm.1)
          (by
            have := ObjR.mit (P := P) (τ := τ) (γ := γ) (R := R) (g := γ l) (some m) since (seen ++ [x.2.2]) clock hm.2.1 hm.2.2
            simpa using this)
        have hk := hall x hxm
        simp only [appL_eq] at hk
        refine .inl ⟨_, γ, R, _, st.nx, _, .inl ?_, hp.1, (Went.heap hw₁ ho₁).trans hp.2, by simp [okv, okvL, hxo.1, hxo.2], hk⟩
        simp only [execOp, Instr.next, Sem.run_bind, x1.1, conc, hm.2.1, Nat.zero_add, hget, Result.andThen_ok, Option.map_some, hgetm, hchk, Bool.false_eq_true, if_false, Sem.run_pure, hleft, hold2, hnew]
        have e1 : ((if (List.map (concE τ γ) (e :: rest)).toArray.isEmpty = true then #[none] else #[]) ++ Array.map some ((List.map (concE τ γ) (e :: rest)).toArray ++ #[]) : Array (Option MapEntry)) = (((e :: rest).map (concE τ γ)).map some).toArray := by simp
        rw [e1]
        have hsz : ((((e :: rest).map (concE τ γ)).map some).toArray).size = (e :: rest).length := by simp
        rw [hsz, hch]
        have hcand : ((((e :: rest).map (concE τ γ)).map some).toArray)[j]? = some (some (concE τ γ x)) := by
          rw [List.getElem?_toArray, List.getElem?_map, List.getElem?_map, hjm]; rfl
        simp only [Result.andThen_ok, hcand, Sem.run_bind, run_setObj_of (w := w₁) (by rw [hw₁]; exact hm.1) (by simp : ∀ c e f, Obj.mapIter (Option.map (fun l => (γ l).blk) (some m)) since seen.toArray last ≠ .cells c e f), Sem.run_pure, concE]
        simp [concL, conc]

theorem v_next {st : St} {x : Operand} {x' : X} {s : Bool} {cf : CallF α} {yf : YieldF α} {k : ONext → St → α} (hR : Rel P τ γ R st.H st.nx w)
    (fx : Fit P τ γ R st.T ρ x) (hx : opd P x = some x') (h : Ans.holds (vev cf yf (.next x' s) st k)) :
    Out P τ γ R w st ((execOp ρ ⟨dst, .next x s, ty, pos, af, gd⟩).run P w) k := by
  simp only [vev] at h
  cases he : ev x' st.T <;> rw [he] at h <;> try (exact absurd h Ans.not_fail)
  rename_i l o
  cases o with
  | succ o => exact absurd h Ans.not_fail
  | zero =>
    cases hg : hget st.H l with
    | none => simp only [nextV, hg] at h; exact absurd h Ans.not_fail
    | some o =>
      cases o <;> cases s
      case sit.true => exact v_nextS (cf := cf) (yf := yf) hR fx hx he hg h
      case mit.false => exact v_nextM (cf := cf) (yf := yf) hR fx hx he hg h
      all_goals (simp only [nextV, hg] at h; exact absurd h Ans.not_fail)
end
end
end Go.Ax
