/- Operations that change something. -/
import Derived.Test.YtbhjokfopgbmiaaGreatDoorAxAlloc
import Derived.Laws.RangeString
namespace Go.Ax
open Go

/-! ## Stores -/

theorem setCell_at {w : World} {b x : Nat} {c : Array Value} {e : TypeId} {fr : Nat × Nat} {v : Value} (h : w.heap[b]? = some (.cells c e fr)) :
    (w.setCell ⟨b, x, none⟩ v).heap[b]? = some (.cells (c.setIfInBounds x v) e fr) := by
  simp [World.setCell, Array.getElem?_modify, h]
theorem setCell_ne {w : World} {b b' x : Nat} {v : Value} (h : b' ≠ b) : (w.setCell ⟨b, x, none⟩ v).heap[b']? = w.heap[b']? := by
  simp [World.setCell, Array.getElem?_modify, Ne.symm h]
theorem setCell_size {w : World} {b x : Nat} {v : Value} : (w.setCell ⟨b, x, none⟩ v).heap.size = w.heap.size := by
  simp [World.setCell]

theorem run_stores {P : Program} (b o : Nat) (e : TypeId) (fr : Nat × Nat) : ∀ (vs : List Value) (i : Nat) (c : Array Value) (w : World), w.heap[b]? = some (.cells c e fr) → o + i + vs.length ≤ c.size →
    (∀ j, j < vs.length → (decide (fr.1 ≤ o + i + j) && decide (o + i + j < fr.2)) = false) → (∀ v ∈ vs, v.oneCell' = true) →
    ∃ w' c', (storeCells ⟨b, o, none⟩ vs i).run P w = .ok () w' ∧ w'.heap[b]? = some (.cells c' e fr) ∧ c'.size = c.size ∧
      (∀ x, c'[x]? = if o + i ≤ x ∧ x < o + i + vs.length then vs[x - (o + i)]? else c[x]?) ∧ w'.heap.size = w.heap.size ∧ (∀ b', b' ≠ b → w'.heap[b']? = w.heap[b']?) ∧ w'.os = w.os ∧ w'.output = w.output := by
  intro vs
  induction vs with
  | nil =>
    intro i c w hw _ _ _
    refine ⟨w, c, rfl, hw, rfl, fun x => ?_, rfl, fun _ _ => rfl, rfl, rfl⟩
    rw [if_neg]
    simp only [List.length_nil]
    omega
  | cons v rest ih =>
    intro i c w hw hl hf h1
    simp only [List.length_cons] at hl hf
    have hi : o + i < c.size := by omega
    have hst : (store ((⟨b, o, none⟩ : Addr).add i) v).run P w = .ok () (w.setCell ⟨b, o + i, none⟩ v) := by
      rw [addr_add, run_store P w _ v _ (h1 v (by simp))]
      have h0 := hf 0 (by omega)
      simp only [Nat.add_zero] at h0
      have hc : w.cell? ⟨b, o + i, none⟩ = some c[o + i] := by simp [World.cell?, hw, hi]
      have hz : w.frozen? ⟨b, o + i, none⟩ = false := by simp only [World.frozen?, hw]; exact h0
      simp [hc, hz]
    obtain ⟨w', c', hr, hb, hs, hx, hsz, hne, hou⟩ := ih (i + 1) (c.setIfInBounds (o + i) v) (w.setCell ⟨b, o + i, none⟩ v) (setCell_at hw) (by simp; omega)
      (fun j hj => by have := hf (j + 1) (by omega); rwa [show o + i + (j + 1) = o + (i + 1) + j by omega] at this) (fun x hx => h1 x (by simp [hx]))
    refine ⟨w', c', ?_, hb, by simpa using hs, fun x => ?_, hsz.trans setCell_size, fun b' hb' => (hne b' hb').trans (setCell_ne hb'), hou⟩
    · simp only [storeCells, Sem.run_bind, hst, Result.andThen_ok, hr]
    · rw [hx x]
      simp only [List.length_cons]
      by_cases h1 : x = o + i
      · subst h1
        rw [if_neg (by omega), if_pos (by omega)]
        simp [hi]
      · rw [Array.getElem?_setIfInBounds_ne (by omega)]
        by_cases h2 : o + (i + 1) ≤ x ∧ x < o + (i + 1) + rest.length
        · rw [if_pos h2, if_pos (by omega), show x - (o + i) = (x - (o + (i + 1))) + 1 by omega, List.getElem?_cons_succ]
        · rw [if_neg h2, if_neg (by omega)]

theorem oneCell_conc {τ : Nat → Int} {γ : Nat → G} {v : AV} (h : v.cell = true) : (conc τ γ v).oneCell' = true := by
  cases v <;> simp_all [AV.cell, conc, Value.oneCell']
theorem allCell_iff (l : List AV) : allCell l = true ↔ ∀ v ∈ l, v.cell = true := by
  induction l with
  | nil => simp [allCell]
  | cons v l ih =>
    have e : allCell (v :: l) = (Bool.rec false (allCell l) v.cell : Bool) := rfl
    rw [e]
    cases h : v.cell
    · simp [h]
    · simp [h, ih]

/-- What an operation gives. -/
def Gives (r : Result Next) (v : Value) (w' : World) : Prop := r = .ok (.value v) w' ∨ (r = .ok .skip w' ∧ v = undef)

section
variable {P : Program} {τ : Nat → Int} {γ : Nat → G} {R : Nat → Prop} {w : World} {α : Type} [Ans α]

/-- What comes of an operation that changes something. -/
def Out (P : Program) (τ : Nat → Int) (γ : Nat → G) (R : Nat → Prop) (w : World) (st : St) (r : Result Next) (k : ONext → St → α) : Prop :=
  (∃ v γ' R' H' nx' w', Gives r (conc τ γ' v) w' ∧ Rel P τ γ' R' H' nx' w' ∧ Went γ R st.H w γ' R' H' w' ∧ okv γ' R' v ∧ Ans.holds (k (.val v) ⟨st.T, st.D, H', nx', st.rd⟩)) ∨
  (∃ t v, r = .halt (.panic (conc τ γ (.ifc t v))) w ∧ okv γ R (.ifc t v) ∧ Ans.holds (k (.pan (.ifc t v)) st))

/-- Cells that change. -/
theorem cells_put {H : Tr AObj} {nx : Nat} (hR : Rel P τ γ R H nx w) {l o : Nat} {vs : List AV} {e : Nat} {cs cs' : List AV} {fz : Nat} (hl : R l) (hg : hget H l = some (.cells e cs fz false)) (ho : okvL γ R vs)
    (hfz : fz ≤ o) (hc : allCell vs = true) (hov : overL vs o cs = some cs') :
    ∃ w', (storeCells ⟨(γ l).blk, (γ l).base + o, none⟩ (concL τ γ vs)).run P w = .ok () w' ∧ Rel P τ γ R (hset H l (.cells e cs' fz false)) nx w' ∧ Went γ R H w γ R (hset H l (.cells e cs' fz false)) w' := by
  obtain ⟨ob, hb, hr⟩ := hR.obj l _ hl hg
  rw [overL_eq] at hov
  split at hov
  case isFalse => simp at hov
  rename_i hle
  simp only [Option.some.injEq] at hov
  subst hov
  cases hr with
  | cells _ _ _ _ c fr hs hlm hn hcs ho' hf =>
    have hlen : (concL τ γ vs).length = vs.length := by rw [concL_eq, List.length_map]
    obtain ⟨w', c', hr, hb', hs', hx, hsz, hne, hou⟩ := run_stores (P := P) (γ l).blk ((γ l).base + o) e fr (concL τ γ vs) 0 c w hb (by rw [hlen]; omega)
      (fun j _ => by have := hf (o + j) (by omega); rwa [show (γ l).base + (o + j) = (γ l).base + o + 0 + j by omega] at this)
      (fun v hv => by
        rw [concL_eq, List.mem_map] at hv
        obtain ⟨u, hu, rfl⟩ := hv
        exact oneCell_conc ((allCell_iff vs).1 hc u hu))
    refine ⟨w', hr, hR.put l _ _ (.cells c' e fr) hl hg rfl ?_ hsz hb' hne hou⟩
    refine .cells e _ fz false c' fr (hs'.trans hs) hlm (by simp; omega) (fun i v hv => ?_) ?_ hf
    · rw [hx, hlen]
      simp only [Nat.add_zero]
      by_cases h1 : i < o
      · rw [if_neg (by omega)]
        refine hcs i v ?_
        rw [List.append_assoc, List.getElem?_append_left (by simp; omega), List.getElem?_take, if_pos h1] at hv
        exact hv
      · by_cases h2 : i < o + vs.length
        · rw [if_pos (by omega), concL_eq, List.getElem?_map]
          rw [List.getElem?_append_left (by simp; omega), List.getElem?_append_right (by simp; omega)] at hv
          rw [show (γ l).base + i - ((γ l).base + o) = i - (cs.take o).length by simp; omega, hv]
          rfl
        · rw [if_neg (by omega)]
          refine hcs i v ?_
          rw [List.getElem?_append_right (by simp; omega), List.getElem?_drop] at hv
          rw [← hv]
          congr 1
          simp
          omega
    · rw [okvL_iff]
      intro v hv
      simp only [List.mem_append] at hv
      rcases hv with (hv | hv) | hv
      · exact (okvL_iff _ _ _).1 ho' v (List.mem_of_mem_take hv)
      · exact (okvL_iff _ _ _).1 ho v hv
      · exact (okvL_iff _ _ _).1 ho' v (List.mem_of_mem_drop hv)

theorem store_sound {st : St} (hR : Rel P τ γ R st.H st.nx w) {l o : Nat} {vs : List AV} {k : St → α} (hl : R l) (ho : okvL γ R vs) (h : Ans.holds (storeAt l o vs st k)) :
    ∃ w' H', (storeCells ⟨(γ l).blk, (γ l).base + o, none⟩ (concL τ γ vs)).run P w = .ok () w' ∧ Rel P τ γ R H' st.nx w' ∧ Went γ R st.H w γ R H' w' ∧ Ans.holds (k ⟨st.T, st.D, H', st.nx, st.rd⟩) ∧ allCell vs = true := by
  unfold storeAt at h
  split at h
  · rename_i e cs fz hg
    simp only [natble_eq, band_eq] at h
    cases hc : (decide (fz ≤ o) && allCell vs) with
    | false => rw [hc] at h; exact absurd h Ans.not_fail
    | true =>
      rw [hc] at h
      simp only [Bool.and_eq_true, decide_eq_true_eq] at hc
      cases hov : overL vs o cs with
      | none => rw [hov] at h; exact absurd h Ans.not_fail
      | some cs' =>
        rw [hov] at h
        obtain ⟨w', h1, h2, h3⟩ := cells_put (τ := τ) hR hl hg ho hc.1 hc.2 hov
        exact ⟨w', _, h1, h2, h3, h, hc.2⟩
  · exact absurd h Ans.not_fail

section
variable {T : Tr AV} {ρ : Operand → Value} {dst : Option Tmp} {ty : TypeId} {pos : String} {af : Array Edge} {gd : Option (Nat × Bool)}

theorem cell_cells {v : AV} (h : v.cell = true) : v.cells = [v] := by cases v <;> simp_all [AV.cell, AV.cells]

theorem v_st1 {st : St} {t : TypeId} {a v : Operand} {a' v' : X} {cf : CallF α} {yf : YieldF α} {k : ONext → St → α} (hR : Rel P τ γ R st.H st.nx w) (hz : P.cellsOf t = 1)
    (fa : Fit P τ γ R st.T ρ a) (ha : opd P a = some a') (fv : Fit P τ γ R st.T ρ v) (hv : opd P v = some v') (h : Ans.holds (vev cf yf (.st1 a' v') st k)) :
    Out P τ γ R w st ((execOp ρ ⟨dst, .store t a v, ty, pos, af, gd⟩).run P w) k := by
  have a1 := fa a' ha
  have v1 := fv v' hv
  simp only [vev] at h
  split at h
  · rename_i l o he
    rw [he] at a1
    have hl : R l := by simpa [okv] using a1.2
    obtain ⟨w', H', h1, h2, h3, h4, h5⟩ := store_sound hR hl (vs := [ev v' st.T]) (by simp [okvL, v1.2]) h
    refine .inl ⟨und, γ, R, H', st.nx, w', .inr ⟨?_, by simp [conc, und, undef, concL]⟩, h2, h3, by simp [und, okv, okvL], h4⟩
    have hcl : (conc τ γ (ev v' st.T)).cells = #[conc τ γ (ev v' st.T)] := by
      rw [conc_cells, cell_cells ((allCell_iff _).1 h5 _ (by simp))]
      simp [concL]
    rw [concL_eq] at h1
    simp only [List.map_cons, List.map_nil] at h1
    simp [execOp, Instr.storeAt, a1.1, v1.1, conc, Instr.sureAddr, storeVar, run_sizeOf_cells (by omega : P.cellsOf t ≠ 0), hz, hcl, h1]
  · exact absurd h Ans.not_fail

theorem v_stn {st : St} {t : TypeId} {a v : Operand} {a' v' : X} {cf : CallF α} {yf : YieldF α} {k : ONext → St → α} (hR : Rel P τ γ R st.H st.nx w) (hb : isAggB P t = some true)
    (fa : Fit P τ γ R st.T ρ a) (ha : opd P a = some a') (fv : Fit P τ γ R st.T ρ v) (hv : opd P v = some v') (h : Ans.holds (vev cf yf (.stn (P.cellsOf t) a' v') st k)) :
    Out P τ γ R w st ((execOp ρ ⟨dst, .store t a v, ty, pos, af, gd⟩).run P w) k := by
  have a1 := fa a' ha
  have v1 := fv v' hv
  obtain ⟨i, hi⟩ := info_of_isAgg hb
  simp only [vev] at h
  split at h
  · rename_i l o he
    rw [he] at a1
    have hl : R l := by simpa [okv] using a1.2
    split at h
    · rename_i cs hcs
      rw [hcs] at v1
      simp only [lenL_eq, natbeq_eq] at h
      by_cases hn : cs.length = P.cellsOf t
      · rw [decide_eq_true hn] at h
        obtain ⟨w', H', h1, h2, h3, h4, h5⟩ := store_sound hR hl (vs := cs) (by simpa [okv] using v1.2) h
        refine .inl ⟨und, γ, R, H', st.nx, w', .inr ⟨?_, by simp [conc, und, undef, concL]⟩, h2, h3, by simp [und, okv, okvL], h4⟩
        have hcl : (conc τ γ (.agg cs)).cells = (concL τ γ cs).toArray := by rw [conc_cells]; rfl
        have hsz : (concL τ γ cs).length = i.size := by rw [concL_eq, List.length_map, hn, cellsOf_info hi]
        simp only [execOp, Instr.storeAt, a1.1, v1.1, conc, Instr.sureAddr, storeVar, Sem.run_bind, Sem.run_pure, Result.andThen_ok, run_sizeOf' hi]
        rw [show (Value.agg (concL τ γ cs).toArray).cells = (concL τ γ cs).toArray from rfl]
        simp [hsz, h1]
      · rw [decide_eq_false hn] at h
        exact absurd h Ans.not_fail
    · exact absurd h Ans.not_fail
  · exact absurd h Ans.not_fail

theorem v_asg {st : St} {x : Operand} {x' : X} {cf : CallF α} {yf : YieldF α} {k : ONext → St → α} (hR : Rel P τ γ R st.H st.nx w)
    (fx : Fit P τ γ R st.T ρ x) (hx : opd P x = some x') (h : Ans.holds (vev cf yf (.asg x') st k)) :
    Out P τ γ R w st ((execOp ρ ⟨dst, .assign x, ty, pos, af, gd⟩).run P w) k := by
  have x1 := fx x' hx
  exact .inl ⟨_, γ, R, st.H, st.nx, w, .inl (by simp [execOp, x1.1]), hR, Went.refl _ _ _ _, x1.2, h⟩

theorem v_panic {st : St} {x : Operand} {x' : X} {cf : CallF α} {yf : YieldF α} {k : ONext → St → α} 
    (fx : Fit P τ γ R st.T ρ x) (hx : opd P x = some x') (h : Ans.holds (vev cf yf (.panic x') st k)) :
    Out P τ γ R w st ((execOp ρ ⟨dst, .panic x, ty, pos, af, gd⟩).run P w) k := by
  have x1 := fx x' hx
  simp only [vev] at h
  split at h
  · rename_i t v he
    rw [he] at x1
    exact .inr ⟨t, v, by simp [execOp, x1.1, Instr.panic, conc], x1.2, h⟩
  · exact absurd h Ans.not_fail
end
end
end Go.Ax
