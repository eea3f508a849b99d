/- Operations that reckon, the rest. -/
import Derived.Test.YtbhjokfopgbmiaaGreatDoorAxEq
namespace Go.Ax
open Go

section
variable {P : Program} {τ : Nat → Int} {γ : Nat → G} {R : Nat → Prop} {T : Tr AV} {ρ : Operand → Value} {w : World}
variable {dst : Option Tmp} {ty : TypeId} {pos : String} {af : Array Edge} {gd : Option (Nat × Bool)}

theorem eqGuard_plain {op : BinOp} {t : TypeId} {x y : Operand} {a b : Value} (ha : ∀ c, a ≠ .agg c) (hn : a ≠ .nilIface) : (eqGuard op t x y a b).run P w = .ok () w := by
  unfold eqGuard
  cases op <;> first
    | rfl
    | (cases a <;> cases b <;> first
        | rfl
        | exact absurd rfl (ha _)
        | exact absurd rfl hn)

theorem bit2_sound {k : IntKind} {f : Nat → Nat → Nat} {g : BitVec k.bits → BitVec k.bits → BitVec k.bits} {a b : Int} {v : AV} (hfg : ∀ m n : Nat, (g (BitVec.ofNat _ m) (BitVec.ofNat _ n)).toNat = f m n % 2 ^ k.bits)
    (h : bit2 k f a b = some v) : v = .int k (k.wrap (g (BitVec.ofInt _ a) (BitVec.ofInt _ b)).toNat) := by
  cases a with
  | ofNat m => cases b with
    | ofNat n =>
      simp only [bit2, wrapF_eq, Option.some.injEq] at h
      rw [← h]
      have e : ∀ q : Nat, BitVec.ofInt k.bits (Int.ofNat q) = BitVec.ofNat _ q := fun q => by
        apply BitVec.eq_of_toNat_eq; rw [toNat_ofInt_nat]; simp
      rw [e, e, hfg]
      congr 1
      exact (wrap_mod k (f m n)).symm
    | negSucc n => simp [bit2] at h
  | negSucc m => simp [bit2] at h

theorem p_bin {op : BinOp} {x y : Operand} {x' y' : X} {t u : TypeId} {v : AV} (hs : op ≠ .shl ∧ op ≠ .shr) (fx : Fit P τ γ R T ρ x) (hx : opd P x = some x') (fy : Fit P τ γ R T ρ y) (hy : opd P y = some y')
    (h : pev (.bin op x' y') T = some v) : Does P τ γ R ρ w ⟨dst, .binOp op t x y u, ty, pos, af, gd⟩ v := by
  have x1 := fx x' hx
  have y1 := fy y' hy
  simp only [pev] at h
  split at h
  · rename_i k a j b ha hb
    rw [ha] at x1
    rw [hb] at y1
    simp only [kindEq_eq, brec_eq, decide_eq_true_eq] at h
    split at h
    · rename_i hk
      subst hk
      simp only [conc] at x1 y1
      simp only [Does, execOp, Sem.run_bind, x1.1, y1.1, eqGuard_plain (w := w) (a := .int k a) (by simp) (by simp), Result.andThen_ok]
      cases op <;> simp only [binI, ieq_eq, ilt_eq, wrapF_eq, bnot_eq, Option.some.injEq, reduceCtorEq] at h hs
      case add => subst h; simp [binOp, Op.intArith, conc, okv]
      case sub => subst h; simp [binOp, Op.intArith, conc, okv]; rfl
      case mul => subst h; simp [binOp, Op.intArith, conc, okv]
      case quo =>
        have e : (Int.ofNat 0) = 0 := rfl
        rw [e] at h
        by_cases hb0 : b = 0
        · simp [hb0] at h
        · simp only [hb0, decide_false, Option.some.injEq] at h
          subst h; simp [binOp, Op.intDiv, conc, okv, hb0]
      case rem =>
        have e : (Int.ofNat 0) = 0 := rfl
        rw [e] at h
        by_cases hb0 : b = 0
        · simp [hb0] at h
        · simp only [hb0, decide_false, Option.some.injEq] at h
          subst h; simp [binOp, Op.intDiv, conc, okv, hb0]
      case and =>
        have := bit2_sound (g := (· &&& ·)) (fun m n => by simp [land_mod]) h
        subst this; simp [binOp, Op.intBits, conc, okv]
      case or =>
        have := bit2_sound (g := (· ||| ·)) (fun m n => by simp [lor_mod]) h
        subst this; simp [binOp, Op.intBits, conc, okv]
      case xor =>
        have := bit2_sound (g := (· ^^^ ·)) (fun m n => by simp [xor_mod]) h
        subst this; simp [binOp, Op.intBits, conc, okv]
      case eql => subst h; simp [binOp, Op.intCmp, conc, okv]; rfl
      case neq => subst h; simp [binOp, Op.intCmp, conc, okv]; rfl
      case lss => subst h; simp [binOp, Op.intCmp, conc, okv]
      case leq => subst h; simp [binOp, Op.intCmp, conc, okv]; rw [Bool.eq_iff_iff]; simp
      case gtr => subst h; simp [binOp, Op.intCmp, conc, okv]
      case geq => subst h; simp [binOp, Op.intCmp, conc, okv]; rw [Bool.eq_iff_iff]; simp
    · simp at h
  · simp at h

theorem p_shf {op : BinOp} {x y : Operand} {x' y' : X} {t u : TypeId} {v : AV} (hs : op = .shl ∨ op = .shr) (fx : Fit P τ γ R T ρ x) (hx : opd P x = some x') (fy : Fit P τ γ R T ρ y) (hy : opd P y = some y')
    (h : pev (.shf op x' y') T = some v) : Does P τ γ R ρ w ⟨dst, .binOp op t x y u, ty, pos, af, gd⟩ v := by
  have x1 := fx x' hx
  have y1 := fy y' hy
  simp only [pev] at h
  split at h
  · rename_i k a j b ha hb
    rw [ha] at x1
    rw [hb] at y1
    simp only [conc] at x1 y1
    simp only [Does, execOp, Sem.run_bind, x1.1, y1.1, eqGuard_plain (w := w) (a := .int k a) (by simp) (by simp), Result.andThen_ok]
    cases a with
    | negSucc m => simp [shfI] at h
    | ofNat m => cases b with
      | negSucc n => simp [shfI] at h
      | ofNat n =>
        have hn : ¬ (Int.ofNat n < 0) := by simp
        rcases hs with rfl | rfl
        · simp only [shfI, wrapF_eq, bitsOf_eq, Option.some.injEq] at h
          subst h
          refine ⟨?_, by simp [okv]⟩
          simp only [binOp, Op.shift, hn, if_false, Sem.run_pure, Result.andThen_ok, conc]
          congr 3
          simp [Nat.shiftLeft_eq, Nat.min_def]
        · simp only [shfI, bitsOf_eq, Option.some.injEq] at h
          subst h
          refine ⟨?_, by simp [okv]⟩
          simp only [binOp, Op.shift, hn, if_false, Sem.run_pure, Result.andThen_ok, conc]
          congr 3
          simp only [Nat.min_def, Int.toNat_natCast, Int.ofNat_eq_natCast]
          rw [Int.fdiv_eq_ediv_of_nonneg _ (Int.le_of_lt (Int.pow_pos (by decide)))]
          simp [Int.shiftRight_eq_div_pow]
  · simp at h

theorem okv_append {a b : List Nat} (ha : okv γ R (.str a)) (hb : okv γ R (.str b)) : okv γ R (.str (a ++ b)) := by
  simp only [okv, List.mem_append] at *
  rintro x (h | h)
  · exact ha x h
  · exact hb x h

theorem beq_bytes {a b : List Nat} (ha : ∀ x ∈ a, x < 256) (hb : ∀ x ∈ b, x < 256) : (bytesB a == bytesB b) = decide (a = b) := by
  rw [Bool.eq_iff_iff]
  simp only [beq_iff_eq, decide_eq_true_eq]
  exact ⟨bytesB_inj a b ha hb, fun e => by rw [e]⟩

theorem bytesLess_irrefl_or : ∀ (a b : List UInt8), (Op.bytesLess a b || a == b) = !Op.bytesLess b a := by
  intro a
  induction a with
  | nil => intro b; cases b <;> simp [Op.bytesLess]
  | cons x xs ih => intro b; cases b with
    | nil => simp [Op.bytesLess]
    | cons y ys =>
      simp only [Op.bytesLess]
      have := ih ys
      by_cases h1 : x < y
      · have h2 : ¬ y < x := fun h => absurd (UInt8.lt_iff_toNat_lt.1 h1) (by have := UInt8.lt_iff_toNat_lt.1 h; omega)
        have h3 : ¬ y = x := fun h => by subst h; exact absurd h1 (by simp)
        simp [h1, h2, h3]
      · by_cases h2 : x = y
        · subst h2
          simp only [h1, decide_false, Bool.false_or, beq_self_eq_true, Bool.true_and] at this ⊢
          rw [← this]
          simp
        · have h3 : y < x := by
            have a1 : ¬ x.toNat < y.toNat := fun h => h1 (UInt8.lt_iff_toNat_lt.2 h)
            have a2 : x.toNat ≠ y.toNat := fun h => h2 (UInt8.toNat_inj.1 h)
            exact UInt8.lt_iff_toNat_lt.2 (by omega)
          simp [h1, h2, h3]

theorem p_sbin {op : BinOp} {x y : Operand} {x' y' : X} {t u : TypeId} {v : AV} (fx : Fit P τ γ R T ρ x) (hx : opd P x = some x') (fy : Fit P τ γ R T ρ y) (hy : opd P y = some y')
    (h : pev (.sbin op x' y') T = some v) : Does P τ γ R ρ w ⟨dst, .binOp op t x y u, ty, pos, af, gd⟩ v := by
  have x1 := fx x' hx
  have y1 := fy y' hy
  simp only [pev] at h
  split at h
  · rename_i a b ha hb
    rw [ha] at x1
    rw [hb] at y1
    have oa : ∀ x ∈ a, x < 256 := by simpa [okv] using x1.2
    have ob : ∀ x ∈ b, x < 256 := by simpa [okv] using y1.2
    simp only [conc] at x1 y1
    simp only [Does, execOp, Sem.run_bind, x1.1, y1.1, eqGuard_plain (w := w) (a := .string (strV a)) (by simp) (by simp), Result.andThen_ok]
    cases op <;> simp only [binS, streq_eq, bnot_eq, Option.some.injEq, reduceCtorEq] at h
    case add =>
      simp only [natblt_eq, lenL_eq, appL_eq, brec_eq, decide_eq_true_eq] at h
      split at h
      · split at h
        · rename_i h1 h2
          simp only [Option.some.injEq] at h
          subst h
          refine ⟨?_, okv_append (by simpa [okv] using oa) (by simpa [okv] using ob)⟩
          simp only [binOp, Op.stringOp, strV_size, strV_append, conc]
          rw [if_neg (by simp only [IntKind.max, IntKind.signed, IntKind.bits]; simp; omega)]
          rfl
        · simp at h
      · simp at h
    case eql => subst h; refine ⟨?_, by simp [okv]⟩; simp [binOp, Op.stringOp, conc, beq_bytes oa ob]
    case neq => subst h; refine ⟨?_, by simp [okv]⟩; simp [binOp, Op.stringOp, conc, beq_bytes oa ob]
    case lss => subst h; refine ⟨?_, by simp [okv]⟩; simp [binOp, Op.stringOp, conc, strlt_eq a b oa ob]
    case gtr =>
      subst h; refine ⟨?_, by simp [okv]⟩
      simp only [binOp, Op.stringOp, conc, strlt_eq b a ob oa, strV_toList]
      rw [bytesLess_irrefl_or]; simp
    case leq =>
      subst h; refine ⟨?_, by simp [okv]⟩
      simp only [binOp, Op.stringOp, conc, strlt_eq b a ob oa, strV_toList]
      rw [bytesLess_irrefl_or]; simp
    case geq => subst h; refine ⟨?_, by simp [okv]⟩; simp [binOp, Op.stringOp, conc, strlt_eq a b oa ob]
  · simp at h

theorem p_eqc {neg g : Bool} {lay : List Lay} {x y : Operand} {x' y' : X} {t u : TypeId} {v : AV} (hl : layOf P 20 t = some lay) (hg : isAggB P t = some g) (hG : g = true → P.eqGuardType P.depth t = false)
    (hs : g = false → P.underlying t = some .bool) (fx : Fit P τ γ R T ρ x) (hx : opd P x = some x') (fy : Fit P τ γ R T ρ y) (hy : opd P y = some y')
    (h : pev (.eqc neg g lay x' y') T = some v) : Does P τ γ R ρ w ⟨dst, .binOp (if neg = true then .neq else .eql) t x y u, ty, pos, af, gd⟩ v := by
  have x1 := fx x' hx
  have y1 := fy y' hy
  simp only [pev, orec_bind, Option.bind_eq_some_iff, brec_eq, bnot_eq, Option.some.injEq] at h
  obtain ⟨r, hr, rfl⟩ := h
  have he := equal_sound (P := P) (τ := τ) (w := w) 20 t lay g _ _ r 9980 hl hg hr x1.2 y1.2
  refine ⟨?_, by simp [okv]⟩
  simp only [execOp, Sem.run_bind, x1.1, y1.1]
  have hr' := hr
  simp only [eqK, orec_bind, Option.bind_eq_some_iff] at hr'
  obtain ⟨xs, hxs, ys, hys, hc⟩ := hr'
  cases g with
  | true =>
    have ex := shaped_true hxs
    have ey := shaped_true hys
    rw [ex, ey] at he ⊢
    simp only [conc] at he ⊢
    rw [run_eqGuard_agg _ _ _ _ _ _ _ (hG rfl)]
    cases neg <;> simp [run_eql_struct, run_neq_struct, he]
  | false =>
    have ex := shaped_false hxs
    have ey := shaped_false hys
    have hu := hs rfl
    have hl' : lay = [.b] := by simp [layOf, hu] at hl; exact hl.symm
    subst hl'
    rw [ex.1, ey.1, eqCells_cons] at hc
    simp only [Option.bind_eq_some_iff] at hc
    obtain ⟨r0, hr0, _⟩ := hc
    cases hvx : ev x' T <;> simp only [hvx, eqCell, reduceCtorEq] at hr0
    cases hvy : ev y' T <;> simp only [hvy, reduceCtorEq] at hr0
    rename_i m n
    rw [hvx, hvy] at he
    simp only [conc] at he ⊢
    rw [eqGuard_plain (a := .bool m) (by simp) (by simp)]
    have he' : (Op.equalIn 10000 t (.bool m) (.bool n)).run P w = .ok r w := he
    cases neg <;> simp [binOp, Op.equal, Op.maxDepth, he']

theorem foldl_set (vs : List Value) : ∀ (cells : Array Value) (off k : Nat), off + k + vs.length ≤ cells.size →
    ((vs.zipIdx k).foldl (fun cs (p : Value × Nat) => cs.setIfInBounds (off + p.2) p.1) cells).toList = cells.toList.take (off + k) ++ vs ++ cells.toList.drop (off + k + vs.length) := by
  induction vs with
  | nil => intro cells off k _; simp
  | cons v vs ih =>
    intro cells off k h
    simp only [List.length_cons] at h
    rw [List.zipIdx_cons, List.foldl_cons, ih _ off (k + 1) (by simp; omega)]
    obtain ⟨cells⟩ := cells
    simp only [List.size_toArray] at h
    simp only [Array.toList_setIfInBounds, List.length_cons]
    rw [show off + (k + 1) = off + k + 1 by omega, List.drop_set, if_pos (by omega), List.take_set,
      show off + k + 1 + vs.length = off + k + (vs.length + 1) by omega]
    have hlt : off + k < cells.length := by omega
    rw [List.take_succ_eq_append_getElem hlt, List.set_append]
    have e : (cells.take (off + k)).length = off + k := by simp; omega
    simp [e]

theorem fill_sound (place : Nat → Option (Nat × Nat)) : ∀ (ps : List (Nat × Operand)) (qs : List (Nat × Nat × Operand)) (rs : List (Nat × Nat × X)) (cs cs' : List AV),
    ps.mapM (fun p => (place p.1).map fun q => (q.1, q.2, p.2)) = some qs → opdP P qs = some rs → (∀ p ∈ ps, Fit P τ γ R T ρ p.2) → okvL γ R cs → fillC rs T cs = some cs' →
      Instr.fill place (concL τ γ cs).toArray (ps.map fun p => (p.1, ρ p.2)) = some (concL τ γ cs').toArray ∧ okvL γ R cs' ∧ cs'.length = cs.length := by
  intro ps
  induction ps with
  | nil =>
    intro qs rs cs cs' hq hr _ ho h
    simp at hq
    subst hq
    simp [opdP] at hr
    subst hr
    simp [fillC] at h
    subst h
    exact ⟨rfl, ho, rfl⟩
  | cons p ps ih =>
    intro qs rs cs cs' hq hr fx ho h
    simp only [List.mapM_cons, Option.bind_eq_bind, Option.bind_eq_some_iff, Option.map_eq_some_iff, Option.pure_def, Option.some.injEq] at hq
    obtain ⟨q, ⟨pl, hpl, rfl⟩, qs', hqs, rfl⟩ := hq
    simp only [opdP, List.mapM_cons, Option.bind_eq_bind, Option.bind_eq_some_iff, Option.map_eq_some_iff, Option.pure_def, Option.some.injEq] at hr
    obtain ⟨r, ⟨x', hx', rfl⟩, rs', hrs, rfl⟩ := hr
    have e : fillC ((pl.1, pl.2, x') :: rs') T cs = (Bool.casesOn (Nat.beq (lenL (ev x' T).cells) pl.2) none (Option.casesOn (overL (ev x' T).cells pl.1 cs) none fun cs' => fillC rs' T cs') : Option (List AV)) := rfl
    rw [e] at h
    simp only [lenL_eq, natbeq_eq, orec_bind, brec_eq, decide_eq_true_eq, overL_eq] at h
    split at h
    · rename_i hlen
      simp only [Option.bind_eq_some_iff] at h
      obtain ⟨cs1, h1, h2⟩ := h
      split at h1
      · rename_i hle
        simp only [Option.some.injEq] at h1
        have f := fx p (by simp) x' hx'
        have hl1 : cs1.length = cs.length := by subst h1; simp; omega
        have ho1 : okvL γ R cs1 := by subst h1; exact okvL_append (okvL_append (okvL_take _ ho) (okv_cells f.2)) (okvL_drop _ ho)
        have := ih qs' rs' cs1 cs' hqs hrs (fun z hz => fx z (by simp [hz])) ho1 h2
        refine ⟨?_, this.2.1, by rw [this.2.2, hl1]⟩
        rw [← this.1]
        simp only [List.map_cons, Instr.fill, hpl, f.1, conc_cells, concL_eq]
        rw [if_neg (by simp; omega)]
        congr 1
        apply Array.ext'
        rw [← Array.foldl_toList]
        have := foldl_set ((ev x' T).cells.map (conc τ γ)) (cs.map (conc τ γ)).toArray pl.1 0 (by simp; omega)
        simp only [Nat.add_zero, List.length_map] at this
        have z : ((ev x' T).cells.map (conc τ γ)).toArray.zipIdx.toList = ((ev x' T).cells.map (conc τ γ)).zipIdx 0 := by simp
        rw [z]
        rw [show (fun (cs : Array Value) (x : Value × Nat) => match x with | (c, j) => cs.setIfInBounds (pl.1 + j) c) = fun cs p => cs.setIfInBounds (pl.1 + p.2) p.1 from rfl]
        rw [this, ← h1]
        simp [List.map_take, List.map_drop]
      · simp at h1
    · simp at h

theorem mapM_fields {fs : List Field} (h : ∀ f ∈ fs, ∃ i, P.info? f.type = some i) : (fs.mapM (fun f => do pure (f.offset, ← sizeOf f.type) : Field → Sem (Nat × Nat))).run P w = .ok (fs.map fun f => (f.offset, P.cellsOf f.type)) w := by
  induction fs with
  | nil => rfl
  | cons f fs ih =>
    obtain ⟨i, hi⟩ := h f (by simp)
    simp only [List.mapM_cons, Sem.run_bind, run_sizeOf' hi, Result.andThen_ok, Sem.run_pure, ih (fun g hg => h g (by simp [hg])), List.map_cons, cellsOf_info hi]

theorem p_buildS {t : TypeId} {ps : Array (Nat × Operand)} {fs : Array Field} {z : List AV} {qs : List (Nat × Nat × Operand)} {rs : List (Nat × Nat × X)} {v : AV}
    (hz : cellsZ P t = some z) (hd : P.underlying t = some (.struct fs)) (hf : ∀ f ∈ fs.toList, ∃ i, P.info? f.type = some i)
    (hq : ps.toList.mapM (fun p => ((fs[p.1]?).map fun f => (f.offset, P.cellsOf f.type)).map fun q => (q.1, q.2, p.2)) = some qs) (hr : opdP P qs = some rs) (fx : ∀ p ∈ ps.toList, Fit P τ γ R T ρ p.2)
    (h : pev (.build z rs) T = some v) : Does P τ γ R ρ w ⟨dst, .build t ps, ty, pos, af, gd⟩ v := by
  simp only [pev, orec_bind, Option.bind_eq_some_iff, Option.some.injEq] at h
  obtain ⟨cs, hc, rfl⟩ := h
  obtain ⟨i, zv, hi, hzv, hzc, hzo, hzl⟩ := cellsZ_spec (τ := τ) (γ := γ) (R := R) hz
  have := fill_sound (τ := τ) (fun i => (fs[i]?).map fun f => (f.offset, P.cellsOf f.type)) ps.toList qs rs z cs hq hr fx hzo hc
  refine ⟨?_, by simpa [okv] using this.2.1⟩
  obtain ⟨ps⟩ := ps
  simp only [execOp, Instr.build, Sem.run_bind, run_zeroValue hi hzv, Result.andThen_ok, run_underlying hd, hzc]
  rw [Array.mapM_eq_mapM_toList]
  simp only [Sem.run_map, mapM_fields hf, Result.andThen_ok]
  have e : (fun i : Nat => (fs.toList.map fun f : Field => (f.offset, P.cellsOf f.type)).toArray[i]?) = fun i => (fs[i]?).map fun f : Field => (f.offset, P.cellsOf f.type) := by
    funext i
    obtain ⟨fs⟩ := fs
    simp
  rw [e]
  have l : (Array.map (fun x : Nat × Operand => (x.fst, ρ x.snd)) ⟨ps⟩).toList = ps.map fun p => (p.1, ρ p.2) := by simp
  have t1 := this.1
  simp only at t1
  rw [l, t1]
  simp [conc]

theorem p_buildA {t : TypeId} {ps : Array (Nat × Operand)} {n : Nat} {e : TypeId} {ie : TypeInfo} {z : List AV} {qs : List (Nat × Nat × Operand)} {rs : List (Nat × Nat × X)} {v : AV}
    (hz : cellsZ P t = some z) (hd : P.underlying t = some (.array n e)) (he : P.info? e = some ie)
    (hq : ps.toList.mapM (fun p => (some (p.1 * P.cellsOf e, P.cellsOf e)).map fun q => (q.1, q.2, p.2)) = some qs) (hr : opdP P qs = some rs) (fx : ∀ p ∈ ps.toList, Fit P τ γ R T ρ p.2)
    (h : pev (.build z rs) T = some v) : Does P τ γ R ρ w ⟨dst, .build t ps, ty, pos, af, gd⟩ v := by
  simp only [pev, orec_bind, Option.bind_eq_some_iff, Option.some.injEq] at h
  obtain ⟨cs, hc, rfl⟩ := h
  obtain ⟨i, zv, hi, hzv, hzc, hzo, hzl⟩ := cellsZ_spec (τ := τ) (γ := γ) (R := R) hz
  have := fill_sound (τ := τ) (fun i => some (i * P.cellsOf e, P.cellsOf e)) ps.toList qs rs z cs hq hr fx hzo hc
  refine ⟨?_, by simpa [okv] using this.2.1⟩
  obtain ⟨ps⟩ := ps
  simp only [execOp, Instr.build, Sem.run_bind, run_zeroValue hi hzv, Result.andThen_ok, run_underlying hd, hzc, run_sizeOf' he, ← cellsOf_info he]
  have l : (Array.map (fun x : Nat × Operand => (x.fst, ρ x.snd)) ⟨ps⟩).toList = ps.map fun p => (p.1, ρ p.2) := by simp
  have t1 := this.1
  simp only at t1
  rw [l, t1]
  simp [conc]

/-! ## Slices of texts, slices and arrays -/

theorem bnd_some {b : Operand} {b' : X} {dflt most n : Nat} (fb : Fit P τ γ R T ρ b) (hb : opd P b = some b') (h : bnd (some b') T dflt most = some n) :
    ∃ k, ρ b = .int k (n : Int) ∧ n ≤ most := by
  simp only [bnd] at h
  split at h
  · rename_i k m hv
    have f := fb b' hb
    rw [hv] at f
    simp only [natble_eq, brec_eq, decide_eq_true_eq] at h
    split at h
    · rename_i hle
      simp only [Option.some.injEq] at h
      subst h
      exact ⟨k, by simpa [conc] using f.1, hle⟩
    · simp at h
  · simp at h

theorem run_bound {k : IntKind} {n most : Nat} (h : n ≤ most) (c : BoundsCode) : (Instr.sliceBound (.int k (n : Int)) most c).run P w = .ok n w := by
  simp [Instr.sliceBound, asIntOf]
  omega

/-- The bounds of a slice expression. -/
theorem bounds_sound {isS : Bool} {lo hi mx : Option Operand} {lo' hi' mx' : Option X} {len cap c l h m : Nat} (flo : ∀ x, lo = some x → Fit P τ γ R T ρ x) (fhi : ∀ x, hi = some x → Fit P τ γ R T ρ x)
    (fmx : ∀ x, mx = some x → Fit P τ γ R T ρ x) (hlo : opdO P lo = some lo') (hhi : opdO P hi = some hi') (hmx : opdO P mx = some mx') (hc : c ≤ cap) (hlc : len ≤ c)
    (hm : (mx' = none ∧ m = cap ∧ bnd hi' T len c = some h) ∨ (∃ y, mx' = some y ∧ hi' ≠ none ∧ bnd (some y) T c c = some m ∧ bnd hi' T len m = some h)) (hl : bnd lo' T 0 h = some l) :
    (Instr.sliceBounds isS len cap (lo.map ρ) (hi.map ρ) (mx.map ρ)).run P w = .ok (l, h, m) w ∧ l ≤ h ∧ h ≤ m ∧ (mx' = none → h ≤ c) ∧ (mx' ≠ none → m ≤ c) := by
  have low : ∀ (cd : BoundsCode), (match lo.map ρ with | some v => do let l ← Instr.sliceBound v h cd; pure (l, h, m) | none => do let l ← (pure 0 : Sem Nat); pure (l, h, m)).run P w = .ok (l, h, m) w ∧ l ≤ h := by
    intro cd
    cases lo with
    | none => simp only [opdO, Option.some.injEq] at hlo; subst hlo; simp [bnd] at hl; subst hl; simp
    | some x =>
      simp only [opdO, Option.map_eq_some_iff] at hlo
      obtain ⟨x', hx', rfl⟩ := hlo
      obtain ⟨k, hk, hle⟩ := bnd_some (flo x rfl) hx' hl
      simp only [Option.map_some, hk, Sem.run_bind, run_bound hle]
      exact ⟨rfl, hle⟩
  rcases hm with ⟨rfl, rfl, hh⟩ | ⟨y, rfl, hne, hmm, hh⟩
  · cases mx with
    | some x => simp [opdO] at hmx
    | none =>
      cases hi with
      | none =>
        simp only [opdO, Option.some.injEq] at hhi
        subst hhi
        simp only [bnd, Option.some.injEq] at hh
        subst hh
        refine ⟨?_, (low .sliceB).2, by omega, fun _ => hlc, by simp⟩
        simp only [Instr.sliceBounds, Option.map_none, Sem.run_bind, Sem.run_pure, Result.andThen_ok, Option.isSome_none, Bool.false_eq_true, if_false]
        exact (low .sliceB).1
      | some x =>
        simp only [opdO, Option.map_eq_some_iff] at hhi
        obtain ⟨x', hx', rfl⟩ := hhi
        obtain ⟨k, hk, hle⟩ := bnd_some (fhi x rfl) hx' hh
        refine ⟨?_, (low .sliceB).2, by omega, fun _ => hle, by simp⟩
        simp only [Instr.sliceBounds, Option.map_none, Option.map_some, hk, Sem.run_bind, Sem.run_pure, Result.andThen_ok, run_bound (Nat.le_trans hle hc), Option.isSome_none, Bool.false_eq_true, if_false]
        exact (low .sliceB).1
  · cases mx with
    | none => simp [opdO] at hmx
    | some z =>
      simp only [opdO, Option.map_eq_some_iff, Option.some.injEq] at hmx
      obtain ⟨z', hz', rfl⟩ := hmx
      obtain ⟨k, hk, hle⟩ := bnd_some (fmx z rfl) hz' hmm
      cases hi with
      | none => simp only [opdO, Option.some.injEq] at hhi; exact absurd hhi.symm hne
      | some x =>
        simp only [opdO, Option.map_eq_some_iff] at hhi
        obtain ⟨x', hx', rfl⟩ := hhi
        obtain ⟨k', hk', hle'⟩ := bnd_some (fhi x rfl) hx' hh
        refine ⟨?_, (low .slice3C).2, hle', by simp, fun _ => hle⟩
        simp only [Instr.sliceBounds, Option.map_some, hk, hk', Sem.run_bind, Result.andThen_ok, run_bound (Nat.le_trans hle hc), run_bound hle', Option.isSome_some, if_true]
        exact (low .slice3C).1

theorem run_slice_str {t : TypeId} {s : List Nat} {lo hi : Option Value} {l h : Nat} (ht : P.underlying t = some .string) (hb : (Instr.sliceBounds false s.length s.length lo hi none).run P w = .ok (l, h, s.length) w) :
    (Instr.sliceAt t (.string (strV s)) lo hi none).run P w = .ok (.string (strV ((s.drop l).take (h - l)))) w := by
  simp only [Instr.sliceAt, Sem.run_bind, run_underlying ht, Result.andThen_ok, Instr.slice, strV_size, Option.isSome_none, Bool.false_eq_true, if_false, Sem.run_pure]
  rw [hb]
  simp only [Result.andThen_ok]
  congr 2
  apply ByteArray.ext
  simp [strV, bytesB, ByteArray.extract_mk, List.map_drop, List.map_take]

theorem p_slStr {t : TypeId} {x : Operand} {lo hi : Option Operand} {x' : X} {lo' hi' : Option X} {v : AV} (ht : P.underlying t = some .string) (fx : Fit P τ γ R T ρ x) (hx : opd P x = some x')
    (flo : ∀ x, lo = some x → Fit P τ γ R T ρ x) (fhi : ∀ x, hi = some x → Fit P τ γ R T ρ x) (hlo : opdO P lo = some lo') (hhi : opdO P hi = some hi') (h : pev (.slStr x' lo' hi') T = some v) :
    Does P τ γ R ρ w ⟨dst, .slice t x lo hi none, ty, pos, af, gd⟩ v := by
  have x1 := fx x' hx
  simp only [pev] at h
  split at h
  · rename_i s hs
    rw [hs] at x1
    simp only [sliceStr, orec_bind, Option.bind_eq_some_iff, lenL_eq, dropL_eq, takeL_eq, Option.some.injEq] at h
    obtain ⟨hh, h1, l, h2, r, h3, rfl⟩ := h
    split at h3
    · simp only [Option.some.injEq] at h3
      subst h3
      have hb := bounds_sound (w := w) (isS := false) (mx := none) (mx' := none) (len := s.length) (cap := s.length) (c := s.length) (m := s.length) flo fhi (by simp) hlo hhi rfl (Nat.le_refl _) (Nat.le_refl _) (.inl ⟨rfl, rfl, h1⟩) h2
      refine ⟨?_, ?_⟩
      · simp only [execOp, Sem.run_bind, x1.1, conc, Option.map_none]
        have := run_slice_str (w := w) ht hb.1
        simp only [Nat.sub_eq]
        rw [this]
        rfl
      · have : ∀ b ∈ s, b < 256 := by simpa [okv] using x1.2
        simp only [okv]
        exact fun b hb => this b (List.mem_of_mem_drop (List.mem_of_mem_take hb))
    · simp at h3
  · simp at h

/-- What a slice of a slice, or of an array, is. -/
theorem sliceV_sound {b o q n c : Nat} {x : Bool} {z : Nat} {lo hi mx : Option Operand} {lo' hi' mx' : Option X} {v : AV} (ho : okv γ R (.slc b o q n c x z)) (isS : Bool) (hA : isS = false → x = false ∧ q = o)
    (flo : ∀ x, lo = some x → Fit P τ γ R T ρ x) (fhi : ∀ x, hi = some x → Fit P τ γ R T ρ x) (fmx : ∀ x, mx = some x → Fit P τ γ R T ρ x)
    (hlo : opdO P lo = some lo') (hhi : opdO P hi = some hi') (hmx : opdO P mx = some mx') (h : sliceV b o q n c x z lo' hi' mx' T = some v) :
    ∃ l hh m, (Instr.sliceBounds isS n (if x = true then ((γ b).lim - o) / z else c) (lo.map ρ) (hi.map ρ) (mx.map ρ)).run P w = .ok (l, hh, m) w ∧
      conc τ γ v = .slice (some (if m = l then ⟨(γ b).blk, (γ b).base + (if (γ b).lim = o then q else o), none⟩ else (⟨(γ b).blk, (γ b).base + (if (γ b).lim = o then q else o), none⟩ : Addr).add (l * z))) (hh - l) (m - l) ∧ okv γ R v := by
  obtain ⟨hR, hnc, hlim, hz, hdv⟩ : R b ∧ n ≤ c ∧ o + c * z ≤ (γ b).lim ∧ 0 < z ∧ (x = true → z ∣ (γ b).lim - o) := by simpa [okv] using ho
  have hcap : c ≤ (if x = true then ((γ b).lim - o) / z else c) := by
    split
    · rw [Nat.le_div_iff_mul_le hz]; omega
    · omega
  unfold sliceV at h
  cases mx' with
  | none =>
    simp only [orec_bind, Option.bind_eq_some_iff] at h
    obtain ⟨hh, h1, l, h2, h3⟩ := h
    have hb := bounds_sound (w := w) (isS := isS) (len := n) (cap := if x = true then ((γ b).lim - o) / z else c) (c := c) flo fhi fmx hlo hhi hmx hcap hnc (.inl ⟨rfl, rfl, h1⟩) h2
    refine ⟨l, hh, _, hb.1, ?_⟩
    have hhc := hb.2.2.2.1 rfl
    have hlh := hb.2.1
    cases l with
    | zero =>
      have h3 := Option.some.inj h3
      subst h3
      refine ⟨?_, by simp only [okv]; exact ⟨hR, hhc, hlim, hz, hdv⟩⟩
      simp only [conc, addr_add]
      simp
    | succ l =>
      have hcp : 0 < c := by omega
      have hne : (γ b).lim ≠ o := by
        have : 1 * z ≤ c * z := Nat.mul_le_mul_right _ hcp
        omega
      simp only [Nat.succ_eq_add_one, bnot_eq, natbeq_eq, band_eq, brec_eq, Bool.and_eq_true, Bool.not_eq_eq_eq_not, Bool.not_true, decide_eq_true_eq] at h3
      split at h3
      · rename_i hxl
        obtain ⟨rfl, rfl⟩ := hxl
        simp only [Option.some.injEq] at h3
        subst h3
        refine ⟨?_, by simp only [okv]; exact ⟨hR, by omega, by omega, hz, by simp⟩⟩
        simp only [conc, hne, if_false, Bool.false_eq_true]
        have : hh = l + 1 := by omega
        simp [this]
      · rename_i hxl
        simp only [Option.some.injEq] at h3
        subst h3
        have hmul : (l + 1) * z + (c - (l + 1)) * z = c * z := by rw [← Nat.add_mul]; congr 1; omega
        have hdv' : x = true → z ∣ (γ b).lim - (o + (l + 1) * z) := fun hx => by
          rw [← Nat.sub_sub]
          exact Nat.dvd_sub (hdv hx) (Nat.dvd_mul_left z (l + 1))
        refine ⟨?_, by simp only [okv, Nat.sub_eq, Nat.add_eq, Nat.mul_eq]; exact ⟨hR, by omega, by omega, hz, hdv'⟩⟩
        simp only [conc, hne, if_false, addr_add, Nat.add_eq, Nat.mul_eq, Nat.sub_eq]
        cases x with
        | false =>
          have : ¬ c = l + 1 := fun e => hxl ⟨rfl, e.symm⟩
          have hlt : l + 1 < c := by omega
          have hpos : 0 < (c - (l + 1)) * z := Nat.mul_pos (by omega) hz
          have hne2 : ¬ (γ b).lim = o + (l + 1) * z := by omega
          simp [this, hne2, Nat.add_assoc]
        | true =>
          simp only [if_true]
          have hdiv : ((γ b).lim - (o + (l + 1) * z)) / z = ((γ b).lim - o) / z - (l + 1) := by
            rw [← Nat.sub_sub, Nat.mul_comm (l + 1) z, Nat.sub_mul_div]
          rw [hdiv]
          by_cases e : ((γ b).lim - o) / z = l + 1
          · simp only [e, if_true]
            by_cases e2 : (γ b).lim = o + (l + 1) * z
            · simp [e2]
            · exfalso
              obtain ⟨k, hk⟩ := hdv rfl
              rw [hk, Nat.mul_div_cancel_left _ hz] at e
              subst e
              apply e2
              have : o ≤ (γ b).lim := by omega
              rw [Nat.mul_comm]
              omega
          · have e2 : ¬ (γ b).lim = o + (l + 1) * z := by
              intro e2
              apply e
              rw [e2, Nat.add_sub_cancel_left, Nat.mul_div_cancel _ hz]
            simp [e, e2, Nat.add_assoc]
  | some mxx =>
    cases hi' with
    | none => simp at h
    | some hi'' =>
    simp only [orec_bind, Option.bind_eq_some_iff] at h
    obtain ⟨m, h0, hh, h1, l, h2, h3⟩ := h
    have hb := bounds_sound (w := w) (isS := isS) (len := n) (cap := if x = true then ((γ b).lim - o) / z else c) (c := c) flo fhi fmx hlo hhi hmx hcap hnc (.inr ⟨mxx, rfl, by simp, h0, h1⟩) h2
    refine ⟨l, hh, _, hb.1, ?_⟩
    have hmc := hb.2.2.2.2 (by simp)
    have hlh := hb.2.1
    have hhm := hb.2.2.1
    have hmz : m * z ≤ c * z := Nat.mul_le_mul_right _ hmc
    cases l with
    | zero =>
      have h3 := Option.some.inj h3
      subst h3
      refine ⟨?_, by simp only [okv]; exact ⟨hR, hhm, by omega, hz, by simp⟩⟩
      simp only [conc, addr_add]
      simp
    | succ l =>
      have hcp : 0 < c := by omega
      have hne : (γ b).lim ≠ o := by
        have : 1 * z ≤ c * z := Nat.mul_le_mul_right _ hcp
        omega
      simp only [Nat.succ_eq_add_one, natbeq_eq, brec_eq, decide_eq_true_eq] at h3
      split at h3
      · rename_i hxl
        subst hxl
        simp only [Option.some.injEq] at h3
        subst h3
        refine ⟨?_, by simp only [okv]; exact ⟨hR, by omega, by omega, hz, by simp⟩⟩
        simp only [conc, hne, if_false, Bool.false_eq_true]
        have : hh = l + 1 := by omega
        simp [this]
      · rename_i hxl
        simp only [Option.some.injEq] at h3
        subst h3
        have hmul : (l + 1) * z + (m - (l + 1)) * z = m * z := by rw [← Nat.add_mul]; congr 1; omega
        refine ⟨?_, by simp only [okv, Nat.sub_eq, Nat.add_eq, Nat.mul_eq]; exact ⟨hR, by omega, by omega, hz, by simp⟩⟩
        simp only [conc, hne, if_false, addr_add, Nat.add_eq, Nat.mul_eq, Nat.sub_eq]
        have hlt : l + 1 < m := by omega
        have hpos : 0 < (m - (l + 1)) * z := Nat.mul_pos (by omega) hz
        have hne2 : ¬ (γ b).lim = o + (l + 1) * z := by omega
        have : ¬ m = l + 1 := by omega
        simp [this, hne2, Nat.add_assoc]

theorem p_slV {t e : TypeId} {x : Operand} {lo hi mx : Option Operand} {x' : X} {lo' hi' mx' : Option X} {v : AV} (ht : P.underlying t = some (.slice e)) (hz : P.cellsOf e ≠ 0) (fx : Fit P τ γ R T ρ x) (hx : opd P x = some x')
    (flo : ∀ x, lo = some x → Fit P τ γ R T ρ x) (fhi : ∀ x, hi = some x → Fit P τ γ R T ρ x) (fmx : ∀ x, mx = some x → Fit P τ γ R T ρ x)
    (hlo : opdO P lo = some lo') (hhi : opdO P hi = some hi') (hmx : opdO P mx = some mx') (h : pev (.slV (P.cellsOf e) x' lo' hi' mx') T = some v) :
    Does P τ γ R ρ w ⟨dst, .slice t x lo hi mx, ty, pos, af, gd⟩ v := by
  have x1 := fx x' hx
  simp only [pev] at h
  split at h
  · rename_i b o q n c y u hs
    rw [hs] at x1
    simp only [natbeq_eq, brec_eq, decide_eq_true_eq] at h
    split at h
    · rename_i hu
      subst hu
      obtain ⟨l, hh, m, hb, hc, ho⟩ := sliceV_sound (w := w) x1.2 true (by simp) flo fhi fmx hlo hhi hmx h
      refine ⟨?_, ho⟩
      simp only [execOp, Sem.run_bind, x1.1, Instr.sliceAt, run_underlying ht, Result.andThen_ok, Instr.slice, conc]
      rw [hb]
      simp only [Result.andThen_ok, run_sizeOf_cells hz, Sem.run_pure, hc]
      split <;> rfl
    · simp at h
  · rename_i hs
    rw [hs] at x1
    have hb : v = .nils ∧ ∃ l hh m, (Instr.sliceBounds true 0 0 (lo.map ρ) (hi.map ρ) (mx.map ρ)).run P w = .ok (l, hh, m) w ∧ l ≤ hh ∧ hh ≤ m ∧ m = 0 := by
      unfold sliceN at h
      cases mx' with
      | none =>
        simp only [orec_bind, Option.bind_eq_some_iff, Option.some.injEq] at h
        obtain ⟨hh, h1, l, h2, rfl⟩ := h
        have hb := bounds_sound (w := w) (isS := true) (len := 0) (cap := 0) (c := 0) (m := 0) flo fhi fmx hlo hhi hmx (Nat.le_refl _) (Nat.le_refl _) (.inl ⟨rfl, rfl, h1⟩) h2
        exact ⟨rfl, l, hh, 0, hb.1, hb.2.1, hb.2.2.1, rfl⟩
      | some y => cases hi' with
        | none => simp at h
        | some z =>
          simp only [orec_bind, Option.bind_eq_some_iff, Option.some.injEq] at h
          obtain ⟨m, h0, hh, h1, l, h2, rfl⟩ := h
          have hb := bounds_sound (w := w) (isS := true) (len := 0) (cap := 0) (c := 0) (m := m) flo fhi fmx hlo hhi hmx (Nat.le_refl _) (Nat.le_refl _) (.inr ⟨y, rfl, by simp, h0, h1⟩) h2
          exact ⟨rfl, l, hh, m, hb.1, hb.2.1, hb.2.2.1, by have := hb.2.2.2.2 (by simp); omega⟩
    obtain ⟨rfl, l, hh, m, hb, h1, h2, h3⟩ := hb
    obtain rfl : m = 0 := h3
    obtain rfl : hh = 0 := by omega
    obtain rfl : l = 0 := by omega
    refine ⟨?_, by simp [okv]⟩
    simp only [execOp, Sem.run_bind, x1.1, Instr.sliceAt, run_underlying ht, Result.andThen_ok, Instr.slice, conc]
    rw [hb]
    simp [run_sizeOf_cells hz]
  · simp at h

theorem q_slA {t e : TypeId} {x : Operand} {N : Nat} {lo hi mx : Option Operand} {x' : X} {lo' hi' mx' : Option X} {v : AV} {H : Tr AObj} {nx : Nat} (hR : Rel P τ γ R H nx w) (ht : P.underlying t = some (.array N e)) (hz : P.cellsOf e ≠ 0)
    (fx : Fit P τ γ R T ρ x) (hx : opd P x = some x')
    (flo : ∀ x, lo = some x → Fit P τ γ R T ρ x) (fhi : ∀ x, hi = some x → Fit P τ γ R T ρ x) (fmx : ∀ x, mx = some x → Fit P τ γ R T ρ x)
    (hlo : opdO P lo = some lo') (hhi : opdO P hi = some hi') (hmx : opdO P mx = some mx') (h : rev (.slA N (P.cellsOf e) x' lo' hi' mx') T H = some v) :
    Does P τ γ R ρ w ⟨dst, .slice t x lo hi mx, ty, pos, af, gd⟩ v := by
  have x1 := fx x' hx
  simp only [rev] at h
  split at h
  · rename_i b o hs
    rw [hs] at x1
    have hb : R b := by simpa [okv] using x1.2
    split at h
    · rename_i e' cs fz ro hg
      simp only [natble_eq, lenL_eq, brec_eq, decide_eq_true_eq] at h
      split at h
      · rename_i hle
        obtain ⟨ob, _, hr⟩ := hR.obj b _ hb hg
        have hlim : cs.length ≤ (γ b).lim := by cases hr; assumption
        have ho' : okv γ R (.slc b o o N N false (P.cellsOf e)) := by
          simp only [okv]
          exact ⟨hb, Nat.le_refl _, Nat.le_trans hle hlim, by omega, by simp⟩
        obtain ⟨l, hh, m, hb, hc, ho⟩ := sliceV_sound (w := w) ho' false (by simp) flo fhi fmx hlo hhi hmx h
        refine ⟨?_, ho⟩
        simp only [Bool.false_eq_true, if_false] at hb
        simp only [execOp, Sem.run_bind, x1.1, Instr.sliceAt, run_underlying ht, Result.andThen_ok, conc, Instr.sureAddr, Sem.run_pure]
        rw [hb]
        simp only [Result.andThen_ok, run_sizeOf_cells hz, hc, ite_self]
      · simp at h
    · simp at h
  · simp at h

theorem nilOf_spec {k : Nat} {x : Operand} {d : TypeDesc} {z : Value} (hk : nilKind d = some (k, z)) (h : isNilOf k x = true) : x = .const z := by
  cases d <;> simp only [nilKind, Option.some.injEq, Prod.mk.injEq, reduceCtorEq] at hk <;> obtain ⟨rfl, rfl⟩ := hk <;>
    (unfold isNilOf at h; split at h <;> first | rfl | simp at h)

/-- A value of a kind against nil. -/
theorem nil_sound {t : TypeId} {d : TypeDesc} {k : Nat} {z : Value} {v : AV} {r : Bool} (hd : P.underlying t = some d) (hk : nilKind d = some (k, z)) (h : isNil k v = some r) :
    (Op.equal t (conc τ γ v) z).run P w = .ok r w ∧ (Op.equal t z (conc τ γ v)).run P w = .ok r w := by
  cases d <;> simp only [nilKind, Option.some.injEq, Prod.mk.injEq, reduceCtorEq] at hk <;> obtain ⟨rfl, rfl⟩ := hk <;>
    (unfold isNil at h; split at h) <;> simp only [Option.some.injEq, reduceCtorEq] at h <;> first
      | (rename_i e1; exact absurd e1 (by decide))
      | skip
  all_goals
    subst h
    constructor
    all_goals
      show (Op.equalIn (9999 + 1) t _ _).run P w = _
      generalize (9999 : Nat) = n
      simp [Op.equalIn, run_underlying hd, conc]

theorem p_isnil {k : Nat} {neg : Bool} {t u : TypeId} {d : TypeDesc} {z : Value} {x y : Operand} {x' : X} {v : AV} (hd : P.underlying t = some d) (hk : nilKind d = some (k, z)) (fx : Fit P τ γ R T ρ x) (hx : opd P x = some x')
    (hy : isNilOf k y = true) (hρ : ∀ z, ρ (.const z) = z) (h : pev (.isnil k neg x') T = some v) :
    Does P τ γ R ρ w ⟨dst, .binOp (if neg = true then .neq else .eql) t x y u, ty, pos, af, gd⟩ v ∧ Does P τ γ R ρ w ⟨dst, .binOp (if neg = true then .neq else .eql) t y x u, ty, pos, af, gd⟩ v := by
  have x1 := fx x' hx
  simp only [pev, orec_bind, Option.bind_eq_some_iff, brec_eq, bnot_eq, Option.some.injEq] at h
  obtain ⟨r, hr, rfl⟩ := h
  have hy' := nilOf_spec hk hy
  subst hy'
  have hn := nil_sound (P := P) (τ := τ) (γ := γ) (w := w) hd hk hr
  have g1 : (eqGuard (if neg = true then .neq else .eql) t x (.const z) (conc τ γ (ev x' T)) z).run P w = .ok () w := by
    unfold eqGuard
    cases d <;> simp only [nilKind, Option.some.injEq, Prod.mk.injEq, reduceCtorEq] at hk <;> obtain ⟨rfl, rfl⟩ := hk <;> cases neg <;> (cases hv : conc τ γ (ev x' T) <;> simp)
  have g2 : (eqGuard (if neg = true then .neq else .eql) t (.const z) x z (conc τ γ (ev x' T))).run P w = .ok () w := by
    unfold eqGuard
    cases d <;> simp only [nilKind, Option.some.injEq, Prod.mk.injEq, reduceCtorEq] at hk <;> obtain ⟨rfl, rfl⟩ := hk <;> cases neg <;> (cases hv : conc τ γ (ev x' T) <;> simp)
  have b1 : (binOp (if neg = true then .neq else .eql) t (conc τ γ (ev x' T)) z).run P w = .ok (.bool (if neg = true then !r else r)) w := by
    have e1 : binOp .eql t (conc τ γ (ev x' T)) z = (do let r ← Op.equal t (conc τ γ (ev x' T)) z; pure (.bool r)) := by
      cases d <;> simp only [nilKind, Option.some.injEq, Prod.mk.injEq, reduceCtorEq] at hk <;> obtain ⟨rfl, rfl⟩ := hk <;>
        (cases hv : ev x' T <;> rw [hv] at hr <;> simp only [isNil, reduceCtorEq] at hr <;> rfl)
    have e2 : binOp .neq t (conc τ γ (ev x' T)) z = (do let r ← Op.equal t (conc τ γ (ev x' T)) z; pure (.bool !r)) := by
      cases d <;> simp only [nilKind, Option.some.injEq, Prod.mk.injEq, reduceCtorEq] at hk <;> obtain ⟨rfl, rfl⟩ := hk <;>
        (cases hv : ev x' T <;> rw [hv] at hr <;> simp only [isNil, reduceCtorEq] at hr <;> rfl)
    cases neg
    · simp only [Bool.false_eq_true, if_false, e1, Sem.run_bind, hn.1, Result.andThen_ok, Sem.run_pure]
    · simp only [if_true, e2, Sem.run_bind, hn.1, Result.andThen_ok, Sem.run_pure]
  have b2 : (binOp (if neg = true then .neq else .eql) t z (conc τ γ (ev x' T))).run P w = .ok (.bool (if neg = true then !r else r)) w := by
    have e1 : binOp .eql t z (conc τ γ (ev x' T)) = (do let r ← Op.equal t z (conc τ γ (ev x' T)); pure (.bool r)) := by
      cases d <;> simp only [nilKind, Option.some.injEq, Prod.mk.injEq, reduceCtorEq] at hk <;> obtain ⟨rfl, rfl⟩ := hk <;>
        (cases hv : ev x' T <;> rw [hv] at hr <;> simp only [isNil, reduceCtorEq] at hr <;> rfl)
    have e2 : binOp .neq t z (conc τ γ (ev x' T)) = (do let r ← Op.equal t z (conc τ γ (ev x' T)); pure (.bool !r)) := by
      cases d <;> simp only [nilKind, Option.some.injEq, Prod.mk.injEq, reduceCtorEq] at hk <;> obtain ⟨rfl, rfl⟩ := hk <;>
        (cases hv : ev x' T <;> rw [hv] at hr <;> simp only [isNil, reduceCtorEq] at hr <;> rfl)
    cases neg
    · simp only [Bool.false_eq_true, if_false, e1, Sem.run_bind, hn.2, Result.andThen_ok, Sem.run_pure]
    · simp only [if_true, e2, Sem.run_bind, hn.2, Result.andThen_ok, Sem.run_pure]
  refine ⟨⟨?_, by simp [okv]⟩, ⟨?_, by simp [okv]⟩⟩
  · simp only [execOp, Sem.run_bind, x1.1, hρ, g1, Result.andThen_ok, b1]
    simp [conc]
  · simp only [execOp, Sem.run_bind, x1.1, hρ, g2, Result.andThen_ok, b2]
    simp [conc]
end
end Go.Ax
