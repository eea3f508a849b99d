/- What the abstract machine's states say of the machine's. -/
import Derived.Test.YtbhjokfopgbmiaaGreatDoorAxComp
import Derived.Recover
import Derived.Laws.StructEq
import Derived.Laws.Cells
import Derived.Laws.Rows
import Derived.Laws.Slices
import Derived.Laws.Strings3
namespace Go.Ax
open Go

/-! ## Trees and lists -/

@[simp] theorem Tr.get_e {α : Type} (p : P1) : Tr.get p (.e : Tr α) = none := by cases p <;> rfl

theorem Tr.get_set {α : Type} (v : Option α) : ∀ (p q : P1) (t : Tr α), Tr.get q (Tr.set p v t) = if q = p then v else Tr.get q t := by
  intro p
  induction p with
  | e =>
    intro q t
    cases q with
    | e => cases t <;> rfl
    | l q => cases t with
      | e => show Tr.get q (.e : Tr α) = _; simp
      | n a b c => show Tr.get q a = _; simp [Tr.get]
    | r q => cases t with
      | e => show Tr.get q (.e : Tr α) = _; simp
      | n a b c => show Tr.get q c = _; simp [Tr.get]
  | l p ih =>
    intro q t
    cases q with
    | e => cases t <;> simp [Tr.set, Tr.get]
    | l q => cases t with
      | e => show Tr.get q (Tr.set p v .e) = _; rw [ih]; simp
      | n a b c => show Tr.get q (Tr.set p v a) = _; rw [ih]; simp [Tr.get]
    | r q => cases t with
      | e => show Tr.get q (.e : Tr α) = _; simp
      | n a b c => show Tr.get q c = _; simp [Tr.get]
  | r p ih =>
    intro q t
    cases q with
    | e => cases t <;> simp [Tr.set, Tr.get]
    | r q => cases t with
      | e => show Tr.get q (Tr.set p v .e) = _; rw [ih]; simp
      | n a b c => show Tr.get q (Tr.set p v c) = _; rw [ih]; simp [Tr.get]
    | l q => cases t with
      | e => show Tr.get q (.e : Tr α) = _; simp
      | n a b c => show Tr.get q a = _; simp [Tr.get]

theorem pnum_pathF : ∀ f n, n ≤ f → pnum (pathF f n) = n := by
  intro f
  induction f with
  | zero => intro n h; have : n = 0 := by omega
            subst this; rfl
  | succ f ih =>
    intro n h
    cases n with
    | zero => rfl
    | succ m =>
      simp only [pathF]
      split
      · simp only [pnum]; rw [ih _ (by omega)]; omega
      · simp only [pnum]; rw [ih _ (by omega)]; omega
@[simp] theorem pnum_path (n : Nat) : pnum (path n) = n := pnum_pathF n n (Nat.le_refl _)
theorem path_inj {m n : Nat} (h : path m = path n) : m = n := by have := congrArg pnum h; simpa using this

theorem hget_hset (H : Tr AObj) (l m : Nat) (o : AObj) : hget (hset H l o) m = if m = l then some o else hget H m := by
  unfold hget hset
  rw [Tr.get_set, pathR_eq, pathR_eq]
  by_cases h : m = l
  · simp [h]
  · have : path m ≠ path l := fun e => h (path_inj e)
    simp [h, this]
theorem hget_hdel (H : Tr AObj) (l m : Nat) : hget (hdel H l) m = if m = l then none else hget H m := by
  unfold hget hdel
  rw [Tr.get_set, pathR_eq, pathR_eq]
  by_cases h : m = l
  · simp [h]
  · have : path m ≠ path l := fun e => h (path_inj e)
    simp [h, this]

section lists
variable {α : Type}
@[simp] theorem getL_eq : ∀ (l : List α) (n : Nat), getL l n = l[n]? := by
  intro l
  induction l with
  | nil => intro n; rfl
  | cons x xs ih => intro n; cases n with
    | zero => rfl
    | succ n => show getL xs n = _; rw [ih]; simp
@[simp] theorem dropL_eq : ∀ (n : Nat) (l : List α), dropL n l = l.drop n := by
  intro n
  induction n with
  | zero => intro l; rfl
  | succ n ih => intro l; cases l with
    | nil => rfl
    | cons x xs => show dropL n xs = _; rw [ih]; simp
theorem takeL_eq : ∀ (n : Nat) (l : List α), takeL n l = if n ≤ l.length then some (l.take n) else none := by
  intro n
  induction n with
  | zero => intro l; rfl
  | succ n ih => intro l; cases l with
    | nil => rfl
    | cons x xs =>
      show (Option.casesOn (takeL n xs) none fun ys => some (x :: ys) : Option (List α)) = _
      rw [ih]
      by_cases h : n ≤ xs.length
      · simp [h]
      · simp [h]
@[simp] theorem appL_eq (a b : List α) : appL a b = a ++ b := by
  induction a with
  | nil => rfl
  | cons x xs ih => show x :: appL xs b = _; rw [ih]; rfl
@[simp] theorem lenL_eq (a : List α) : lenL a = a.length := by
  induction a with
  | nil => rfl
  | cons x xs ih => show Nat.succ (lenL xs) = _; rw [ih]; rfl
@[simp] theorem mapL_eq {β : Type} (f : α → β) (l : List α) : mapL f l = l.map f := by
  induction l with
  | nil => rfl
  | cons x xs ih => show f x :: mapL f xs = _; rw [ih]; rfl
theorem overL_eq (vs : List α) : ∀ (n : Nat) (l : List α), overL vs n l = if n + vs.length ≤ l.length then some (l.take n ++ vs ++ l.drop (n + vs.length)) else none := by
  intro n
  induction n with
  | zero =>
    induction vs with
    | nil => intro l; show some l = _; simp
    | cons v vs ih => intro l; cases l with
      | nil => rfl
      | cons x xs =>
        show (Option.casesOn (overL vs 0 xs) none fun ys => some (v :: ys) : Option (List α)) = _
        rw [ih]
        by_cases h : vs.length ≤ xs.length
        · simp [h]
        · simp [h]
  | succ n ih => intro l; cases l with
    | nil => show none = _; simp
    | cons x xs =>
      show (Option.casesOn (overL vs n xs) none fun ys => some (x :: ys) : Option (List α)) = _
      rw [ih]
      by_cases h : n + vs.length ≤ xs.length
      · have h2 : n + 1 + vs.length ≤ xs.length + 1 := by omega
        have h3 : n + 1 + vs.length = n + vs.length + 1 := by omega
        simp [h, h3]
      · have h2 : ¬ n + 1 + vs.length ≤ xs.length + 1 := by omega
        simp [h, h2]
@[simp] theorem setL_eq : ∀ (l : List α) (n : Nat) (v : α), setL l n v = l.set n v := by
  intro l
  induction l with
  | nil => intro n v; rfl
  | cons x xs ih => intro n v; cases n with
    | zero => rfl
    | succ n => show x :: setL xs n v = _; rw [ih]; simp
@[simp] theorem eraseL_eq : ∀ (l : List α) (n : Nat), eraseL l n = l.eraseIdx n := by
  intro l
  induction l with
  | nil => intro n; rfl
  | cons x xs ih => intro n; cases n with
    | zero => rfl
    | succ n => show x :: eraseL xs n = _; rw [ih]; simp
end lists

@[simp] theorem bnot_eq (b : Bool) : bnot b = !b := by cases b <;> rfl
@[simp] theorem band_eq (a b : Bool) : band a b = (a && b) := by cases a <;> rfl
@[simp] theorem brec_eq {α : Sort _} (x y : α) (b : Bool) : (Bool.rec x y b : α) = if b = true then y else x := by cases b <;> rfl
@[simp] theorem orec_bind {α β : Type} (o : Option α) (f : α → Option β) : (Option.rec (motive := fun _ => Option β) none f o) = o.bind f := by cases o <;> rfl
@[simp] theorem natblt_eq (a b : Nat) : Nat.blt a b = decide (a < b) := by rw [Bool.eq_iff_iff]; simp [Nat.blt, Nat.lt_iff_add_one_le]
@[simp] theorem natble_eq (a b : Nat) : Nat.ble a b = decide (a ≤ b) := by rw [Bool.eq_iff_iff]; simp
@[simp] theorem natbeq_eq (a b : Nat) : Nat.beq a b = decide (a = b) := by rw [Bool.eq_iff_iff]; simp

/-! ## What values are -/

/-- Where a label lies: its block, its first cell there, how many cells the block has, how many from the first cell on are the label's. -/
structure G where
  blk : Nat
  base : Nat
  size : Nat
  lim : Nat

/-- A text's bytes; a text as the machine has it. -/
def bytesB (s : List Nat) : List UInt8 := s.map UInt8.ofNat
def strV (s : List Nat) : ByteArray := ⟨(bytesB s).toArray⟩

section
variable (τ : Nat → Int) (γ : Nat → G)

def concFn : Fn → Fn
  | .yield l => .yield (γ l).blk
  | f => f

mutual
def conc : AV → Value
  | .bool b => .bool b
  | .int k n => .int k n
  | .tok k i => .int k (τ i)
  | .str s => .string (strV s)
  | .ptr l o => .pointer (some ⟨(γ l).blk, (γ l).base + o, none⟩)
  | .nilp => .pointer none
  | .slc l o q n c x z => .slice (some ⟨(γ l).blk, (γ l).base + (if (γ l).lim = o then q else o), none⟩) n (if x = true then ((γ l).lim - o) / z else c)
  | .nils => .slice none 0 0
  | .map l => .map (some (γ l).blk)
  | .nilm => .map none
  | .fn f a b => .func (concFn γ f) (concL a).toArray (concL b).toArray
  | .nilf => .nilFunc
  | .ifc t v => .iface t (conc v)
  | .nili => .nilIface
  | .agg cs => .agg (concL cs).toArray
  | .tup vs => .tuple (concL vs).toArray
def concL : List AV → List Value
  | [] => []
  | v :: vs => conc v :: concL vs
end

variable (R : Nat → Prop)
mutual
def okv : AV → Prop
  | .str s => ∀ b ∈ s, b < 256
  | .ptr l _ => R l
  | .slc l o _ n c x z => R l ∧ n ≤ c ∧ o + c * z ≤ (γ l).lim ∧ 0 < z ∧ (x = true → z ∣ (γ l).lim - o)
  | .map l => R l
  | .fn f a b => (∀ l, f = .yield l → R l) ∧ okvL a ∧ okvL b
  | .ifc _ v => okv v
  | .agg cs => okvL cs
  | .tup vs => okvL vs
  | _ => True
def okvL : List AV → Prop
  | [] => True
  | v :: vs => okv v ∧ okvL vs
end
end

theorem concL_eq (τ : Nat → Int) (γ : Nat → G) (l : List AV) : concL τ γ l = l.map (conc τ γ) := by
  induction l with
  | nil => rfl
  | cons x xs ih => simp [concL, ih]
theorem okvL_iff (γ : Nat → G) (R : Nat → Prop) (l : List AV) : okvL γ R l ↔ ∀ v ∈ l, okv γ R v := by
  induction l with
  | nil => simp [okvL]
  | cons x xs ih => simp [okvL, ih]

/-- Labels that stay keep what values are. -/
theorem conc_agree {τ : Nat → Int} {γ γ' : Nat → G} {R R' : Nat → Prop} (h : ∀ l, R l → γ' l = γ l ∧ R' l) :
    ∀ v, okv γ R v → conc τ γ' v = conc τ γ v ∧ okv γ' R' v := by
  intro v
  induction v using AV.rec (motive_2 := fun l => okvL γ R l → concL τ γ' l = concL τ γ l ∧ okvL γ' R' l) with
  | bool b => intro _; simp [conc, okv]
  | int k n => intro _; simp [conc, okv]
  | tok k i => intro _; simp [conc, okv]
  | str s => intro ho; simp only [okv] at ho; exact ⟨by simp [conc], by simpa [okv] using ho⟩
  | ptr l o => intro ho; simp only [okv] at ho; obtain ⟨a, b⟩ := h l ho; simp [conc, okv, a, b]
  | nilp => intro _; simp [conc, okv]
  | slc l o q n c x z => intro ho; simp only [okv] at ho; obtain ⟨a, b⟩ := h l ho.1; simp only [conc, okv, a, b]; exact ⟨trivial, trivial, ho.2⟩
  | nils => intro _; simp [conc, okv]
  | map l => intro ho; simp only [okv] at ho; obtain ⟨a, b⟩ := h l ho; simp [conc, okv, a, b]
  | nilm => intro _; simp [conc, okv]
  | fn f a b iha ihb =>
    intro ho
    simp only [okv] at ho
    obtain ⟨h1, h2, h3⟩ := ho
    have ha := iha h2
    have hb := ihb h3
    refine ⟨?_, ?_⟩
    · simp only [conc, ha.1, hb.1]
      congr 1
      cases f <;> simp only [concFn]
      rw [(h _ (h1 _ rfl)).1]
    · simp only [okv]
      exact ⟨fun l hl => (h l (h1 l hl)).2, ha.2, hb.2⟩
  | nilf => intro _; simp [conc, okv]
  | ifc t v ih => intro ho; simp only [okv] at ho; have := ih ho; simp [conc, okv, this.1, this.2]
  | nili => intro _; simp [conc, okv]
  | agg cs ih => intro ho; simp only [okv] at ho; have := ih ho; simp [conc, okv, this.1, this.2]
  | tup cs ih => intro ho; simp only [okv] at ho; have := ih ho; simp [conc, okv, this.1, this.2]
  | nil => simp [concL, okvL]
  | cons x xs ih1 ih2 => rename_i ho; simp only [okvL] at ho; have a := ih1 ho.1; have b := ih2 ho.2; simp [concL, okvL, a.1, a.2, b.1, b.2]

theorem concL_agree {τ : Nat → Int} {γ γ' : Nat → G} {R R' : Nat → Prop} (h : ∀ l, R l → γ' l = γ l ∧ R' l) (l : List AV) (ho : okvL γ R l) :
    concL τ γ' l = concL τ γ l ∧ okvL γ' R' l := by
  rw [okvL_iff] at ho
  rw [concL_eq, concL_eq, okvL_iff]
  exact ⟨List.map_congr_left fun v hv => (conc_agree (τ := τ) h v (ho v hv)).1, fun v hv => (conc_agree (τ := τ) h v (ho v hv)).2⟩

/-! ## Constants -/

theorem toAV_sound (τ : Nat → Int) (γ : Nat → G) (R : Nat → Prop) : ∀ (n : Nat) (v : Value) (a : AV), toAV n v = some a → conc τ γ a = v ∧ okv γ R a := by
  intro n
  induction n with
  | zero => intro v a h; simp [toAV] at h
  | succ n ih =>
    have ihL : ∀ (vs : List Value) (as : List AV), vs.mapM (toAV n) = some as → concL τ γ as = vs ∧ okvL γ R as := by
      intro vs
      induction vs with
      | nil => intro as h; simp at h; subst h; simp [concL, okvL]
      | cons v vs ihv =>
        intro as h
        simp only [List.mapM_cons, Option.bind_eq_bind, Option.bind_eq_some_iff, Option.pure_def, Option.some.injEq] at h
        obtain ⟨a, ha, bs, hbs, rfl⟩ := h
        have h1 := ih v a ha
        have h2 := ihv bs hbs
        simp [concL, okvL, h1.1, h1.2, h2.1, h2.2]
    intro v a h
    unfold toAV at h
    split at h
    all_goals first
      | (simp at h; done)
      | (simp only [Option.some.injEq] at h; subst h; simp [conc, okv, concL, okvL, concFn]; done)
      | skip
    · rename_i s
      simp only [Option.some.injEq] at h
      subst h
      refine ⟨?_, ?_⟩
      · simp only [conc, strV, bytesB, List.map_map]
        congr 1
        obtain ⟨⟨l⟩⟩ := s
        congr 1
        simp [Function.comp_def]
      · simp only [okv, List.mem_map]
        rintro b ⟨x, _, rfl⟩
        exact x.toNat_lt
    all_goals
      simp only [Option.map_eq_some_iff] at h
      obtain ⟨b, hb, rfl⟩ := h
    · rename_i m t v hm
      obtain rfl : n = m := by omega
      have := ih _ _ hb
      simp [conc, okv, this.1, this.2]
    · rename_i m cs hm
      obtain rfl : n = m := by omega
      have := ihL _ _ hb
      simp [conc, okv, this.1, this.2]
    · rename_i m cs hm
      obtain rfl : n = m := by omega
      have := ihL _ _ hb
      simp [conc, okv, this.1, this.2]

end Go.Ax
