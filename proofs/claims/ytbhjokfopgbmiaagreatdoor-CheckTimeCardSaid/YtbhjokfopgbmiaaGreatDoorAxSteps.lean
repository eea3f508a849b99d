/- The machine's steps, for a frame of a function or of a round. -/
import Derived.Test.YtbhjokfopgbmiaaGreatDoorAxCongr
namespace Go.Ax
open Go

/-- A frame at a place. -/
def on (b : Frame) (tmps : Array Value) (ds : List Deferred) (todo : List Item) : Frame := { b with tmps := tmps, defers := ds, todo := todo, mode := .run }

def evalT (tmps : Array Value) : Operand → Value
  | .tmp t => tmps.getD t undef
  | .const v => v
  | .global g => .pointer (some ⟨g, 0, none⟩)
  | .func f => .func (.func f) #[] #[]

def putV (tmps : Array Value) (d : Option Tmp) (v : Value) : Array Value := match d with
  | some d => tmps.setIfInBounds d v
  | none => tmps

theorem eval_on (b : Frame) (tmps : Array Value) (ds : List Deferred) (todo : List Item) : (on b tmps ds todo).eval = evalT tmps := by
  funext x; cases x <;> rfl

theorem finish_on (b : Frame) (tmps : Array Value) (ds : List Deferred) (ops : Array Oper) (i : Nat) (rest : List Nat) (k : List Item) (v : Value) :
    (on b tmps ds (.inRegion ops (i :: rest) :: k)).finish v = on b (putV tmps ((ops[i]?).bind (·.dst)) v) ds (.inRegion ops rest :: k) := by
  cases h : (ops[i]?).bind (·.dst) <;> simp [Frame.finish, on, putV, h]

section moves
variable {P : Program} {b : Frame} {tmps : Array Value} {ds : List Deferred} {k : List Item} {cs : List Frame} {w : World}

theorem st_skip : step P (lone (on b tmps ds (.code .skip :: k)) cs w) = .next (lone (on b tmps ds k) cs w) := step_lone_go (by simp [stepG, stepG.exec, on])
theorem st_label {l : Nat} : step P (lone (on b tmps ds (.code (.label l) :: k)) cs w) = .next (lone (on b tmps ds k) cs w) := step_lone_go (by simp [stepG, stepG.exec, on])
theorem st_inBlock {id : Nat} : step P (lone (on b tmps ds (.inBlock id :: k)) cs w) = .next (lone (on b tmps ds k) cs w) := step_lone_go (by simp [stepG, stepG.exec, on])
theorem st_inScope {c : Code} : step P (lone (on b tmps ds (.inScope c :: k)) cs w) = .next (lone (on b tmps ds k) cs w) := step_lone_go (by simp [stepG, stepG.exec, on])
theorem st_seq {x y : Code} : step P (lone (on b tmps ds (.code (.seq x y) :: k)) cs w) = .next (lone (on b tmps ds (.code x :: .code y :: k)) cs w) := step_lone_go (by simp [stepG, stepG.exec, on])
theorem st_cond {c : Operand} {x y : Code} {t : Bool} (h : evalT tmps c = .bool t) :
    step P (lone (on b tmps ds (.code (.cond c x y) :: k)) cs w) = .next (lone (on b tmps ds (.code (if t then x else y) :: k)) cs w) :=
  step_lone_go (by
    have := congrFun (eval_on b tmps ds (.code (.cond c x y) :: k)) c
    simp only [on] at this
    simp [stepG, stepG.exec, on, this, h])
theorem st_block {id : Nat} {c : Code} : step P (lone (on b tmps ds (.code (.block id c) :: k)) cs w) = .next (lone (on b tmps ds (.code c :: .inBlock id :: k)) cs w) := step_lone_go (by simp [stepG, stepG.exec, on])
theorem st_loop {c : Code} : step P (lone (on b tmps ds (.code (.loop c) :: k)) cs w) = .next (lone (on b tmps ds (.code c :: .inLoop c :: k)) cs w) := step_lone_go (by simp [stepG, stepG.exec, on])
theorem st_inLoop {c : Code} : step P (lone (on b tmps ds (.inLoop c :: k)) cs w) = .next (lone (on b tmps ds (.code c :: .inLoop c :: k)) cs w) := step_lone_go (by simp [stepG, stepG.exec, on])
theorem st_scope {c : Code} : step P (lone (on b tmps ds (.code (.scope c) :: k)) cs w) = .next (lone (on b tmps ds (.code c :: .inScope c :: k)) cs w) := step_lone_go (by simp [stepG, stepG.exec, on])
theorem st_exit {id : Nat} {k' : List Item} (h : exitTo id k = some k') : step P (lone (on b tmps ds (.code (.exit id) :: k)) cs w) = .next (lone (on b tmps ds k') cs w) :=
  step_lone_go (by simp [stepG, stepG.exec, on, h])
theorem st_ret (hr : b.roundOf = none) : step P (lone (on b tmps ds (.code .ret :: k)) cs w) = .next (lone { on b tmps ds (.code .ret :: k) with mode := .returning } cs w) :=
  step_lone_go (by simp [stepG, stepG.exec, on, hr])
theorem st_end (hr : b.roundOf = none) : step P (lone (on b tmps ds []) cs w) = .next (lone { on b tmps ds [] with mode := .returning } cs w) :=
  step_lone_go (by simp [stepG, stepG.exec, on, hr])

/-! Regions -/
theorem st_region {id : Nat} {ops : Array Oper} : step P (lone (on b tmps ds (.code (.region id ops false) :: k)) cs w) = .next (lone (on b tmps ds (.inRegion ops (List.range ops.size) :: k)) cs w) :=
  step_lone_go (by simp [stepG, stepG.exec, on])
theorem st_region_draw {id : Nat} {ops : Array Oper} : step P (lone (on b tmps ds (.code (.region id ops true) :: k)) cs w) =
    .next (lone (on b tmps ds (.inRegion ops (Region.schedule (P.follows .mixedOrders) ops (w.tape w.drawn (.order b.fn id))) :: k)) cs { w with drawn := w.drawn + 1 }) :=
  step_lone_go (by simp [stepG, stepG.exec, on, choose, Sem.run, Question.forced, Question.cut])
theorem st_region_end {ops : Array Oper} : step P (lone (on b tmps ds (.inRegion ops [] :: k)) cs w) = .next (lone (on b tmps ds k) cs w) := step_lone_go (by simp [stepG, stepG.exec, on])

section ops
variable {ops : Array Oper} {i : Nat} {rest : List Nat} {o : Oper}
theorem st_op_skip (ho : ops[i]? = some o) (h : Region.wanted o (yielded ops tmps) = false) :
    step P (lone (on b tmps ds (.inRegion ops (i :: rest) :: k)) cs w) = .next (lone (on b (putV tmps o.dst undef) ds (.inRegion ops rest :: k)) cs w) := by
  have hf := finish_on b tmps ds ops i rest k undef
  rw [ho] at hf
  simp only [Option.bind_some] at hf
  rw [← hf]
  exact step_lone_go (by
    simp only [on] at *
    simp [stepG, stepG.exec, ho, h])
theorem stG_op (ho : ops[i]? = some o) (hw : Region.wanted o (yielded ops tmps) = true) (hd : ∀ c, o.op ≠ .defer c) :
    stepG P true { frame := on b tmps ds (.inRegion ops (i :: rest) :: k), callers := cs, status := .running, dying := none } w =
      stepG.apply P true (on b tmps ds (.inRegion ops (i :: rest) :: k)) cs none (execOp (evalT tmps) o) w := by
  have he := eval_on b tmps ds (.inRegion ops (i :: rest) :: k)
  simp only [on] at he
  obtain ⟨dst, op, ty, pos, af, gd⟩ := o
  cases op <;> first | exact absurd rfl (hd _) | (cases hr : b.roundOf <;> rw [hr] at he <;> simp [stepG, stepG.exec, stepG.oper, Frame.oper?, on, ho, hw, he, hr])
variable (ho : ops[i]? = some o) (hw : Region.wanted o (yielded ops tmps) = true) (hd : ∀ c, o.op ≠ .defer c)
include ho hw hd
theorem st_op_value {v : Value} {w' : World} (h : (execOp (evalT tmps) o).run P w = .ok (.value v) w') :
    step P (lone (on b tmps ds (.inRegion ops (i :: rest) :: k)) cs w) = .next (lone (on b (putV tmps o.dst v) ds (.inRegion ops rest :: k)) cs w') := by
  have hf := finish_on b tmps ds ops i rest k v
  rw [ho] at hf
  simp only [Option.bind_some] at hf
  rw [← hf]
  exact step_lone_go (by rw [stG_op ho hw hd]; simp [stepG.apply, h])
theorem st_op_next {w' : World} (h : (execOp (evalT tmps) o).run P w = .ok .skip w') :
    step P (lone (on b tmps ds (.inRegion ops (i :: rest) :: k)) cs w) = .next (lone (on b (putV tmps o.dst undef) ds (.inRegion ops rest :: k)) cs w') := by
  have hf := finish_on b tmps ds ops i rest k undef
  rw [ho] at hf
  simp only [Option.bind_some] at hf
  rw [← hf]
  exact step_lone_go (by rw [stG_op ho hw hd]; simp [stepG.apply, h])
theorem st_op_panic {v : Value} {w' : World} (h : (execOp (evalT tmps) o).run P w = .halt (.panic v) w') :
    step P (lone (on b tmps ds (.inRegion ops (i :: rest) :: k)) cs w) = .next (lone { on b tmps ds (.inRegion ops (i :: rest) :: k) with mode := .panicking [{ v, recovered := false }] } cs w') :=
  step_lone_go (by rw [stG_op ho hw hd]; simp [stepG.apply, h, Frame.raise, on])
theorem st_op_enter {f : FuncId} {args : Array Value} {w' : World} (h : (execOp (evalT tmps) o).run P w = .ok (.enter f args) w') :
    step P (lone (on b tmps ds (.inRegion ops (i :: rest) :: k)) cs w) = .next (lone (Frame.enter P f args .normal) (on b tmps ds (.inRegion ops (i :: rest) :: k) :: cs) w') :=
  step_lone_go (by rw [stG_op ho hw hd]; simp [stepG.apply, h, on])
theorem st_op_round {l : Nat} {f : FuncId} {tm : Array Value} {x y : Code} {w' : World} (h : (execOp (evalT tmps) o).run P w = .ok (.round l f tm x y) w') :
    step P (lone (on b tmps ds (.inRegion ops (i :: rest) :: k)) cs w) = .next (lone (Frame.round l f tm x y .normal) (on b tmps ds (.inRegion ops (i :: rest) :: k) :: cs) w') :=
  step_lone_go (by rw [stG_op ho hw hd]; simp [stepG.apply, h, on])
end ops

/-! Leaving -/
theorem raise_on (todo : List Item) (chain : List PanicEntry) : (on b tmps ds todo).raise chain = { on b tmps ds todo with mode := .panicking chain } := rfl

/-- A round begins, or its body does. -/
theorem st_beginRound {l : Nat} {w' : World} (hr : b.roundOf = some l) (h : (Instr.beginRound l).run P w = .ok () w') :
    step P (lone (on b tmps ds (.beginRound :: k)) cs w) = .next (lone (on b tmps ds k) cs w') :=
  step_lone_go (by simp [stepG, stepG.exec, on, hr, stepG.apply, h, Frame.finish])
/-- A round ends. -/
theorem st_endRound {l : Nat} {v : Value} {w' : World} {c : Frame} {todo : List Item} {jump : Option Code} (hr : b.roundOf = some l) (hk : b.kind = .normal) 
    (ht : (todo = [] ∧ jump = none) ∨ (∃ k, todo = .code .ret :: k ∧ jump = some .ret) ∨ ∃ id k, todo = .code (.exit id) :: k ∧ exitTo id k = none ∧ jump = some (.exit id))
    (h : (Instr.endRound l jump).run P w = .ok v w') :
    step P (lone (on b tmps ds todo) (c :: cs) w) = .next (lone (c.finish v) cs w') := by
  rcases ht with ⟨rfl, rfl⟩ | ⟨k, rfl, rfl⟩ | ⟨id, k, rfl, he, rfl⟩
  · exact step_lone_go (by simp [stepG, stepG.exec, on, hr, h, doReturn, hk])
  · exact step_lone_go (by simp [stepG, stepG.exec, on, hr, h, doReturn, hk])
  · exact step_lone_go (by simp [stepG, stepG.exec, on, hr, he, h, doReturn, hk])

/-- A loop over a function. -/
theorem st_rangeFunc {f : Operand} {ps : Array Tmp} {x y : Code} {l : Nat} {mark : List Deferred} {g : FuncId} {args : Array Value} {w₁ w₂ : World}
    (h1 : (Instr.enterLoop b.fn tmps ps x y b.roundOf).run P w = .ok (l, mark) w₁)
    (h2 : (do let d ← resolve (evalT tmps) { callee := .value f, args := #[.const (.func (.yield l) #[] #[])], argTypes := #[] } 0; invoke d.target d.args : Sem Next).run P w₁ = .ok (.enter g args) w₂) :
    step P (lone (on b tmps ds (.code (.rangeFunc f ps x y) :: k)) cs w) = .next (lone (Frame.enter P g args .normal) (on b tmps (mark ++ ds) (.inRangeFunc l :: k) :: cs) w₂) :=
  step_lone_go (by
    have he := eval_on b tmps (mark ++ ds) (.inRangeFunc l :: k)
    simp only [on] at he
    simp only [Sem.run_bind] at h2
    simp [stepG, stepG.exec, on, h1, stepG.apply, he, h2])
theorem finish_inRange {l : Nat} (v : Value) : (on b tmps ds (.inRangeFunc l :: k)).finish v = on b tmps ds (.endRangeFunc l :: k) := rfl
theorem st_endRange {l : Nat} {jump : Option Code} {w' : World} (h : (Instr.endLoop l).run P w = .ok jump w') :
    step P (lone (on b tmps ds (.endRangeFunc l :: k)) cs w) = .next (lone (on b tmps ds ((jump.map Item.code).toList ++ k)) cs w') :=
  step_lone_go (by simp [stepG, stepG.exec, on, h])
end moves

/-- What a returning frame has put off is taken. -/
theorem st_take {P : Program} {fr : Frame} {cs : List Frame} {w w' : World} {l : Nat} {as : Array Value} {ds calls : List Deferred} (hm : fr.mode = .returning) (hd : fr.defers = ⟨.collected l, as⟩ :: ds) (h : (Instr.takeDeferred l).run P w = .ok calls w') :
    step P (lone fr cs w) = .next (lone { fr with defers := calls ++ ds } cs w') :=
  step_lone_go (by simp [stepG, hm, unwind, hd, h])
end Go.Ax
