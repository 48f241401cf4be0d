/- An abstract machine for loaded programs: weakest preconditions, arguments, laws. -/
import Derived.Test.YtcimffpckcbdlaaAmC
import Derived.Laws.Strings
import Derived.Carry
import Derived.OpenShut
import Derived.KernelRfl
import Derived.Laws.Externs
import Derived.SizedLaws
set_option linter.unusedSimpArgs false
set_option linter.unusedVariables false
namespace Go.AM
section
variable {C : Cfg} {fid : FuncId} {call : FuncId → List AV → Hp → Option (AV × Hp)}

theorem exec_succ : ∀ {n : Nat} {c : Code} {env : Env} {H : Hp} {r : Xit × Env × Hp}, exec C fid call n c env H = some r → exec C fid call (n + 1) c env H = some r
  | 0, _, _, _, _, h => by simp [exec] at h
  | n + 1, c, env, H, r, h => by
    cases c with
    | skip => simpa only [exec] using h
    | region i ops d => simpa only [exec] using h
    | seq a b =>
      rw [exec] at h ⊢
      split at h
      · rename_i e1 H1 h1
        rw [exec_succ h1]
        exact exec_succ h
      · rename_i r' hne
        rw [exec_succ h]
        split
        · rename_i e1 H1 h1
          rw [h] at hne
          injection h1 with h1
          subst h1
          exact absurd rfl (hne _ _)
        · rfl
    | cond x a b =>
      rw [exec] at h ⊢
      split at h
      · exact exec_succ h
      · cases h
    | block i b =>
      rw [exec] at h ⊢
      split at h
      · rename_i j e1 H1 h1
        rw [exec_succ h1]
        exact h
      · rename_i r' hne
        rw [exec_succ h]
        split
        · rename_i j e1 H1 h1
          rw [h] at hne
          injection h1 with h1
          subst h1
          exact absurd rfl (hne _ _ _)
        · rfl
    | loop b =>
      rw [exec] at h ⊢
      split at h
      · rename_i e1 H1 h1
        rw [exec_succ h1]
        exact exec_succ h
      · rename_i r' hne
        rw [exec_succ h]
        split
        · rename_i e1 H1 h1
          rw [h] at hne
          injection h1 with h1
          subst h1
          exact absurd rfl (hne _ _)
        · rfl
    | exit i => simpa only [exec] using h
    | ret => simpa only [exec] using h
    | _ => simp [exec] at h
theorem exec_le {n m : Nat} (hle : n ≤ m) {c : Code} {env : Env} {H : Hp} {r : Xit × Env × Hp} (h : exec C fid call n c env H = some r) : exec C fid call m c env H = some r := by
  induction hle with
  | refl => exact h
  | step _ ih => exact exec_succ ih

variable (C fid call) in
/-- The code ends, and so. -/
def wk (c : Code) (env : Env) (H : Hp) (Q : Xit → Env → Hp → Prop) : Prop := ∃ n x e h, exec C fid call n c env H = some (x, e, h) ∧ Q x e h
variable (C fid call) in
/-- .. the operations of a region. -/
def wks (ops : Array Oper) (l : List Oper) (env : Env) (H : Hp) (ks : List Nat) (Q : Env → Hp → List Nat → Prop) : Prop := match opsA C call fid ops l env H ks with
  | some (e, h, ks) => Q e h ks
  | none => False
variable (C fid call) in
/-- .. one operation. -/
def wk1 (o : Oper) (env : Env) (H : Hp) (Q : AV → Hp → Nat → Prop) : Prop := match opA C call fid o env H with
  | some (x, h, k) => Q x h k
  | none => False

variable {env env' : Env} {H H' : Hp} {Q : Xit → Env → Hp → Prop}
theorem wk_mono {c : Code} {Q' : Xit → Env → Hp → Prop} (h : wk C fid call c env H Q) (hq : ∀ x e h, Q x e h → Q' x e h) : wk C fid call c env H Q' := by
  obtain ⟨n, x, e, h, h1, h2⟩ := h
  exact ⟨n, x, e, h, h1, hq _ _ _ h2⟩
@[congr] theorem wk_congr {c : Code} (h : env = env') (k : H = H') : wk C fid call c env H Q = wk C fid call c env' H' Q := by rw [h, k]
@[congr] theorem wks_congr {ops : Array Oper} {l : List Oper} {ks ks' : List Nat} {Q : Env → Hp → List Nat → Prop} (h : env = env') (k : H = H') (j : ks = ks') : wks C fid call ops l env H ks Q = wks C fid call ops l env' H' ks' Q := by rw [h, k, j]
@[congr] theorem wk1_congr {o : Oper} {Q : AV → Hp → Nat → Prop} (h : env = env') (k : H = H') : wk1 C fid call o env H Q = wk1 C fid call o env' H' Q := by rw [h, k]

theorem wk_skip : wk C fid call .skip env H Q = Q .normal env H := by
  refine propext ⟨fun ⟨n, x, e, h, h1, h2⟩ => ?_, fun h => ⟨1, _, _, _, rfl, h⟩⟩
  cases n with
  | zero => simp [exec] at h1
  | succ n => simp only [exec, Option.some.injEq, Prod.mk.injEq] at h1; obtain ⟨rfl, rfl, rfl⟩ := h1; exact h2
theorem wk_ret : wk C fid call .ret env H Q = Q .ret env H := by
  refine propext ⟨fun ⟨n, x, e, h, h1, h2⟩ => ?_, fun h => ⟨1, _, _, _, rfl, h⟩⟩
  cases n with
  | zero => simp [exec] at h1
  | succ n => simp only [exec, Option.some.injEq, Prod.mk.injEq] at h1; obtain ⟨rfl, rfl, rfl⟩ := h1; exact h2
theorem wk_exit {i : Nat} : wk C fid call (.exit i) env H Q = Q (.exit i) env H := by
  refine propext ⟨fun ⟨n, x, e, h, h1, h2⟩ => ?_, fun h => ⟨1, _, _, _, rfl, h⟩⟩
  cases n with
  | zero => simp [exec] at h1
  | succ n => simp only [exec, Option.some.injEq, Prod.mk.injEq] at h1; obtain ⟨rfl, rfl, rfl⟩ := h1; exact h2
/-- What comes behind: nothing, if it was left. -/
def andThen (Q' : Env → Hp → Prop) (Q : Xit → Env → Hp → Prop) : Xit → Env → Hp → Prop
  | .normal, e, h => Q' e h
  | x, e, h => Q x e h
theorem andThen_normal {Q' : Env → Hp → Prop} : andThen Q' Q .normal env H = Q' env H := rfl
theorem andThen_ret {Q' : Env → Hp → Prop} : andThen Q' Q .ret env H = Q .ret env H := rfl
theorem andThen_exit {Q' : Env → Hp → Prop} {i : Nat} : andThen Q' Q (.exit i) env H = Q (.exit i) env H := rfl
/-- A block's end. -/
def leave (i : Nat) (Q : Xit → Env → Hp → Prop) : Xit → Env → Hp → Prop
  | .exit j, e, h => if j = i then Q .normal e h else Q (.exit j) e h
  | x, e, h => Q x e h
theorem leave_normal {i : Nat} : leave i Q .normal env H = Q .normal env H := rfl
theorem leave_ret {i : Nat} : leave i Q .ret env H = Q .ret env H := rfl
theorem leave_exit {i j : Nat} : leave i Q (.exit j) env H = if j = i then Q .normal env H else Q (.exit j) env H := rfl

theorem wk_seq {a b : Code} : wk C fid call (.seq a b) env H Q = wk C fid call a env H (andThen (fun e h => wk C fid call b e h Q) Q) := by
  refine propext ⟨fun ⟨n, x, e, h, h1, h2⟩ => ?_, fun ⟨n, x, e, h, h1, h2⟩ => ?_⟩
  · cases n with
    | zero => simp [exec] at h1
    | succ n =>
      rw [exec] at h1
      split at h1
      · rename_i e1 H1 h3
        exact ⟨n, _, _, _, h3, n, _, _, _, h1, h2⟩
      · rename_i r hne
        refine ⟨n, _, _, _, h1, ?_⟩
        cases x with
        | normal => exact absurd h1 (hne _ _)
        | ret => exact h2
        | exit i => exact h2
  · cases x with
    | normal =>
      obtain ⟨m, x', e', h', h3, h4⟩ := h2
      refine ⟨max n m + 1, x', e', h', ?_, h4⟩
      rw [exec, exec_le (Nat.le_max_left n m) h1]
      exact exec_le (Nat.le_max_right n m) h3
    | ret => exact ⟨n + 1, _, _, _, by rw [exec, h1], h2⟩
    | exit i => exact ⟨n + 1, _, _, _, by rw [exec, h1], h2⟩
theorem wk_cond {x : Operand} {a b : Code} {t : Bool} (h : aval C env x = some (.v (.bool t))) (k : (t = true → wk C fid call a env H Q) ∧ (t = false → wk C fid call b env H Q)) : wk C fid call (.cond x a b) env H Q := by
  have : wk C fid call (if t then a else b) env H Q := by
    cases t with
    | true => exact k.1 rfl
    | false => exact k.2 rfl
  obtain ⟨n, y, e, h', h1, h2⟩ := this
  exact ⟨n + 1, y, e, h', by rw [exec, h]; exact h1, h2⟩
theorem wk_block {i : Nat} {b : Code} : wk C fid call (.block i b) env H Q = wk C fid call b env H (leave i Q) := by
  refine propext ⟨fun ⟨n, x, e, h, h1, h2⟩ => ?_, fun ⟨n, x, e, h, h1, h2⟩ => ?_⟩
  · cases n with
    | zero => simp [exec] at h1
    | succ n =>
      rw [exec] at h1
      split at h1
      · rename_i j e1 H1 h3
        simp only [Option.some.injEq, Prod.mk.injEq] at h1
        obtain ⟨rfl, rfl, rfl⟩ := h1
        refine ⟨n, _, _, _, h3, ?_⟩
        rw [leave_exit]
        split
        · rename_i hj; simpa [hj] using h2
        · rename_i hj; simpa [hj] using h2
      · rename_i r hne
        refine ⟨n, _, _, _, h1, ?_⟩
        cases x with
        | normal => exact h2
        | ret => exact h2
        | exit j => exact absurd h1 (hne _ _ _)
  · cases x with
    | normal => exact ⟨n + 1, _, _, _, by rw [exec, h1], h2⟩
    | ret => exact ⟨n + 1, _, _, _, by rw [exec, h1], h2⟩
    | exit j =>
      rw [leave_exit] at h2
      refine ⟨n + 1, if j = i then .normal else .exit j, e, h, by rw [exec, h1], ?_⟩
      split
      · rename_i hj; simpa [hj] using h2
      · rename_i hj; simpa [hj] using h2
theorem wk_loop_unfold {b : Code} : wk C fid call (.loop b) env H Q = wk C fid call b env H (andThen (fun e h => wk C fid call (.loop b) e h Q) Q) := by
  refine propext ⟨fun ⟨n, x, e, h, h1, h2⟩ => ?_, fun ⟨n, x, e, h, h1, h2⟩ => ?_⟩
  · cases n with
    | zero => simp [exec] at h1
    | succ n =>
      rw [exec] at h1
      split at h1
      · rename_i e1 H1 h3
        exact ⟨n, _, _, _, h3, n, _, _, _, h1, h2⟩
      · rename_i r hne
        refine ⟨n, _, _, _, h1, ?_⟩
        cases x with
        | normal => exact absurd h1 (hne _ _)
        | ret => exact h2
        | exit i => exact h2
  · cases x with
    | normal =>
      obtain ⟨m, x', e', h', h3, h4⟩ := h2
      refine ⟨max n m + 1, x', e', h', ?_, h4⟩
      rw [exec, exec_le (Nat.le_max_left n m) h1]
      exact exec_le (Nat.le_max_right n m) h3
    | ret => exact ⟨n + 1, _, _, _, by rw [exec, h1], h2⟩
    | exit i => exact ⟨n + 1, _, _, _, by rw [exec, h1], h2⟩
/-- **A loop**: something falls with each turn. -/
theorem wk_loop {b : Code} (I : Nat → Env → Hp → Prop) (step : ∀ m e h, I m e h → wk C fid call b e h (andThen (fun e h => ∃ k, k < m ∧ I k e h) Q)) {m : Nat} (h0 : I m env H) : wk C fid call (.loop b) env H Q := by
  induction m using Nat.strongRecOn generalizing env H with
  | _ m ih =>
    rw [wk_loop_unfold]
    refine wk_mono (step m env H h0) fun x e h hq => ?_
    cases x with
    | normal =>
      obtain ⟨k, hk, hi⟩ := hq
      exact ih k hk hi
    | ret => exact hq
    | exit i => exact hq
theorem wk_region {i : Nat} {ops : Array Oper} {d : Bool} : wk C fid call (.region i ops d) env H Q = wks C fid call ops ops.toList env H [] (fun e h ks => (!d || ordered ops ks) = true ∧ Q .normal e h) := by
  unfold wks
  refine propext ⟨fun ⟨n, x, e, h, h1, h2⟩ => ?_, fun hh => ?_⟩
  · cases n with
    | zero => simp [exec] at h1
    | succ n =>
      rw [exec] at h1
      split at h1
      · rename_i e1 H1 ks h3
        rw [h3]
        split at h1
        · rename_i hd
          simp only [Option.some.injEq, Prod.mk.injEq] at h1
          obtain ⟨rfl, rfl, rfl⟩ := h1
          exact ⟨hd, h2⟩
        · cases h1
      · cases h1
  · split at hh
    · rename_i e1 H1 ks h3
      exact ⟨1, _, _, _, by rw [exec, h3]; simp only [hh.1, if_true], hh.2⟩
    · exact hh.elim
theorem wks_cons {ops : Array Oper} {o : Oper} {l : List Oper} {ks : List Nat} {Q : Env → Hp → List Nat → Prop} (hg : o.guard = none) :
    wks C fid call ops (o :: l) env H ks Q = wk1 C fid call o env H (fun x h k => wks C fid call ops l (aput env o.dst x) h (ks ++ [k]) Q) := by
  unfold wks wk1
  simp only [opsA, wantedA, hg, if_true]
  cases opA C call fid o env H with
  | none => rfl
  | some y => obtain ⟨x, h, k⟩ := y; rfl
theorem wks_guard {ops : Array Oper} {o : Oper} {l : List Oper} {ks : List Nat} {Q : Env → Hp → List Nat → Prop} {j : Nat} {w : Bool} (hg : o.guard = some (j, w)) :
    wks C fid call ops (o :: l) env H ks Q = ((yieldA ops env j = some w → wk1 C fid call o env H (fun x h k => wks C fid call ops l (aput env o.dst x) h (ks ++ [k]) Q)) ∧ (yieldA ops env j ≠ some w → wks C fid call ops l (aput env o.dst .undef) H (ks ++ [0]) Q)) := by
  unfold wks wk1
  simp only [opsA, wantedA, hg]
  by_cases hy : yieldA ops env j = some w
  · simp only [hy, beq_self_eq_true, if_true, ne_eq, not_true, false_implies, and_true, true_implies]
    cases opA C call fid o env H with
    | none => rfl
    | some y => obtain ⟨x, h, k⟩ := y; rfl
  · have : (yieldA ops env j == some w) = false := by simpa using hy
    simp [hy]

/-! ### The frame's slots -/
theorem aget_aput {e : Env} {d i : Nat} {x : AV} : aget (aput e (some d) x) i = if d = i then (if i < e.length then x else .undef) else aget e i := by
  simp only [aget, aput, List.getD_eq_getElem?_getD, List.getElem?_set]
  split
  · rename_i h
    subst h
    split <;> simp [*]
  · rfl
theorem length_aput {e : Env} {d : Option Tmp} {x : AV} : (aput e d x).length = e.length := by
  cases d <;> simp [aput]
theorem aput_none {e : Env} {x : AV} : aput e none x = e := rfl

/-! ### Operands -/
theorem aval_tmp {t : Nat} : aval C env (.tmp t) = some (aget env t) := rfl
theorem aval_int {k : IntKind} {n : Int} : aval C env (.const (.int k n)) = some (.v (.int k n)) := rfl
theorem aval_bool {b : Bool} : aval C env (.const (.bool b)) = some (.v (.bool b)) := rfl
theorem aval_nilPointer : aval C env (.const (.pointer none)) = some (.v (.pointer none)) := rfl
theorem aval_nilIface : aval C env (.const .nilIface) = some (.v .nilIface) := rfl
theorem aval_func {f : FuncId} : aval C env (.func f) = some (.fn (.func f) [] []) := rfl
theorem aval_global {g : Nat} : aval C env (.global g) = (C.gl g).map (.rp · 0) := rfl

theorem aval_slice {b : Option Addr} {n c : Nat} : aval C env (.const (.slice b n c)) = some (.v (.slice b n c)) := rfl

/-- What follows, if there is something. -/
def bnd {α : Type} (o : Option α) (K : α → Prop) : Prop := match o with
  | some x => K x
  | none => False
theorem bnd_some {α : Type} {x : α} {K : α → Prop} : bnd (some x) K = K x := rfl
@[congr] theorem bnd_congr {α : Type} {o o' : Option α} {K : α → Prop} (h : o = o') : bnd o K = bnd o' K := by rw [h]

/-- Two ways. -/
def condQ (t : Bool) (A B : Prop) : Prop := (t = true → A) ∧ (t = false → B)
@[congr] theorem condQ_congr {t t' : Bool} {A B : Prop} (h : t = t') : condQ t A B = condQ t' A B := by rw [h]
theorem condQ_true {A B : Prop} : condQ true A B = A := by simp [condQ]
theorem condQ_false {A B : Prop} : condQ false A B = B := by simp [condQ]
def condV (x : AV) (A B : Prop) : Prop := match x with
  | .v (.bool t) => condQ t A B
  | _ => False
@[congr] theorem condV_congr {t t' : AV} {A B : Prop} (h : t = t') : condV t A B = condV t' A B := by rw [h]
theorem condV_bool {t : Bool} {A B : Prop} : condV (.v (.bool t)) A B = condQ t A B := rfl
theorem wk_cond_ {x : Operand} {a b : Code} : wk C fid call (.cond x a b) env H Q = bnd (aval C env x) fun v => condV v (wk C fid call a env H Q) (wk C fid call b env H Q) := by
  refine propext ⟨fun ⟨n, y, e, h, h1, h2⟩ => ?_, fun h => ?_⟩
  · cases n with
    | zero => simp [exec] at h1
    | succ n =>
      rw [exec] at h1
      split at h1
      · rename_i t ht
        rw [ht, bnd_some, condV_bool]
        cases t with
        | true => exact ⟨fun _ => ⟨n, y, e, h, h1, h2⟩, fun h => by cases h⟩
        | false => exact ⟨fun h => (by cases h), fun _ => ⟨n, y, e, h, h1, h2⟩⟩
      · cases h1
  · cases hx : aval C env x with
    | none => rw [hx] at h; exact h.elim
    | some v =>
      rw [hx, bnd_some] at h
      unfold condV at h
      split at h
      · exact wk_cond hx h
      · exact h.elim

/-! ### Operations -/
section
variable {d : Option Tmp} {ty : TypeId} {pos : String} {af : Array Edge} {g : Option (Nat × Bool)} {Q : AV → Hp → Nat → Prop}
theorem wk1_of_opP {o : Oper} (hr : opR C (ownCall call) o env H = none) (hw : opW C call fid o env H = none) : wk1 C fid call o env H Q = bnd (opP C (ownCall call) fid o env) (fun y => Q y H 0) := by
  unfold wk1 opA bnd
  cases opP C (ownCall call) fid o env <;> simp [hr, hw]
theorem op_move_ {x : Operand} : wk1 C fid call ⟨d, .move x, ty, pos, af, g⟩ env H Q = bnd (aval C env x) (fun y => Q y H 0) := wk1_of_opP rfl rfl
theorem op_assign_ {x : Operand} : wk1 C fid call ⟨d, .assign x, ty, pos, af, g⟩ env H Q = bnd (aval C env x) (fun y => Q y H 0) := wk1_of_opP rfl rfl
theorem op_pick_ {c x y : Operand} : wk1 C fid call ⟨d, .pick c x y, ty, pos, af, g⟩ env H Q = bnd (match aval C env c, aval C env x, aval C env y with
    | some (.v (.bool t)), some a, some b => some (if t then a else b)
    | _, _, _ => none) (fun y => Q y H 0) := wk1_of_opP rfl rfl
theorem op_binOp_ {op : BinOp} {t u : TypeId} {x y : Operand} : wk1 C fid call ⟨d, .binOp op t x y u, ty, pos, af, g⟩ env H Q = bnd (aval C env x) fun a => bnd (aval C env y) fun b => bnd (binA C op t x y a b) (fun y => Q y H 0) := by
  rw [wk1_of_opP rfl rfl]
  simp only [opP]
  cases aval C env x with
  | none => rfl
  | some a => cases aval C env y <;> rfl
theorem op_unOp_ {op : UnOp} {t : TypeId} {x : Operand} : wk1 C fid call ⟨d, .unOp op t x, ty, pos, af, g⟩ env H Q = bnd (aval C env x) fun a => bnd (a.toV.bind fun a => (pureRun C.P (Op.unary op a)).bind ofV) (fun y => Q y H 0) := by
  rw [wk1_of_opP rfl rfl]
  simp only [opP]
  cases aval C env x with
  | none => rfl
  | some a => simp only [Option.bind_some, bnd_some]; cases a.toV <;> rfl
/-- A conversion: of a value; of what lies on the heap; of a text, to bytes that are written. -/
def convW (C : Cfg) (s t : TypeId) (a : AV) (H : Hp) : Option (AV × Hp) := match a, C.und s, C.und t with
  | .v (.string b), some .string, some (.slice e) => if isU8 C e then some (.ex H.blks.length 0 1 0 b.size, { H with blks := H.blks ++ [⟨0, 1, byteAVs b⟩] }) else none
  | _, _, _ => none
def convQ (C : Cfg) (b : Bool) (o : Option AV) (s t : TypeId) (a : AV) (H : Hp) (Q : AV → Hp → Nat → Prop) : Prop := match (if b = true then none else o) with
  | some y => Q y H 0
  | none => match exStr C s t a H with
    | some y => Q y H 1
    | none => bnd (convW C s t a H) fun y => Q y.1 y.2 2
theorem op_convert_ {s t : TypeId} {x : Operand} : wk1 C fid call ⟨d, .convert s t x, ty, pos, af, g⟩ env H Q = bnd (aval C env x) fun a => convQ C (nbOf C fid d) (convA C s t a) s t a H Q := by
  unfold wk1 opA
  simp only [opP, opR, opW]
  cases hx : aval C env x with
  | none => cases nbOf C fid d <;> rfl
  | some a =>
    simp only [Option.bind_some, bnd_some, convQ]
    cases nbOf C fid d with
    | false =>
      simp only [Bool.false_eq_true, if_false]
      cases convA C s t a with
      | some y => rfl
      | none =>
        simp only
        cases exStr C s t a H with
        | some y => rfl
        | none =>
          simp only [convW, bnd]
          cases a with
          | v y =>
            cases y with
            | string b =>
              cases C.und s with
              | none => rfl
              | some d1 =>
                cases C.und t with
                | none => cases d1 <;> rfl
                | some d2 =>
                  cases d1 with
                  | string =>
                    cases d2 with
                    | slice e => cases hu : isU8 C e <;> simp only [hu, if_true, Bool.false_eq_true, if_false] <;> rfl
                    | _ => rfl
                  | _ => rfl
            | _ => rfl
          | _ => rfl
    | true =>
      simp only [if_true]
      cases exStr C s t a H with
      | some y => rfl
      | none =>
        simp only [convW, bnd]
        cases a with
        | v y =>
          cases y with
          | string b =>
            cases C.und s with
            | none => rfl
            | some d1 =>
              cases C.und t with
              | none => cases d1 <;> rfl
              | some d2 =>
                cases d1 with
                | string =>
                  cases d2 with
                  | slice e => cases hu : isU8 C e <;> simp only [hu, if_true, Bool.false_eq_true, if_false] <;> rfl
                  | _ => rfl
                | _ => rfl
          | _ => rfl
        | _ => rfl
theorem op_field_ {t : TypeId} {x : Operand} {f : Nat} : wk1 C fid call ⟨d, .field t x f, ty, pos, af, g⟩ env H Q = bnd (match aval C env x, C.und t with
    | some (.agg cs), some (.struct fields) => match fields[f]? with
      | some f => partA C f.type cs f.offset
      | none => none
    | _, _ => none) (fun y => Q y H 0) := wk1_of_opP rfl rfl
theorem op_index_ {t : TypeId} {x i : Operand} : wk1 C fid call ⟨d, .index t x i, ty, pos, af, g⟩ env H Q = bnd (aval C env x) fun a => bnd (aval C env i) fun b => bnd (indexA C t a b) (fun y => Q y H 0) := by
  rw [wk1_of_opP rfl rfl]
  simp only [opP]
  cases aval C env x with
  | none => rfl
  | some a => cases aval C env i <;> rfl
theorem op_indexAddr_ {t : TypeId} {x i : Operand} : wk1 C fid call ⟨d, .indexAddr t x i, ty, pos, af, g⟩ env H Q = bnd (aval C env x) fun a => bnd (aval C env i) fun b => bnd (indexAddrA C t a b) (fun y => Q y H 0) := by
  rw [wk1_of_opP rfl rfl]
  simp only [opP]
  cases aval C env x with
  | none => rfl
  | some a => cases aval C env i <;> rfl
theorem op_fieldAddr_ {t : TypeId} {x : Operand} {f : Nat} : wk1 C fid call ⟨d, .fieldAddr t x f, ty, pos, af, g⟩ env H Q = bnd (aval C env x) fun a => bnd (fieldAddrA C t a f) (fun y => Q y H 0) := by
  rw [wk1_of_opP rfl rfl]
  simp only [opP]
  cases aval C env x <;> rfl
theorem op_slice_ {t : TypeId} {x : Operand} {lo hi mx : Option Operand} : wk1 C fid call ⟨d, .slice t x lo hi mx, ty, pos, af, g⟩ env H Q = bnd (aval C env x) fun a => bnd (avals C env lo.toList) fun l => bnd (avals C env hi.toList) fun h => bnd (avals C env mx.toList) fun m =>
    bnd (sliceA C t a l.head? h.head? m.head?) (fun y => Q y H 0) := by
  rw [wk1_of_opP rfl rfl]
  simp only [opP]
  cases aval C env x with
  | none => rfl
  | some a => cases avals C env lo.toList with
    | none => rfl
    | some l => cases avals C env hi.toList with
      | none => rfl
      | some h => cases avals C env mx.toList <;> rfl
theorem op_build_ {t : TypeId} {ps : Array (Nat × Operand)} : wk1 C fid call ⟨d, .build t ps, ty, pos, af, g⟩ env H Q = bnd (apairs C env ps.toList) fun l => bnd (buildA C t l) (fun y => Q y H 0) := by
  rw [wk1_of_opP rfl rfl]
  simp only [opP]
  cases apairs C env ps.toList <;> rfl
theorem op_buildSlice_ {t : TypeId} {n : Nat} {ps : Array (Nat × Operand)} : wk1 C fid call ⟨d, .buildSlice t n ps, ty, pos, af, g⟩ env H Q = bnd (apairs C env ps.toList) fun l => bnd (bareP l) fun l => bnd (buildSliceA C t n l) (fun y => Q y H 0) := by
  rw [wk1_of_opP rfl rfl]
  simp only [opP]
  cases apairs C env ps.toList with
  | none => rfl
  | some l => simp only [Option.bind_some, bnd_some]; cases bareP l <;> rfl
theorem op_extract_ {x : Operand} {i : Nat} : wk1 C fid call ⟨d, .extract x i, ty, pos, af, g⟩ env H Q = bnd (match aval C env x with
    | some (.tup xs) => xs[i]?
    | _ => none) (fun y => Q y H 0) := wk1_of_opP rfl rfl
theorem op_makeInterface_ {t : TypeId} {x : Operand} : wk1 C fid call ⟨d, .makeInterface t x, ty, pos, af, g⟩ env H Q = bnd (match aval C env x, C.und t with
    | _, some (.interface _) | _, none | none, _ => none
    | some x, some _ => some (.iface t x)) (fun y => Q y H 0) := wk1_of_opP rfl rfl
theorem op_makeFunc_ {f : Fn} {a b : Array Operand} : wk1 C fid call ⟨d, .makeFunc f a b, ty, pos, af, g⟩ env H Q = bnd (avals C env a.toList) fun a => bnd (avals C env b.toList) fun b => Q (.fn f a b) H 0 := by
  rw [wk1_of_opP rfl rfl]
  simp only [opP]
  cases avals C env a.toList with
  | none => rfl
  | some a => cases avals C env b.toList <;> rfl
theorem op_nilCheck_ {x : Operand} : wk1 C fid call ⟨d, .nilCheck x, ty, pos, af, g⟩ env H Q = bnd (match aval C env x with
    | some (.rp x j) => some (.rp x j)
    | some (.ptr b g i j) => some (.ptr b g i j)
    | some (.fn (.func f) a b) => some (.fn (.func f) a b)
    | some (.iface t x) => some (.iface t x)
    | _ => none) (fun y => Q y H 0) := wk1_of_opP rfl rfl
theorem op_load_rp_ {t : TypeId} {x : Operand} {y : AV} {j : Nat} (hx : aval C env x = some (.rp y j)) : wk1 C fid call ⟨d, .load t x, ty, pos, af, g⟩ env H Q = bnd (partA C t y.cells j) (fun y => Q y H 0) := by
  rw [wk1_of_opP (by simp only [opR, hx]) rfl]
  simp only [opP, hx]
theorem op_load_ptr_ {t : TypeId} {x : Operand} {b g' i j : Nat} (hx : aval C env x = some (.ptr b g' i j)) : wk1 C fid call ⟨d, .load t x, ty, pos, af, g⟩ env H Q = bnd (blkAt H b g') fun k => bnd k.xs[i]? fun y => bnd (partA C t y.cells j) (fun y => Q y H 1) := by
  unfold wk1 opA
  simp only [opP, opR, opW, hx]
  cases blkAt H b g' with
  | none => rfl
  | some k =>
    simp only [Option.bind_some, bnd_some]
    cases k.xs[i]? with
    | none => rfl
    | some y => simp only [Option.bind_some, bnd_some]; cases partA C t y.cells j <;> rfl
end
end
end Go.AM

namespace Go.AM
section
variable {C : Cfg} {fid : FuncId} {call : FuncId → List AV → Hp → Option (AV × Hp)} {env : Env} {H : Hp}
variable {d : Option Tmp} {ty : TypeId} {pos : String} {af : Array Edge} {g : Option (Nat × Bool)} {Q : AV → Hp → Nat → Prop}

/-! ### Calls -/
variable (C call) in
def wkCall (f : AV) (args : List AV) (H : Hp) (Q : AV → Hp → Nat → Prop) : Prop := match callPA C (ownCall call) f args with
  | some x => Q x H 0
  | none => match callRA C (ownCall call) f args H with
   | some x => Q x H 1
   | none => match f with
    | .fn (.func f) first captured => if (C.prim f).isSome || C.own f then False else (match call f (first ++ args ++ captured) H with
      | some (x, h) => Q x h 2
      | none => False)
    | _ => False
@[congr] theorem wkCall_congr {f f' : AV} {args args' : List AV} {H H' : Hp} (h : f = f') (k : args = args') (j : H = H') : wkCall C call f args H Q = wkCall C call f' args' H' Q := by rw [h, k, j]
theorem op_call_ {q : Operand} {as : Array Operand} {ts : Array TypeId} : wk1 C fid call ⟨d, .call ⟨.value q, as, ts⟩, ty, pos, af, g⟩ env H Q = bnd (avals C env as.toList) fun args => bnd (aval C env q) fun f => wkCall C call f args H Q := by
  unfold wk1 opA
  simp only [opP, opR, opW]
  cases h1 : avals C env as.toList with
  | none => rfl
  | some args =>
    cases h2 : aval C env q with
    | none => rfl
    | some f =>
      simp only [Option.bind_some, bnd_some, wkCall]
      cases h3 : callPA C (ownCall call) f args with
      | some x => rfl
      | none =>
        simp only
        cases h4 : callRA C (ownCall call) f args H with
        | some x => rfl
        | none =>
          cases f with
          | fn f a b =>
            cases f with
            | func f =>
              simp only
              by_cases hc : ((C.prim f).isSome || C.own f) = true
              · simp only [hc, if_true]
              · simp only [hc]
                cases call f (a ++ args ++ b) H with
                | none => rfl
                | some y => obtain ⟨x, h⟩ := y; rfl
            | _ => rfl
          | _ => rfl
/-- A contract's call: its arguments as they are, or as they are read off the heap. -/
def primQ (C : Cfg) (Q : AV → Hp → Nat → Prop) (p : List AV → Option AV) (H : Hp) (o : Option (List AV)) (ys : List AV) : Prop := match o with
  | some xs => bnd (p xs) fun x => Q x H 0
  | none => bnd (AV.thaws H 1000 ys) fun xs => bnd (p xs) fun r => bnd (plainA r) fun x => Q x H 1
theorem wkCall_prim {f : FuncId} {a b args : List AV} {p : List AV → Option AV} (hp : C.prim f = some p) : wkCall C call (.fn (.func f) a b) args H Q = primQ C Q p H (AV.bares (a ++ args ++ b)) (a ++ args ++ b) := by
  simp only [wkCall, callPA, callRA, hp, Option.isSome_some, Option.isNone_some, Bool.false_and, Bool.false_eq_true, if_false, Bool.true_or, if_true, primQ]
  cases AV.bares (a ++ args ++ b) with
  | some xs => simp only [bnd]; cases p xs <;> rfl
  | none =>
    simp only [bnd]
    cases AV.thaws H 1000 (a ++ args ++ b) with
    | none => rfl
    | some xs =>
      simp only [Option.bind_some]
      cases p xs with
      | none => rfl
      | some r =>
        simp only [Option.bind_some]
        cases plainA r <;> rfl
theorem wkCall_own {f : FuncId} {a b args : List AV} (hp : C.prim f = none) (ho : C.own f = false) : wkCall C call (.fn (.func f) a b) args H Q = bnd (call f (a ++ args ++ b) H) fun y => Q y.1 y.2 2 := by
  have : callPA C (ownCall call) (.fn (.func f) a b) args = none := by
    simp only [callPA, hp, ho]
    cases AV.bares (a ++ args ++ b) <;> rfl
  have h2 : callRA C (ownCall call) (.fn (.func f) a b) args H = none := by
    simp only [callRA, hp, ho, Option.isNone_none, Bool.true_and, Bool.false_and, Bool.false_eq_true, if_false]
    cases AV.bares (a ++ args ++ b) with
    | some xs => rfl
    | none => simp only; cases AV.thaws H 1000 (a ++ args ++ b) <;> rfl
  simp only [wkCall, this, h2, hp, ho]
  cases call f (a ++ args ++ b) H with
  | none => rfl
  | some y => obtain ⟨x, h⟩ := y; rfl

/-! ### Builtins -/
theorem op_len_ {as : Array Operand} {ts : Array TypeId} : wk1 C fid call ⟨d, .call ⟨.builtin .len, as, ts⟩, ty, pos, af, g⟩ env H Q = bnd (avals C env as.toList) fun args => bnd (lenA C ts args) (fun y => Q y H 0) := by
  unfold wk1 opA
  simp only [opP, opR, opW]
  cases h1 : avals C env as.toList with
  | none => rfl
  | some args => simp only [bnd_some]; cases h2 : lenA C ts args <;> simp only [bnd] 
variable (C) in
def appA (ts : Array TypeId) (args : List AV) (H : Hp) : Option (AV × Hp) := match args, (ts[0]?).bind (elemT C), (ts[1]?).bind C.und with
  | [s, x], some e, some (.slice _) | [s, x], some e, some .string => match zeroA C e, C.csz e with
    | some z, some n => if z.cells.length = n then appendA C e s x H else none
    | _, _ => none
  | [_, _], some _, some (.int .i64) => none
  | _, _, _ => none
variable (C) in
def appXA (ts : Array TypeId) (args : List AV) (H : Hp) : Option (AV × Hp) := match args, (ts[0]?).bind (elemT C), (ts[1]?).bind C.und with
  | [s, x], some e, some (.slice _) | [s, x], some e, some .string => match zeroA C e, C.csz e with
    | some z, some n => if z.cells.length = n then appendX C e s x H else none
    | _, _ => none
  | [s, x], some e, some (.int .i64) => appMk C e s x H
  | _, _, _ => none
variable (C) in
def appB (b : Bool) (ts : Array TypeId) (args : List AV) (H : Hp) : Option (AV × Hp) := match b with
  | true => appXA C ts args H
  | false => appA C ts args H
theorem appB_f {ts : Array TypeId} {args : List AV} : appB C false ts args H = appA C ts args H := rfl
theorem appB_t {ts : Array TypeId} {args : List AV} : appB C true ts args H = appXA C ts args H := rfl
theorem opW_append {as : Array Operand} {ts : Array TypeId} : opW C call fid ⟨d, .call ⟨.builtin .append, as, ts⟩, ty, pos, af, g⟩ env H = (avals C env as.toList).bind fun args => appB C (nbOf C fid d) ts args H := by
  simp only [opW]
  cases avals C env as.toList with
  | none => rfl
  | some args =>
    simp only [Option.bind_some]
    generalize nbOf C fid d = b
    cases b <;> rfl
theorem op_append_ {as : Array Operand} {ts : Array TypeId} : wk1 C fid call ⟨d, .call ⟨.builtin .append, as, ts⟩, ty, pos, af, g⟩ env H Q = bnd (avals C env as.toList) fun args => bnd (appB C (nbOf C fid d) ts args H) (fun y => Q y.1 y.2 (if nbOf C fid d then 2 else 3)) := by
  unfold wk1 opA
  rw [opW_append]
  have h1 : opP C (ownCall call) fid ⟨d, .call ⟨.builtin .append, as, ts⟩, ty, pos, af, g⟩ env = none := by
    simp only [opP]
    cases avals C env as.toList <;> rfl
  rw [h1]
  simp only [opR]
  cases avals C env as.toList with
  | none => rfl
  | some args =>
    simp only [bnd_some, Option.bind_some]
    cases appB C (nbOf C fid d) ts args H with
    | none => rfl
    | some y => obtain ⟨x, h⟩ := y; rfl
/-! ### Boxes -/
def boxW (gn : Nat) (y : AV) (H : Hp) (Q : AV → Hp → Nat → Prop) : Prop := if y.cells.all AV.flat then Q (.ptr H.blks.length gn 0 0) { H with blks := H.blks ++ [⟨gn, y.cells.length, [y]⟩] } 2 else False
def boxQ (gn : Nat) (ro : Bool) (y : AV) (H : Hp) (Q : AV → Hp → Nat → Prop) : Prop := match y.bare with
  | some z => if ro && z.cells.all AV.flat then Q (.rp z 0) H 0 else boxW gn y H Q
  | none => boxW gn y H Q
@[congr] theorem boxW_congr {gn : Nat} {y y' : AV} {H H' : Hp} (h : y = y') (k : H = H') : boxW gn y H Q = boxW gn y' H' Q := by rw [h, k]
@[congr] theorem boxQ_congr {gn : Nat} {ro ro' : Bool} {y y' : AV} {H H' : Hp} (j : ro = ro') (h : y = y') (k : H = H') : boxQ gn ro y H Q = boxQ gn ro' y' H' Q := by rw [h, k, j]
theorem op_box_ {t : Tmp} {e : TypeId} {x : Operand} : wk1 C fid call ⟨some t, .box e x, ty, pos, af, g⟩ env H Q = bnd (aval C env x) fun y => boxQ (genOf C e) (C.roBox fid t) y H Q := by
  unfold wk1 opA
  simp only [opP, opR, opW]
  cases aval C env x with
  | none => rfl
  | some y =>
    simp only [Option.bind_some, bnd_some, boxQ, boxW]
    cases y.bare with
    | none =>
      simp only
      by_cases hf : y.cells.all AV.flat = true
      · simp only [hf, if_true]; rfl
      · simp only [hf]; rfl
    | some z =>
      simp only
      by_cases hc : (C.roBox fid t && z.cells.all AV.flat) = true
      · simp only [hc, if_true]
      · simp only [hc]
        by_cases hf : y.cells.all AV.flat = true
        · simp only [hf, if_true]; rfl
        · simp only [hf]; rfl
/-! ### Values -/
theorem toV_int {k : IntKind} {n : Int} : (AV.v (.int k n)).toV = some (.int k n) := rfl
theorem toV_bool {b : Bool} : (AV.v (.bool b)).toV = some (.bool b) := rfl
theorem toV_string {s : ByteArray} : (AV.v (.string s)).toV = some (.string s) := rfl
section
variable {t : TypeId} {x y : Operand} {k : IntKind} {a b : Int}
theorem bin_add : binA C .add t x y (.v (.int k a)) (.v (.int k b)) = some (.v (.int k (k.wrap (a + b)))) := by simp [binA, toV_int, eqGuard, binOp, Op.intArith, pureRun, ofV, bind, Sem.bind, pure]
theorem bin_sub : binA C .sub t x y (.v (.int k a)) (.v (.int k b)) = some (.v (.int k (k.wrap (a - b)))) := by simp [binA, toV_int, eqGuard, binOp, Op.intArith, pureRun, ofV, bind, Sem.bind, pure]
theorem bin_mul : binA C .mul t x y (.v (.int k a)) (.v (.int k b)) = some (.v (.int k (k.wrap (a * b)))) := by simp [binA, toV_int, eqGuard, binOp, Op.intArith, pureRun, ofV, bind, Sem.bind, pure]
theorem bin_lss : binA C .lss t x y (.v (.int k a)) (.v (.int k b)) = some (.v (.bool (decide (a < b)))) := by simp [binA, toV_int, eqGuard, binOp, Op.intCmp, pureRun, ofV, bind, Sem.bind, pure]
theorem bin_leq : binA C .leq t x y (.v (.int k a)) (.v (.int k b)) = some (.v (.bool (decide (a ≤ b)))) := by simp [binA, toV_int, eqGuard, binOp, Op.intCmp, pureRun, ofV, bind, Sem.bind, pure]
theorem bin_gtr : binA C .gtr t x y (.v (.int k a)) (.v (.int k b)) = some (.v (.bool (decide (b < a)))) := by simp [binA, toV_int, eqGuard, binOp, Op.intCmp, pureRun, ofV, bind, Sem.bind, pure]
theorem bin_geq : binA C .geq t x y (.v (.int k a)) (.v (.int k b)) = some (.v (.bool (decide (b ≤ a)))) := by simp [binA, toV_int, eqGuard, binOp, Op.intCmp, pureRun, ofV, bind, Sem.bind, pure]
theorem bin_eql : binA C .eql t x y (.v (.int k a)) (.v (.int k b)) = some (.v (.bool (decide (a = b)))) := by simp [binA, toV_int, eqGuard, binOp, Op.intCmp, pureRun, ofV, bind, Sem.bind, pure]; rfl
theorem bin_neq : binA C .neq t x y (.v (.int k a)) (.v (.int k b)) = some (.v (.bool (!decide (a = b)))) := by simp [binA, toV_int, eqGuard, binOp, Op.intCmp, pureRun, ofV, bind, Sem.bind, pure, bne]; rfl
theorem bin_quo (h : b ≠ 0) : binA C .quo t x y (.v (.int k a)) (.v (.int k b)) = some (.v (.int k (k.wrap (a.tdiv b)))) := by simp [binA, toV_int, eqGuard, binOp, Op.intDiv, h, pureRun, ofV, bind, Sem.bind, pure]
theorem bin_rem (h : b ≠ 0) : binA C .rem t x y (.v (.int k a)) (.v (.int k b)) = some (.v (.int k (a.tmod b))) := by simp [binA, toV_int, eqGuard, binOp, Op.intDiv, h, pureRun, ofV, bind, Sem.bind, pure]
theorem un_neg : (pureRun C.P (Op.unary .neg (.int k a))).bind ofV = some (.v (.int k (k.wrap (0 - a)))) := by simp [Op.unary, Op.intArith, pureRun, ofV, pure]
theorem un_not {p : Bool} : (pureRun C.P (Op.unary .not (.bool p))).bind ofV = some (.v (.bool !p)) := by simp [Op.unary, pureRun, ofV, pure]
theorem conv_int {s t : TypeId} {k' j : IntKind} (hs : C.und s = some (.int j)) (ht : C.und t = some (.int k')) (hs' : C.P.underlying s = some (.int j)) (ht' : C.P.underlying t = some (.int k')) : convA C s t (.v (.int k a)) = some (.v (.int k' (k'.wrap a))) := by
  simp [convA, hs, ht, toV_int, convert, underlying, program, hs', ht', Conv.intToInt, pureRun, ofV, bind, Sem.bind, pure]
end
end
end Go.AM

namespace Go.AM
/-! ### Texts and bytes as lists -/
def str (l : List UInt8) : AV := .v (.string ⟨l.toArray⟩)
def byt (c : UInt8) : AV := .v (.int .u8 c.toNat)
def byts (l : List UInt8) : List AV := l.map byt
theorem str_of (s : ByteArray) : AV.v (.string s) = str s.data.toList := by cases s; simp [str]
theorem str_toList (l : List UInt8) : ({ data := l.toArray } : ByteArray).toList = l := by rw [ByteArray.toList_eq]
theorem bytesA_byts : ∀ l : List UInt8, bytesA (byts l) = some l
  | [] => rfl
  | c :: l => by
    have ih := bytesA_byts l
    simp only [byts] at ih
    simp [byts, byt, bytesA, ih]
section
variable {C : Cfg} {fid : FuncId} {call : FuncId → List AV → Hp → Option (AV × Hp)} {env : Env} {H : Hp}
theorem aval_str {a : Array UInt8} : aval C env (.const (.string ⟨a⟩)) = some (str a.toList) := by simp [aval, ofV, str]
section
variable {t : TypeId} {x y : Operand} {a b : List UInt8}
theorem bin_str {op : BinOp} {r : Value} (hop : ¬ (op = .shl ∨ op = .shr)) (h : Op.stringOp op ⟨a.toArray⟩ ⟨b.toArray⟩ = .pure r) (hr : Value.plain r = true) : binA C op t x y (str a) (str b) = some (.v r) := by
  have he : eqGuard op t x y (.string ⟨a.toArray⟩) (.string ⟨b.toArray⟩) = .pure () := by
    unfold eqGuard
    cases op <;> rfl
  have hb : binOp op t (.string ⟨a.toArray⟩) (.string ⟨b.toArray⟩) = Op.stringOp op ⟨a.toArray⟩ ⟨b.toArray⟩ := by
    cases op <;> first | rfl | exact absurd (by simp) hop
  simp only [binA, str, toV_string, he, hb, h, bind, Sem.bind, pureRun, Option.bind_some]
  cases r <;> first | rfl | cases hr
theorem beq_list : (a == b) = decide (a = b) := Bool.eq_iff_iff.2 (by simp)
theorem bin_str_eql : binA C .eql t x y (str a) (str b) = some (.v (.bool (decide (a = b)))) :=
  bin_str (by simp) (by simp only [Op.stringOp, str_toList, beq_list]; rfl) rfl
theorem bin_str_neq : binA C .neq t x y (str a) (str b) = some (.v (.bool (!decide (a = b)))) :=
  bin_str (by simp) (by simp only [Op.stringOp, str_toList, beq_list]; rfl) rfl
theorem bin_str_lss : binA C .lss t x y (str a) (str b) = some (.v (.bool (Op.bytesLess a b))) :=
  bin_str (by simp) (by simp only [Op.stringOp, str_toList]; rfl) rfl
theorem bin_str_leq : binA C .leq t x y (str a) (str b) = some (.v (.bool (Op.bytesLess a b || decide (a = b)))) :=
  bin_str (by simp) (by simp only [Op.stringOp, str_toList, beq_list]; rfl) rfl
theorem bin_str_gtr : binA C .gtr t x y (str a) (str b) = some (.v (.bool !(Op.bytesLess a b || decide (a = b)))) :=
  bin_str (by simp) (by simp only [Op.stringOp, str_toList, beq_list]; rfl) rfl
theorem bin_str_geq : binA C .geq t x y (str a) (str b) = some (.v (.bool !(Op.bytesLess a b))) :=
  bin_str (by simp) (by simp only [Op.stringOp, str_toList]; rfl) rfl
theorem len_ro {ts : Array TypeId} {e : TypeId} {xs : List AV} (h : (ts[0]?).bind C.und = some (.slice e)) : lenA C ts [.ro xs] = some (.v (.int .i64 xs.length)) := by
  simp only [lenA, h, elems, Option.map_some]
theorem len_cl {ts : Array TypeId} {e : TypeId} {f : Bool} {xs : List AV} (h : (ts[0]?).bind C.und = some (.slice e)) : lenA C ts [.cl f xs] = some (.v (.int .i64 xs.length)) := by
  simp only [lenA, h, elems, Option.map_some]
theorem len_ap {ts : Array TypeId} {e : TypeId} {n : Nat} {xs : List AV} (h : (ts[0]?).bind C.und = some (.slice e)) : lenA C ts [.ap n xs] = some (.v (.int .i64 xs.length)) := by
  simp only [lenA, h, elems, Option.map_some]
theorem len_nil {ts : Array TypeId} {e : TypeId} (h : (ts[0]?).bind C.und = some (.slice e)) : lenA C ts [.v (.slice none 0 0)] = some (.v (.int .i64 0)) := by
  simp only [lenA, h, elems, Option.map_some]
  rfl
theorem indexAddr_ro {k : IntKind} {i : Int} {e : TypeId} {n : Nat} {xs : List AV} {z : AV} (hu : C.und t = some (.slice e)) (hc : C.csz e = some (n + 1)) (h0 : 0 ≤ i) (h : xs[i.toNat]? = some z) (hz : z.cells.length = n + 1) : indexAddrA C t (.ro xs) (.v (.int k i)) = some (.rp z 0) := by
  simp only [indexAddrA, idx, h0, if_true, hu, hc, elems, Option.bind_some, h, hz]
theorem indexAddr_cl {k : IntKind} {i : Int} {e : TypeId} {n : Nat} {f : Bool} {xs : List AV} {z : AV} (hu : C.und t = some (.slice e)) (hc : C.csz e = some (n + 1)) (h0 : 0 ≤ i) (h : xs[i.toNat]? = some z) (hz : z.cells.length = n + 1) : indexAddrA C t (.cl f xs) (.v (.int k i)) = some (.rp z 0) := by
  simp only [indexAddrA, idx, h0, if_true, hu, hc, elems, Option.bind_some, h, hz]
theorem indexAddr_ap {k : IntKind} {i : Int} {e : TypeId} {n m : Nat} {xs : List AV} {z : AV} (hu : C.und t = some (.slice e)) (hc : C.csz e = some (n + 1)) (h0 : 0 ≤ i) (h : xs[i.toNat]? = some z) (hz : z.cells.length = n + 1) : indexAddrA C t (.ap m xs) (.v (.int k i)) = some (.rp z 0) := by
  simp only [indexAddrA, idx, h0, if_true, hu, hc, elems, Option.bind_some, h, hz]
theorem conv_str {s d e : TypeId} (hs : C.und s = some (.slice e)) (hd : C.und d = some .string) (he : isU8 C e = true) {z : AV} (hz : elems z = some (byts a)) : convA C s d z = some (str a) := by
  simp only [convA, hs, hd, he, if_true, hz, Option.bind_some, bytesA_byts, Option.map_some, str]
end
end
end Go.AM

namespace Go.AM
section
variable {C : Cfg} {call : FuncId → List AV → Hp → Option (AV × Hp)}
/-- A function's body, and what it hands back. -/
theorem call_of_exec (K : C.Ok) (hc : CallsOk C call) {n : Nat} {f : FuncId} {fn : Func} {body : Code} (hfn : C.fns f = some fn) (hb : fn.body = some body) {xs : List AV} {H H1 : Hp} {x : Xit} {env' : Env} {res : List AV}
    (hex : exec C f call n body (xs ++ List.replicate (fn.ntmps - xs.length) .undef) H = some (x, env', H1)) (hx : x = .normal ∨ x = .ret) (hres : resA C env' H1 fn.results.toList = some res) : CallOk C f xs H (resVal res) H1 := by
  intro G W vs S rv
  obtain ⟨hf, _⟩ := K.tab.fns f fn hfn
  have hlen := VRels.length rv
  have hat : At C G W [] (xs ++ List.replicate (fn.ntmps - xs.length) .undef) H { tmps := vs.toArray ++ Array.replicate (fn.ntmps - vs.toArray.size) Go.undef, defers := [] } W := by
    refine ⟨G, S, ?_, Adv.refl G W, rfl⟩
    unfold ERel
    simp only [Array.toList_append, Array.toList_replicate, List.size_toArray, hlen]
    exact VRels.append rv (VRels.replicate (VRel.undef _) _)
  refine calls_of_wp hf hb ((exec_ok K hc n).1 body _ H x env' H1 _ W _ hex (K.regions f fn body hfn hb) hat fun a' W' hat' => ?_)
  obtain ⟨G', S', E', A', hd⟩ := hat'
  obtain ⟨y, hy, ry⟩ := results_ok K.tab S' E' hres
  rcases hx with rfl | rfl
  · exact ⟨hd, y, hy, y, rfl, G', ry, S', A'⟩
  · exact ⟨hd, y, hy, y, rfl, G', ry, S', A'⟩

/-- No function that shares the heap. -/
def noCall : FuncId → List AV → Hp → Option (AV × Hp) := fun _ _ _ => none
theorem noCall_ok : CallsOk C noCall := ⟨fun _ _ _ _ _ h => by cases h⟩

variable (C) in
/-- How a function ends: what it hands back. -/
def EndsA (rs : List ResultVar) (R : AV → Hp → Prop) : Xit → Env → Hp → Prop := fun x env H => (x = .normal ∨ x = .ret) ∧ bnd (resA C env H rs) fun xs => R (resVal xs) H
theorem EndsA_ret {rs : List ResultVar} {R : AV → Hp → Prop} {env : Env} {H : Hp} : EndsA C rs R .ret env H = bnd (resA C env H rs) fun xs => R (resVal xs) H := by simp [EndsA]
theorem EndsA_normal {rs : List ResultVar} {R : AV → Hp → Prop} {env : Env} {H : Hp} : EndsA C rs R .normal env H = bnd (resA C env H rs) fun xs => R (resVal xs) H := by simp [EndsA]

/-- **A function's contract, by walking its body.** -/
theorem call_of_wk (K : C.Ok) (hc : CallsOk C call) {f : FuncId} {fn : Func} {body : Code} (hfn : C.fns f = some fn) (hb : fn.body = some body) {rs : List ResultVar} (hrs : fn.results.toList = rs) {xs : List AV} {H : Hp} {r : AV} {H' : Hp}
    (h : ∀ env : Env, env.length = xs.length + (fn.ntmps - xs.length) → (∀ (i : Nat) (x : AV), xs[i]? = some x → aget env i = x) → wk C f call body env H (EndsA C rs fun y H1 => y = r ∧ H1 = H')) : CallOk C f xs H r H' := by
  subst hrs
  obtain ⟨n, x, e, H1, h1, hx, h2⟩ := h (xs ++ List.replicate (fn.ntmps - xs.length) .undef) (by simp) (fun i x hi => by
    simp only [aget, List.getD_eq_getElem?_getD]
    rw [List.getElem?_append_left (List.getElem?_eq_some_iff.1 hi).1, hi]
    rfl)
  unfold bnd at h2
  split at h2
  · rename_i res hres
    obtain ⟨rfl, rfl⟩ := h2
    exact call_of_exec K hc hfn hb h1 hx hres
  · exact h2.elim
theorem pure_of_wk (K : C.Ok) (hc : CallsOk C call) {f : FuncId} {fn : Func} {body : Code} (hfn : C.fns f = some fn) (hb : fn.body = some body) {rs : List ResultVar} (hrs : fn.results.toList = rs) {xs : List AV} {r : AV}
    (h : ∀ env : Env, env.length = xs.length + (fn.ntmps - xs.length) → (∀ (i : Nat) (x : AV), xs[i]? = some x → aget env i = x) → wk C f call body env {} (EndsA C rs fun y H1 => ∃ n, y.thaw H1 n = some r)) : PureOk C f xs r := by
  subst hrs
  obtain ⟨n, x, e, H1, h1, hx, h2⟩ := h (xs ++ List.replicate (fn.ntmps - xs.length) .undef) (by simp) (fun i x hi => by
    simp only [aget, List.getD_eq_getElem?_getD]
    rw [List.getElem?_append_left (List.getElem?_eq_some_iff.1 hi).1, hi]
    rfl)
  unfold bnd at h2
  split at h2
  · rename_i res hres
    obtain ⟨m, hm⟩ := h2
    exact pureOk_of (call_of_exec K hc hfn hb h1 hx hres) hm
  · exact h2.elim

/-- The same of two machines over one program, whose variables hold the same. -/
theorem Sim.other {C C' : Cfg} (hg : C'.gl = C.gl) (hs : C'.csz = C.csz) {G : Gs} {H : Hp} {W : World} (S : Sim C G H W) : Sim C' G H W :=
  ⟨S.base, S.im, S.lit, S.own, fun t e tid h hi => by
    obtain ⟨y, size, vals, h1, h2, h3, h4⟩ := S.tok t e tid h (by rw [← hs]; exact hi)
    exact ⟨y, size, vals, h1, h2, by rw [hs]; exact h3, h4⟩, S.tokN, S.blk, S.blkN, fun g x h => S.gl g x (by rw [← hg]; exact h), S.mp, S.mpN⟩
theorem PureOk.other {C C' : Cfg} (hp : C'.P = C.P) (hg : C'.gl = C.gl) (hs : C'.csz = C.csz) {f : FuncId} {xs : List AV} {r : AV} (h : PureOk C f xs r) : PureOk C' f xs r := by
  intro G H W vs S rv hb
  have := h G H W vs (Sim.other hg.symm hs.symm S) rv hb
  rw [hp]
  exact this.mono fun e W' ⟨y, he, G', ry, S', A⟩ => ⟨y, he, G', ry, Sim.other hg hs S', A⟩
end
end Go.AM

namespace Go.AM
open Go.ChangeShapes Go.WideShapes Go.RowKit
section
variable (P : Program)
/-- Fields' parts, one behind the other. -/
def ArgF (f : TypeId → List AV → Prop) : List Field → List AV → Prop
  | [], xs => xs = []
  | g :: gs, xs => ∃ a b, xs = a ++ b ∧ f g.type a ∧ ArgF f gs b
/-- The cells of something that a call may be handed. -/
def ArgC : Nat → TypeId → List AV → Prop
  | 0, _, _ => False
  | n + 1, t, xs => match P.underlying t with
    | some .bool => ∃ b, xs = [.v (.bool b)]
    | some (.int k) => ∃ i, xs = [.v (.int k i)] ∧ (Lit.int k i).wf = true
    | some .string => ∃ l, xs = [str l] ∧ l.length ≤ maxLen
    | some (.slice e) => xs = [.v (.slice none 0 0)] ∨ ∃ ys, xs = [.ro ys] ∧ ys.length ≤ maxLen ∧ ∀ y ∈ ys, ∃ cs, ArgC n e cs ∧ oneA (aggT P e) cs = some y
    | some (.pointer e) => xs = [.v (.pointer none)] ∨ ∃ y cs, xs = [.rp y 0] ∧ ArgC n e cs ∧ oneA (aggT P e) cs = some y
    | some (.struct fs) => ArgF (ArgC n) fs.toList xs
    | some (.array k e) => ∃ xss : List (List AV), xs = xss.flatten ∧ xss.length = k ∧ ∀ x ∈ xss, ArgC n e x
    | _ => False
/-- Types that are known whole. -/
def closedT (S : List TypeId) : Bool := S.all fun t => match P.underlying t with
  | some .bool | some (.int _) | some .string => true
  | some (.slice e) | some (.pointer e) => decide (0 < P.cellsOf e) && S.contains e
  | some (.struct fs) => tilesB P 0 fs.toList && (P.cellsOf t == (fs.toList.map fun f => P.cellsOf f.type).sum) && fs.toList.all fun f => S.contains f.type
  | some (.array k e) => (P.cellsOf t == k * P.cellsOf e) && S.contains e
  | _ => false
end
section
variable {H : Type} {enc : TypeId × Value → H} {P : Program} {w : World} {base : Nat} {spare : Nat → Bool} {held : Bool}
theorem mapA_some {α β : Type} {f : α → Option β} : ∀ {xs : List α}, (∀ x ∈ xs, ∃ y, f x = some y) → ∃ ys, mapA f xs = some ys
  | [], _ => ⟨[], rfl⟩
  | x :: xs, h => by
    obtain ⟨y, hy⟩ := h x (by simp)
    obtain ⟨ys, hys⟩ := mapA_some (xs := xs) fun z hz => h z (by simp [hz])
    exact ⟨y :: ys, by simp [mapA, hy, hys]⟩
theorem mapA_mem {α β : Type} {f : α → Option β} : ∀ {xs : List α} {ys : List β}, mapA f xs = some ys → ∀ y ∈ ys, ∃ x ∈ xs, f x = some y
  | [], ys, h, y, hy => by simp only [mapA, Option.some.injEq] at h; subst h; cases hy
  | x :: xs, ys, h, y, hy => by
    simp only [mapA] at h
    split at h
    · rename_i z zs h1 h2
      injection h with h; subst h
      rcases List.mem_cons.1 hy with rfl | hy
      · exact ⟨x, by simp, h1⟩
      · obtain ⟨u, hu, he⟩ := mapA_mem h2 y hy
        exact ⟨u, by simp [hu], he⟩
    · cases h
theorem zipA_arg {f : TypeId → DataW H → Option (List AV)} {A : TypeId → List AV → Prop} : ∀ {fs : List Field} {ds : List (DataW H)}, ds.length = fs.length → (∀ (i : Nat) (g : Field) d, fs[i]? = some g → ds[i]? = some d → ∃ xs, f g.type d = some xs ∧ A g.type xs) → ∃ xs, zipA f fs ds = some xs ∧ ArgF A fs xs
  | [], [], _, _ => ⟨[], rfl, rfl⟩
  | [], _ :: _, h, _ => by simp at h
  | _ :: _, [], h, _ => by simp at h
  | g :: fs, d :: ds, h, k => by
    obtain ⟨x, h1, h2⟩ := k 0 g d rfl rfl
    obtain ⟨xs, h3, h4⟩ := zipA_arg (fs := fs) (ds := ds) (by simpa using h) fun i g' d' hg hd => k (i + 1) g' d' (by simpa using hg) (by simpa using hd)
    exact ⟨x ++ xs, by simp [zipA, h1, h3], x, xs, rfl, h2, h4⟩
theorem oneA_some {e : TypeId} {xs : List AV} {cs : List Value} (o : Opened P w e xs cs) : ∃ y, oneA (aggT P e) xs = some y := by
  unfold oneA
  split
  · exact ⟨_, rfl⟩
  · rename_i hg
    obtain ⟨x, c, rfl, _, _⟩ := o.len (by simpa using hg)
    exact ⟨_, rfl⟩
/-- **What a call is handed, in the abstract machine.** -/
theorem trod_arg {S : List TypeId} (hS : closedT P S = true) : ∀ {fuel : Nat} {t : TypeId} {cs : List Value} {d : DataW H} {ps : List MemPlace}, t ∈ S → DataW.trod enc P w base spare held fuel t cs = some (d, ps) → ∃ xs, avC P fuel t d = some xs ∧ ArgC P fuel t xs
  | 0, _, _, _, _, _, h => by simp [DataW.trod] at h
  | n + 1, t, cs, d, ps, ht, h => by
    have hc := List.all_eq_true.1 hS t ht
    unfold avC ArgC
    split at hc
    · rename_i hu
      obtain ⟨b, rfl, hx⟩ := DataW.trod_bool hu h
      injection hx with h1 h2; subst h1
      simp only [hu]
      exact ⟨_, rfl, b, rfl⟩
    · rename_i k hu
      obtain ⟨i, rfl, hx, hw⟩ := DataW.trod_int hu h
      injection hx with h1 h2; subst h1
      simp only [hu]
      exact ⟨_, rfl, i, rfl, hw⟩
    · rename_i hu
      obtain ⟨s, rfl, hx, hw⟩ := DataW.trod_string hu h
      injection hx with h1 h2; subst h1
      simp only [hu]
      exact ⟨_, rfl, s.data.toList, rfl, by rw [ByteArray.size] at hw; simpa using hw⟩
    · rename_i e hu
      simp only [Bool.and_eq_true, decide_eq_true_eq, List.contains_iff_mem] at hc
      obtain ⟨hpos, he⟩ := hc
      rcases DataW.trod_slice hu h with ⟨rfl, hx⟩ | ⟨a, len, cap, elems, rest, n', hn, rfl, hx, _, hcap, hcap', hlen, hel, _⟩
      · injection hx with h1 h2; subst h1
        simp only [hu]
        exact ⟨_, rfl, .inl rfl⟩
      · injection hx with h1 h2; subst h1
        injection hn with hn; subst hn
        simp only [hu, hpos, if_true]
        have key : ∀ d ∈ elems.map (·.1), ∃ y, (avC P n e d).bind (oneA (aggT P e)) = some y ∧ ∃ cs, ArgC P n e cs ∧ oneA (aggT P e) cs = some y := by
          intro d hd
          obtain ⟨p, hp, rfl⟩ := List.mem_map.1 hd
          obtain ⟨i, hi⟩ := List.getElem?_of_mem hp
          have hil : i < elems.length := (List.getElem?_eq_some_iff.1 hi).1
          have he' := hel i (by omega)
          rw [hi] at he'
          simp only [Option.bind_eq_some_iff] at he'
          obtain ⟨cs', _, hd'⟩ := he'
          obtain ⟨xs, h1, h2⟩ := trod_arg hS (d := p.1) (ps := p.2) he hd'
          obtain ⟨y, hy⟩ := oneA_some (trod_av n (d := p.1) (ps := p.2) hd' h1)
          exact ⟨y, by simp [h1, hy], xs, h2, hy⟩
        obtain ⟨ys, hys⟩ := mapA_some fun d hd => (key d hd).imp fun _ h => h.1
        refine ⟨_, by rw [hys]; rfl, .inr ⟨ys, rfl, ?_, fun y hy => ?_⟩⟩
        · rw [(mapA_get hys).1]; simp; omega
        · obtain ⟨d, hd, he⟩ := mapA_mem hys y hy
          obtain ⟨y', h1, h2⟩ := key d hd
          rw [he] at h1
          injection h1 with h1; subst h1
          exact h2
    · rename_i e hu
      simp only [Bool.and_eq_true, decide_eq_true_eq, List.contains_iff_mem] at hc
      obtain ⟨hpos, he⟩ := hc
      rcases DataW.trod_pointer hu h with ⟨rfl, hx⟩ | ⟨a, cs', y, n', hn, rfl, hx, hc, hy⟩
      · injection hx with h1 h2; subst h1
        simp only [hu]
        exact ⟨_, rfl, .inl rfl⟩
      · injection hx with h1 h2; subst h1
        injection hn with hn; subst hn
        simp only [hu, hpos, if_true]
        obtain ⟨xs, h1, h2⟩ := trod_arg hS (d := y.1) (ps := y.2) he hy
        obtain ⟨z, hz⟩ := oneA_some (trod_av n (d := y.1) (ps := y.2) hy h1)
        refine ⟨[.rp z 0], by simp [h1, hz], .inr ⟨z, xs, rfl, h2, hz⟩⟩
    · rename_i fs hu
      simp only [Bool.and_eq_true, List.all_eq_true, List.contains_iff_mem] at hc
      obtain ⟨hc, hin⟩ := hc
      obtain ⟨ps', m, hn, hx, hl, hlen, hf⟩ := DataW.trod_struct hu h
      injection hx with h1 h2; subst h1
      injection hn with hn; subst hn
      simp only [hu, hc, Bool.and_eq_true, and_self, if_true]
      refine zipA_arg (by simp [hlen]) fun i g d hg hd => ?_
      have h1 := hf i g (by simpa using hg)
      rw [List.getElem?_map] at hd
      rw [Option.map_eq_some_iff] at hd
      obtain ⟨p, hp, rfl⟩ := hd
      rw [hp] at h1
      exact trod_arg hS (d := p.1) (ps := p.2) (hin g (List.mem_of_getElem? hg)) h1
    · rename_i k e hu
      simp only [Bool.and_eq_true, beq_iff_eq, List.contains_iff_mem] at hc
      obtain ⟨hcs, he⟩ := hc
      obtain ⟨ps', m, hn, hx, hl, hlen, hf⟩ := DataW.trod_array hu h
      injection hx with h1 h2; subst h1
      injection hn with hn; subst hn
      simp only [hu, hcs, if_true]
      have key : ∀ d ∈ ps'.map (·.1), ∃ y, avC P n e d = some y ∧ ArgC P n e y := by
        intro d hd
        obtain ⟨p, hp, rfl⟩ := List.mem_map.1 hd
        obtain ⟨i, hi⟩ := List.getElem?_of_mem hp
        have hil : i < ps'.length := (List.getElem?_eq_some_iff.1 hi).1
        have h1 := hf i (by omega)
        rw [hi] at h1
        exact trod_arg hS (d := p.1) (ps := p.2) he h1
      obtain ⟨ys, hys⟩ := mapA_some fun d hd => (key d hd).imp fun _ h => h.1
      refine ⟨ys.flatten, by rw [hys]; rfl, ys, rfl, ?_, fun y hy => ?_⟩
      · rw [(mapA_get hys).1]; simp [hlen]
      · obtain ⟨d, hd, he'⟩ := mapA_mem hys y hy
        obtain ⟨y', h1, h2⟩ := key d hd
        rw [he'] at h1
        injection h1 with h1; subst h1
        exact h2
    · cases hc

variable (P) in
/-- .. one argument, .. all. -/
def Arg (t : TypeId) (x : AV) : Prop := ∃ n cs, ArgC P n t cs ∧ oneA (aggT P t) cs = some x
variable (P) in
def Args : List TypeId → List AV → Prop
  | [], xs => xs = []
  | t :: ts, xs => ∃ y ys, xs = y :: ys ∧ Arg P t y ∧ Args ts ys
theorem cells_plain {v : Value} {c : Value} (h : v.cells.toList = [c]) (hp : Value.plain v = true) : v = c := by
  rw [plain_of_not_agg hp] at h
  simpa using h
theorem okWide_arr {k : Nat} {e : TypeId} {t : TypeId} {v : Value} {r : Reach} {b0 : Nat} (ht : P.underlying t = some (.array k e)) (h : Value.okWide P w r b0 t v) : ∃ cs, v = .agg cs := by
  simp only [Value.okWide, ht] at h
  obtain ⟨cs, h1, _⟩ := h
  exact ⟨cs, h1⟩
theorem trod_one {S : List TypeId} (hS : closedT P S = true) {t : TypeId} (ht : t ∈ S) {v : Value} {d : DataW H} {ps : List MemPlace} (h : DataW.Trod enc P w base spare held t v d ps) {r : Reach} {b0 : Nat} (hv : Value.okWide P w r b0 t v) :
    ∃ x, Arg P t x ∧ VRel (Gs.start w).g x v ∧ Bare x := by
  obtain ⟨fuel, h⟩ := h
  obtain ⟨xs, h1, h2⟩ := trod_arg hS ht h
  have o := trod_av fuel h h1
  obtain ⟨x, hx⟩ := oneA_some o
  refine ⟨x, ⟨fuel, xs, h2, hx⟩, ?_⟩
  have hc := List.all_eq_true.1 hS t ht
  have plain : aggT P t = false → Value.plain v = true → VRel (Gs.start w).g x v ∧ Bare x := by
    intro ha hp
    obtain ⟨y, c, rfl, hcs, hcp⟩ := o.len ha
    unfold oneA at hx
    rw [ha] at hx
    simp only [Bool.false_eq_true, if_false, Option.some.injEq] at hx
    subst hx
    have e1 := cells_plain hcs hp
    obtain ⟨c', cs', e, r2, _⟩ := o.rel
    rw [hcs] at e
    injection e with e e'
    rw [e1, e]
    exact ⟨r2, o.bare.1⟩
  split at hc
  · rename_i hu
    obtain ⟨b, rfl⟩ := okWide_bool hu hv
    exact plain (by simp [aggT, hu]) rfl
  · rename_i k hu
    obtain ⟨b, rfl⟩ := okWide_int hu hv
    exact plain (by simp [aggT, hu]) rfl
  · rename_i hu
    obtain ⟨b, rfl⟩ := okWide_string hu hv
    exact plain (by simp [aggT, hu]) rfl
  · rename_i e hu
    obtain ⟨a, b, c, rfl⟩ := okWide_slice hu hv
    exact plain (by simp [aggT, hu]) rfl
  · rename_i e hu
    obtain ⟨a, rfl⟩ := okWide_pointer hu hv
    exact plain (by simp [aggT, hu]) rfl
  · rename_i fs hu
    obtain ⟨cs, rfl, _⟩ := okWide_struct hu hv
    have ha : aggT P t = true := by simp [aggT, hu]
    unfold oneA at hx
    rw [ha] at hx
    simp only [if_true, Option.some.injEq] at hx
    subst hx
    exact ⟨⟨cs, rfl, o.rel⟩, o.bare⟩
  · rename_i k e hu
    obtain ⟨cs, rfl⟩ := okWide_arr hu hv
    have ha : aggT P t = true := by simp [aggT, hu]
    unfold oneA at hx
    rw [ha] at hx
    simp only [if_true, Option.some.injEq] at hx
    subst hx
    exact ⟨⟨cs, rfl, o.rel⟩, o.bare⟩
  · cases hc
theorem trod_args {S : List TypeId} (hS : closedT P S = true) : ∀ {ts : List TypeId} {vs : List Value} {ds : List (DataW H)} {ps : List MemPlace}, (∀ t ∈ ts, t ∈ S) → DataW.TrodAll enc P w base spare held ts vs ds ps → ∀ {r : Reach} {b0 : Nat},
    (∀ (j : Nat) t v, ts[j]? = some t → vs[j]? = some v → Value.okWide P w r b0 t v) → ∃ xs, Args P ts xs ∧ VRels (Gs.start w).g xs vs ∧ Bares xs
  | [], [], [], _, _, _, _, _, _ => ⟨[], rfl, rfl, trivial⟩
  | t :: ts, v :: vs, d :: ds, ps, hin, ⟨p, q, h1, h2, _⟩, r, b0, hv => by
    obtain ⟨x, a, rx, bx⟩ := trod_one hS (hin t (by simp)) h1 (hv 0 t v rfl rfl)
    obtain ⟨xs, as, rxs, bxs⟩ := trod_args hS (ts := ts) (fun t' h => hin t' (by simp [h])) h2 fun j t' v' hj hv' => hv (j + 1) t' v' (by simpa using hj) (by simpa using hv')
    exact ⟨x :: xs, ⟨x, xs, rfl, a, as⟩, ⟨v, vs, rfl, rx, rxs⟩, bx, bxs⟩
  | [], [], _ :: _, _, _, h, _, _, _ => h.elim
  | [], _ :: _, _, _, _, h, _, _, _ => h.elim
  | _ :: _, [], _, _, _, h, _, _, _ => h.elim
  | _ :: _, _ :: _, [], _, _, h, _, _, _ => h.elim
/-- The arguments read behind the call as they did. -/
theorem trodAll_below (hl : laidOutB P = true) {sp : Nat → Bool} : ∀ {ts : List TypeId} {vs : List Value} {ds : List (DataW H)} {ps : List MemPlace} {W W' : World}, (∀ t ∈ ts, P.readableRec t = true ∧ t < P.types.size) → DataW.TrodAll enc P W 0 (fun _ => true) true ts vs ds ps → Below W.heap.size W W' → (∀ x ∈ ps, x.block < W.heap.size) → (∀ x ∈ ps, sp x.block = true) →
    DataW.TrodAll enc P W' 0 sp true ts vs ds ps
  | [], [], [], _, _, _, _, h, _, _, _ => h
  | t :: ts, v :: vs, d :: ds, ps, W, W', hin, ⟨p, q, h1, h2, e⟩, hb, hlt, hsp => by
    subst e
    exact ⟨p, q, WideElems.Trod_stays hl (hin t (by simp)).1 (hin t (by simp)).2 h1 (fun x hx => hb.same (hlt x (by simp [hx]))) (fun x hx => hsp x (by simp [hx])), trodAll_below hl (fun t' h => hin t' (by simp [h])) h2 hb (fun x hx => hlt x (by simp [hx])) (fun x hx => hsp x (by simp [hx])), rfl⟩
  | [], [], _ :: _, _, _, _, _, h, _, _, _ => h.elim
  | [], _ :: _, _, _, _, _, _, h, _, _, _ => h.elim
  | _ :: _, [], _, _, _, _, _, h, _, _, _ => h.elim
  | _ :: _, _ :: _, [], _, _, _, _, h, _, _, _ => h.elim
end
/-- **A law, by its contract.** -/
theorem pure_calls {C : Cfg} {f : FuncId} {xs : List AV} (h : PureOk C f xs (.v (.bool true))) {W : World} {vs : List Value}
    (hgl : ∀ g x, C.gl g = some x → ∃ z, x.toV = some z ∧ ∀ (j : Nat) v, z.cells.toList[j]? = some v → W.cell? ⟨g, j, none⟩ = some v ∧ v.oneCell' = true) (rv : VRels (Gs.start W).g xs vs) (hb : Bares xs) :
    Calls C.P f vs.toArray W fun e W' => e = .returned (.bool true) ∧ Below W.heap.size W W' := by
  refine (h (Gs.start W) {} W vs (Sim.start hgl) rv hb).mono fun e W' ⟨y, he, G', r, S, A⟩ => ?_
  obtain rfl : y = .bool true := r.1
  exact ⟨he, A.os, A.tape, A.output, A.size, fun B hB => A.frame B hB rfl (fun h => h.elim)⟩
end Go.AM

namespace Go.AM
open Go.ChangeShapes Go.WideShapes Go.RowKit
section
variable {H : Type} {enc : TypeId × Value → H} {P : Program}
/-- **A law's contract as its row asks for it**: it returns true, and its arguments read as they did. -/
theorem law_contract {C : Cfg} (hP : C.P = P) {S : List TypeId} (hS : closedT P S = true) (hl : laidOutB P = true) {f : FuncId} {fn : Func} {s : ChangeSpec} {tb : TypeId} (hs : ∀ (ds : List (DataW H)), ds.length = fn.params.size → s.fn H (ds ++ []) = { results := [.lit (.bool true)], args := ds }) (hvars : s.vars = [])
    (hrt : fn.resultTypes = #[tb]) (hub : P.underlying tb = some .bool) (hpar : fn.params.toList.all (fun t => S.contains t && P.readableRec t && decide (t < P.types.size)) = true) (core : ∀ xs, Args P fn.params.toList xs → PureOk C f xs (.v (.bool true)))
    {W : World} {base : Nat} {args : Array Value} {ds gs : List (DataW H)} {before : List MemPlace} (hval : ∀ (j : Nat) t v, fn.params[j]? = some t → args[j]? = some v → Value.okWide P W .any base t v)
    (hW : DataW.Whole enc P fn.params.toList s.vars false W args.toList ds gs before)
    (hgl : ∀ g x, C.gl g = some x → ∃ z, x.toV = some z ∧ ∀ (j : Nat) v, z.cells.toList[j]? = some v → W.cell? ⟨g, j, none⟩ = some v ∧ v.oneCell' = true) :
    Calls P f args W fun e W' => ∃ v, e = .returned v ∧ s.post enc P fn false true false false W args v W' := by
  subst hP
  have hW' := hW
  obtain ⟨p, q, hA, hV, rfl, hfz, hnd⟩ := hW
  rw [hvars] at hV
  obtain ⟨rfl, rfl⟩ := trodVars_none hV
  simp only [List.all_eq_true, Bool.and_eq_true, List.contains_iff_mem, decide_eq_true_eq] at hpar
  obtain ⟨xs, ha, rv, hb⟩ := trod_args hS (fun t h => (hpar t h).1.1) hA (r := .any) (b0 := base) fun j t v hj hv => hval j t v (by simpa using hj) (by simpa using hv)
  have hlen : ds.length = fn.params.size := by
    have : ∀ {ts : List TypeId} {vs : List Value} {ds : List (DataW H)} {ps : List MemPlace}, DataW.TrodAll enc C.P W 0 (fun _ => true) true ts vs ds ps → ds.length = ts.length := by
      intro ts
      induction ts with
      | nil => intro vs ds ps h; cases vs <;> cases ds <;> first | rfl | exact h.elim
      | cons t ts ih =>
        intro vs ds ps h
        cases vs <;> cases ds <;> first | exact h.elim | skip
        obtain ⟨p, q, _, h2, _⟩ := h
        simp [ih h2]
    simpa using this hA
  refine (pure_calls (core xs ha) hgl rv hb).mono fun e W' ⟨he, hbl⟩ => ?_
  subst he
  simp only [List.append_nil] at hW'
  have hfn := hs ds hlen
  refine ⟨_, rfl, post_of_below (pa := p) (pv := []) hW' (fun b sp hd => ?_) (fun sp hsp => ?_) (fun _ _ => ?_) (by simp) hbl (ok_one hrt rfl (okWide_bool_mk hub _))⟩
  · rw [hfn, hrt]
    exact trodAll_cons_mk (shut_bool hub _) trodAll_mk0
  · rw [hfn]
    exact trodAll_below hl (fun t h => ⟨(hpar t h).1.2, (hpar t h).2⟩) hA hbl (fun x hx => hW'.lt x hx) hsp
  · rw [hvars, hfn]
    exact rfl
end
end Go.AM

namespace Go.AM
/-- What a walk is to leave alone till it comes there: an argument on which a later one's type hangs. -/
structure Tag.{u} {α : Sort u} (a : α) : Type where
  mk ::
section
variable (C : Cfg) (fid : FuncId) (call : FuncId → List AV → Hp → Option (AV × Hp))
def wkT (c : Code) (Q : Xit → Env → Hp → Prop) (_ : Tag c) (_ : Tag Q) (env : Env) (H : Hp) : Prop := wk C fid call c env H Q
def wksT (ops : Array Oper) (l : List Oper) (Q : Env → Hp → List Nat → Prop) (_ : Tag ops) (_ : Tag l) (_ : Tag Q) (env : Env) (H : Hp) (ks : List Nat) : Prop := wks C fid call ops l env H ks Q
def wk1T (o : Oper) (Q : AV → Hp → Nat → Prop) (_ : Tag o) (_ : Tag Q) (env : Env) (H : Hp) : Prop := wk1 C fid call o env H Q
end
def bndT {α : Type} (K : α → Prop) (_ : Tag K) (o : Option α) : Prop := bnd o K
def condT (A B : Prop) (_ : Tag A) (_ : Tag B) (t : Bool) : Prop := condQ t A B
def condVT (A B : Prop) (_ : Tag A) (_ : Tag B) (x : AV) : Prop := condV x A B
def boxT (Q : AV → Hp → Nat → Prop) (_ : Tag Q) (gn : Nat) (ro : Bool) (y : AV) (H : Hp) : Prop := boxQ gn ro y H Q
def callT (C : Cfg) (call : FuncId → List AV → Hp → Option (AV × Hp)) (Q : AV → Hp → Nat → Prop) (_ : Tag Q) (f : AV) (args : List AV) (H : Hp) : Prop := wkCall C call f args H Q
def convT (C : Cfg) (Q : AV → Hp → Nat → Prop) (_ : Tag Q) (b : Bool) (o : Option AV) (s t : TypeId) (a : AV) (H : Hp) : Prop := convQ C b o s t a H Q
def primT (C : Cfg) (Q : AV → Hp → Nat → Prop) (_ : Tag Q) (p : List AV → Option AV) (H : Hp) (o : Option (List AV)) (ys : List AV) : Prop := primQ C Q p H o ys
def guardT (A B : Prop) (_ : Tag A) (_ : Tag B) (o : Option Bool) (w : Bool) : Prop := (o = some w → A) ∧ (o ≠ some w → B)

section
variable {C : Cfg} {fid : FuncId} {call : FuncId → List AV → Hp → Option (AV × Hp)} {env : Env} {H : Hp}
theorem wkT_of {c : Code} {Q : Xit → Env → Hp → Prop} (h : wkT C fid call c Q ⟨⟩ ⟨⟩ env H) : wk C fid call c env H Q := h
section
variable {Q : Xit → Env → Hp → Prop} {v : Tag Q}
theorem wt_skip {u : Tag Code.skip} : wkT C fid call .skip Q u v env H = Q .normal env H := wk_skip
theorem wt_ret {u : Tag Code.ret} : wkT C fid call .ret Q u v env H = Q .ret env H := wk_ret
theorem wt_exit {i : Nat} {u : Tag (Code.exit i)} : wkT C fid call (.exit i) Q u v env H = Q (.exit i) env H := wk_exit
theorem wt_seq {a b : Code} {u : Tag (Code.seq a b)} : wkT C fid call (.seq a b) Q u v env H = wkT C fid call a (andThen (fun e h => wkT C fid call b Q ⟨⟩ ⟨⟩ e h) Q) ⟨⟩ ⟨⟩ env H := wk_seq
theorem wt_block {i : Nat} {b : Code} {u : Tag (Code.block i b)} : wkT C fid call (.block i b) Q u v env H = wkT C fid call b (leave i Q) ⟨⟩ ⟨⟩ env H := wk_block
theorem wt_cond {x : Operand} {a b : Code} {u : Tag (Code.cond x a b)} : wkT C fid call (.cond x a b) Q u v env H = bndT (fun y => condVT (wkT C fid call a Q ⟨⟩ ⟨⟩ env H) (wkT C fid call b Q ⟨⟩ ⟨⟩ env H) ⟨⟩ ⟨⟩ y) ⟨⟩ (aval C env x) := wk_cond_
theorem wt_region {i : Nat} {l : List Oper} {d : Bool} {u : Tag (Code.region i l.toArray d)} : wkT C fid call (.region i l.toArray d) Q u v env H = wksT C fid call l.toArray l (fun e h ks => (!d || ordered l.toArray ks) = true ∧ Q .normal e h) ⟨⟩ ⟨⟩ ⟨⟩ env H [] := wk_region
/-- **A loop.** -/
theorem wt_loop {b : Code} {u : Tag (Code.loop b)} (I : Nat → Env → Hp → Prop) (step : ∀ m e h, I m e h → wkT C fid call b (andThen (fun e h => ∃ k, k < m ∧ I k e h) Q) ⟨⟩ ⟨⟩ e h) {m : Nat} (h0 : I m env H) : wkT C fid call (.loop b) Q u v env H := wk_loop I step h0
theorem wt_loop_unfold {b : Code} {u : Tag (Code.loop b)} : wkT C fid call (.loop b) Q u v env H = wkT C fid call b (andThen (fun e h => wkT C fid call (.loop b) Q ⟨⟩ ⟨⟩ e h) Q) ⟨⟩ ⟨⟩ env H := wk_loop_unfold
end
theorem ct_bool {A B : Prop} {u : Tag A} {v : Tag B} {t : Bool} : condVT A B u v (.v (.bool t)) = condT A B u v t := rfl
theorem ct_true {A B : Prop} {u : Tag A} {v : Tag B} : condT A B u v true = A := condQ_true
theorem ct_false {A B : Prop} {u : Tag A} {v : Tag B} : condT A B u v false = B := condQ_false
theorem bt_some {α : Type} {K : α → Prop} {u : Tag K} {x : α} : bndT K u (some x) = K x := rfl
section
variable {ops : Array Oper} {ks : List Nat} {Q : Env → Hp → List Nat → Prop} {u : Tag ops} {w : Tag Q}
theorem wst_nil {v : Tag ([] : List Oper)} : wksT C fid call ops [] Q u v w env H ks = Q env H ks := rfl
theorem wst_cons {d : Option Tmp} {op : Op} {ty : TypeId} {pos : String} {af : Array Edge} {l : List Oper} {v : Tag (⟨d, op, ty, pos, af, none⟩ :: l)} :
    wksT C fid call ops (⟨d, op, ty, pos, af, none⟩ :: l) Q u v w env H ks = wk1T C fid call ⟨d, op, ty, pos, af, none⟩ (fun x h k => wksT C fid call ops l Q u ⟨⟩ w (aput env d x) h (ks ++ [k])) ⟨⟩ ⟨⟩ env H := wks_cons rfl
theorem wst_guard {d : Option Tmp} {op : Op} {ty : TypeId} {pos : String} {af : Array Edge} {l : List Oper} {j : Nat} {b : Bool} {v : Tag (⟨d, op, ty, pos, af, some (j, b)⟩ :: l)} :
    wksT C fid call ops (⟨d, op, ty, pos, af, some (j, b)⟩ :: l) Q u v w env H ks = guardT (wk1T C fid call ⟨d, op, ty, pos, af, some (j, b)⟩ (fun x h k => wksT C fid call ops l Q u ⟨⟩ w (aput env d x) h (ks ++ [k])) ⟨⟩ ⟨⟩ env H) (wksT C fid call ops l Q u ⟨⟩ w (aput env d .undef) H (ks ++ [0])) ⟨⟩ ⟨⟩ (yieldA ops env j) b := wks_guard rfl
end
theorem gt_some {A B : Prop} {u : Tag A} {v : Tag B} {t w : Bool} : guardT A B u v (some t) w = condT A B u v (t == w) := by
  simp only [guardT, condT, condQ, Option.some.injEq, ne_eq, beq_iff_eq, beq_eq_false_iff_ne]
def boolOf : AV → Option Bool
  | .v (.bool b) => some b
  | _ => none
def yldOf (env : Env) : Option Tmp → Option Bool
  | some d => boolOf (aget env d)
  | none => none
theorem yieldA_eq {ops : Array Oper} {j : Nat} : yieldA ops env j = yldOf env ((ops[j]?).bind (·.dst)) := by
  unfold yieldA yldOf boolOf
  cases (ops[j]?).bind (·.dst) <;> rfl
theorem yldOf_some {d : Tmp} : yldOf env (some d) = boolOf (aget env d) := rfl
theorem boolOf_bool {b : Bool} : boolOf (.v (.bool b)) = some b := rfl
theorem boolOf_undef : boolOf .undef = none := rfl
theorem gt_none {A B : Prop} {u : Tag A} {v : Tag B} {w : Bool} : guardT A B u v none w = B := by
  simp [guardT]
theorem bq_true {b : Bool} : (b == true) = b := by cases b <;> rfl
theorem bq_false {b : Bool} : (b == false) = !b := by cases b <;> rfl
section
variable {d : Option Tmp} {ty : TypeId} {pos : String} {af : Array Edge} {g : Option (Nat × Bool)} {Q : AV → Hp → Nat → Prop} {v : Tag Q}
theorem ot_move {x : Operand} {u : Tag (⟨d, .move x, ty, pos, af, g⟩ : Oper)} : wk1T C fid call ⟨d, .move x, ty, pos, af, g⟩ Q u v env H = bndT (fun y => Q y H 0) ⟨⟩ (aval C env x) := op_move_
theorem ot_assign {x : Operand} {u : Tag (⟨d, .assign x, ty, pos, af, g⟩ : Oper)} : wk1T C fid call ⟨d, .assign x, ty, pos, af, g⟩ Q u v env H = bndT (fun y => Q y H 0) ⟨⟩ (aval C env x) := op_assign_
theorem ot_pick {c x y : Operand} {u : Tag (⟨d, .pick c x y, ty, pos, af, g⟩ : Oper)} : wk1T C fid call ⟨d, .pick c x y, ty, pos, af, g⟩ Q u v env H = bndT (fun y => Q y H 0) ⟨⟩ (match aval C env c, aval C env x, aval C env y with
    | some (.v (.bool t)), some a, some b => some (if t then a else b)
    | _, _, _ => none) := op_pick_
theorem ot_binOp {op : BinOp} {t s : TypeId} {x y : Operand} {u : Tag (⟨d, .binOp op t x y s, ty, pos, af, g⟩ : Oper)} : wk1T C fid call ⟨d, .binOp op t x y s, ty, pos, af, g⟩ Q u v env H = bndT (fun a => bndT (fun b => bndT (fun y => Q y H 0) ⟨⟩ (binA C op t x y a b)) ⟨⟩ (aval C env y)) ⟨⟩ (aval C env x) := op_binOp_
theorem ot_unOp {op : UnOp} {t : TypeId} {x : Operand} {u : Tag (⟨d, .unOp op t x, ty, pos, af, g⟩ : Oper)} : wk1T C fid call ⟨d, .unOp op t x, ty, pos, af, g⟩ Q u v env H = bndT (fun a => bndT (fun y => Q y H 0) ⟨⟩ (a.toV.bind fun a => (pureRun C.P (Op.unary op a)).bind ofV)) ⟨⟩ (aval C env x) := op_unOp_
theorem ot_convert {s t : TypeId} {x : Operand} {u : Tag (⟨d, .convert s t x, ty, pos, af, g⟩ : Oper)} : wk1T C fid call ⟨d, .convert s t x, ty, pos, af, g⟩ Q u v env H = bndT (fun a => convT C Q v (nbOf C fid d) (convA C s t a) s t a H) ⟨⟩ (aval C env x) := op_convert_
theorem cv_some {s t : TypeId} {a y : AV} : convT C Q v false (some y) s t a H = Q y H 0 := rfl
theorem ot_field {t : TypeId} {x : Operand} {f : Nat} {u : Tag (⟨d, .field t x f, ty, pos, af, g⟩ : Oper)} : wk1T C fid call ⟨d, .field t x f, ty, pos, af, g⟩ Q u v env H = bndT (fun y => Q y H 0) ⟨⟩ (match aval C env x, C.und t with
    | some (.agg cs), some (.struct fields) => match fields[f]? with
      | some f => partA C f.type cs f.offset
      | none => none
    | _, _ => none) := op_field_
theorem ot_index {t : TypeId} {x i : Operand} {u : Tag (⟨d, .index t x i, ty, pos, af, g⟩ : Oper)} : wk1T C fid call ⟨d, .index t x i, ty, pos, af, g⟩ Q u v env H = bndT (fun a => bndT (fun b => bndT (fun y => Q y H 0) ⟨⟩ (indexA C t a b)) ⟨⟩ (aval C env i)) ⟨⟩ (aval C env x) := op_index_
theorem ot_indexAddr {t : TypeId} {x i : Operand} {u : Tag (⟨d, .indexAddr t x i, ty, pos, af, g⟩ : Oper)} : wk1T C fid call ⟨d, .indexAddr t x i, ty, pos, af, g⟩ Q u v env H = bndT (fun a => bndT (fun b => bndT (fun y => Q y H 0) ⟨⟩ (indexAddrA C t a b)) ⟨⟩ (aval C env i)) ⟨⟩ (aval C env x) := op_indexAddr_
theorem ot_fieldAddr {t : TypeId} {x : Operand} {f : Nat} {u : Tag (⟨d, .fieldAddr t x f, ty, pos, af, g⟩ : Oper)} : wk1T C fid call ⟨d, .fieldAddr t x f, ty, pos, af, g⟩ Q u v env H = bndT (fun a => bndT (fun y => Q y H 0) ⟨⟩ (fieldAddrA C t a f)) ⟨⟩ (aval C env x) := op_fieldAddr_
theorem ot_slice {t : TypeId} {x : Operand} {lo hi mx : Option Operand} {u : Tag (⟨d, .slice t x lo hi mx, ty, pos, af, g⟩ : Oper)} : wk1T C fid call ⟨d, .slice t x lo hi mx, ty, pos, af, g⟩ Q u v env H =
    bndT (fun a => bndT (fun l => bndT (fun h => bndT (fun m => bndT (fun y => Q y H 0) ⟨⟩ (sliceA C t a l.head? h.head? m.head?)) ⟨⟩ (avals C env mx.toList)) ⟨⟩ (avals C env hi.toList)) ⟨⟩ (avals C env lo.toList)) ⟨⟩ (aval C env x) := op_slice_
theorem ot_build {t : TypeId} {ps : Array (Nat × Operand)} {u : Tag (⟨d, .build t ps, ty, pos, af, g⟩ : Oper)} : wk1T C fid call ⟨d, .build t ps, ty, pos, af, g⟩ Q u v env H = bndT (fun l => bndT (fun y => Q y H 0) ⟨⟩ (buildA C t l)) ⟨⟩ (apairs C env ps.toList) := op_build_
theorem ot_buildSlice {t : TypeId} {n : Nat} {ps : Array (Nat × Operand)} {u : Tag (⟨d, .buildSlice t n ps, ty, pos, af, g⟩ : Oper)} : wk1T C fid call ⟨d, .buildSlice t n ps, ty, pos, af, g⟩ Q u v env H = bndT (fun l => bndT (fun l => bndT (fun y => Q y H 0) ⟨⟩ (buildSliceA C t n l)) ⟨⟩ (bareP l)) ⟨⟩ (apairs C env ps.toList) := op_buildSlice_
theorem ot_extract {x : Operand} {i : Nat} {u : Tag (⟨d, .extract x i, ty, pos, af, g⟩ : Oper)} : wk1T C fid call ⟨d, .extract x i, ty, pos, af, g⟩ Q u v env H = bndT (fun y => Q y H 0) ⟨⟩ (match aval C env x with
    | some (.tup xs) => xs[i]?
    | _ => none) := op_extract_
theorem ot_makeInterface {t : TypeId} {x : Operand} {u : Tag (⟨d, .makeInterface t x, ty, pos, af, g⟩ : Oper)} : wk1T C fid call ⟨d, .makeInterface t x, ty, pos, af, g⟩ Q u v env H = bndT (fun y => Q y H 0) ⟨⟩ (match aval C env x, C.und t with
    | _, some (.interface _) | _, none | none, _ => none
    | some x, some _ => some (.iface t x)) := op_makeInterface_
theorem ot_makeFunc {f : Fn} {a b : Array Operand} {u : Tag (⟨d, .makeFunc f a b, ty, pos, af, g⟩ : Oper)} : wk1T C fid call ⟨d, .makeFunc f a b, ty, pos, af, g⟩ Q u v env H = bndT (fun a => bndT (fun b => Q (.fn f a b) H 0) ⟨⟩ (avals C env b.toList)) ⟨⟩ (avals C env a.toList) := op_makeFunc_
theorem ot_nilCheck {x : Operand} {u : Tag (⟨d, .nilCheck x, ty, pos, af, g⟩ : Oper)} : wk1T C fid call ⟨d, .nilCheck x, ty, pos, af, g⟩ Q u v env H = bndT (fun y => Q y H 0) ⟨⟩ (match aval C env x with
    | some (.rp x j) => some (.rp x j)
    | some (.ptr b g i j) => some (.ptr b g i j)
    | some (.fn (.func f) a b) => some (.fn (.func f) a b)
    | some (.iface t x) => some (.iface t x)
    | _ => none) := op_nilCheck_
theorem ot_call {q : Operand} {as : Array Operand} {ts : Array TypeId} {u : Tag (⟨d, .call ⟨.value q, as, ts⟩, ty, pos, af, g⟩ : Oper)} : wk1T C fid call ⟨d, .call ⟨.value q, as, ts⟩, ty, pos, af, g⟩ Q u v env H = bndT (fun args => bndT (fun f => callT C call Q ⟨⟩ f args H) ⟨⟩ (aval C env q)) ⟨⟩ (avals C env as.toList) := op_call_
theorem ot_len {as : Array Operand} {ts : Array TypeId} {u : Tag (⟨d, .call ⟨.builtin .len, as, ts⟩, ty, pos, af, g⟩ : Oper)} : wk1T C fid call ⟨d, .call ⟨.builtin .len, as, ts⟩, ty, pos, af, g⟩ Q u v env H = bndT (fun args => bndT (fun y => Q y H 0) ⟨⟩ (lenA C ts args)) ⟨⟩ (avals C env as.toList) := op_len_
theorem ot_append {as : Array Operand} {ts : Array TypeId} {u : Tag (⟨d, .call ⟨.builtin .append, as, ts⟩, ty, pos, af, g⟩ : Oper)} : wk1T C fid call ⟨d, .call ⟨.builtin .append, as, ts⟩, ty, pos, af, g⟩ Q u v env H = bndT (fun args => bndT (fun y => Q y.1 y.2 (if nbOf C fid d then 2 else 3)) ⟨⟩ (appB C (nbOf C fid d) ts args H)) ⟨⟩ (avals C env as.toList) := op_append_
theorem ot_sliceData {as : Array Operand} {ts : Array TypeId} {u : Tag (⟨d, .call ⟨.builtin .unsafeSliceData, as, ts⟩, ty, pos, af, g⟩ : Oper)} : wk1T C fid call ⟨d, .call ⟨.builtin .unsafeSliceData, as, ts⟩, ty, pos, af, g⟩ Q u v env H = bndT (fun args => bndT (fun y => Q y H 0) ⟨⟩ (sdA args)) ⟨⟩ (avals C env as.toList) := by
  simp only [wk1T, bndT, wk1, opA, opP, opR, opW]
  cases h1 : avals C env as.toList with
  | none => rfl
  | some args => simp only [bnd_some]; cases sdA args <;> rfl
theorem ot_unsafeString {as : Array Operand} {ts : Array TypeId} {u : Tag (⟨d, .call ⟨.builtin .unsafeString, as, ts⟩, ty, pos, af, g⟩ : Oper)} : wk1T C fid call ⟨d, .call ⟨.builtin .unsafeString, as, ts⟩, ty, pos, af, g⟩ Q u v env H = bndT (fun args => bndT (fun y => Q y.1 y.2 2) ⟨⟩ (usA C ts args H)) ⟨⟩ (avals C env as.toList) := by
  simp only [wk1T, bndT, wk1, opA, opP, opR, opW]
  cases h1 : avals C env as.toList with
  | none => rfl
  | some args =>
    simp only [bnd_some]
    cases usA C ts args H <;> rfl
theorem ot_clear {as : Array Operand} {ts : Array TypeId} {u : Tag (⟨d, .call ⟨.builtin .clear, as, ts⟩, ty, pos, af, g⟩ : Oper)} : wk1T C fid call ⟨d, .call ⟨.builtin .clear, as, ts⟩, ty, pos, af, g⟩ Q u v env H = bndT (fun args => bndT (fun y => Q y.1 y.2 2) ⟨⟩ (clearA C ts args H)) ⟨⟩ (avals C env as.toList) := by
  simp only [wk1T, bndT, wk1, opA, opP, opR, opW]
  cases h1 : avals C env as.toList with
  | none => rfl
  | some args =>
    simp only [bnd_some]
    cases clearA C ts args H <;> rfl
theorem ot_copy {as : Array Operand} {ts : Array TypeId} {u : Tag (⟨d, .call ⟨.builtin .copy, as, ts⟩, ty, pos, af, g⟩ : Oper)} : wk1T C fid call ⟨d, .call ⟨.builtin .copy, as, ts⟩, ty, pos, af, g⟩ Q u v env H = bndT (fun args => bndT (fun y => Q y.1 y.2 2) ⟨⟩ (copyA C ts args H)) ⟨⟩ (avals C env as.toList) := by
  simp only [wk1T, bndT, wk1, opA, opP, opR, opW]
  cases h1 : avals C env as.toList with
  | none => rfl
  | some args =>
    simp only [bnd_some]
    cases copyA C ts args H <;> rfl
theorem ot_cap {as : Array Operand} {ts : Array TypeId} {u : Tag (⟨d, .call ⟨.builtin .cap, as, ts⟩, ty, pos, af, g⟩ : Oper)} : wk1T C fid call ⟨d, .call ⟨.builtin .cap, as, ts⟩, ty, pos, af, g⟩ Q u v env H = bndT (fun args => bndT (fun y => Q y H 0) ⟨⟩ (capA C ts args)) ⟨⟩ (avals C env as.toList) := by
  simp only [wk1T, bndT, wk1, opA, opP, opR, opW]
  cases h1 : avals C env as.toList with
  | none => rfl
  | some args => simp only [bnd_some]; cases capA C ts args <;> rfl
theorem ot_box {t : Tmp} {e : TypeId} {x : Operand} {u : Tag (⟨some t, .box e x, ty, pos, af, g⟩ : Oper)} : wk1T C fid call ⟨some t, .box e x, ty, pos, af, g⟩ Q u v env H = bndT (fun y => boxT Q v (genOf C e) (C.roBox fid t) y H) ⟨⟩ (aval C env x) := op_box_
theorem ct_prim {f : FuncId} {a b args : List AV} {p : List AV → Option AV} (hp : C.prim f = some p) : callT C call Q v (.fn (.func f) a b) args H = primT C Q v p H (AV.bares (a ++ args ++ b)) (a ++ args ++ b) := wkCall_prim hp
theorem pm_some {p : List AV → Option AV} {xs ys : List AV} : primT C Q v p H (some xs) ys = bndT (fun x => Q x H 0) ⟨⟩ (p xs) := rfl
theorem pm_none {p : List AV → Option AV} {ys : List AV} : primT C Q v p H none ys = bndT (fun xs => bndT (fun r => bndT (fun x => Q x H 1) ⟨⟩ (plainA r)) ⟨⟩ (p xs)) ⟨⟩ (AV.thaws H 1000 ys) := rfl
theorem plain_bool {b : Bool} : Value.plain (.bool b) = true := rfl
theorem plain_int {k : IntKind} {n : Int} : Value.plain (.int k n) = true := rfl
theorem plain_str {b : ByteArray} : Value.plain (.string b) = true := rfl
theorem plainA_v {x : Value} (h : Value.plain x = true) : plainA (.v x) = some (.v x) := by
  simp only [plainA, AV.toV, h, if_true]
theorem ct_own {f : FuncId} {a b args : List AV} (hp : C.prim f = none) (ho : C.own f = false) : callT C call Q v (.fn (.func f) a b) args H = bndT (fun y => Q y.1 y.2 2) ⟨⟩ (call f (a ++ args ++ b) H) := wkCall_own hp ho
end
theorem ot_load {t : TypeId} {x : Operand} {d : Option Tmp} {ty : TypeId} {pos : String} {af : Array Edge} {g : Option (Nat × Bool)} {Q : AV → Hp → Nat → Prop} {v : Tag Q} {u : Tag (⟨d, .load t x, ty, pos, af, g⟩ : Oper)} :
    wk1T C fid call ⟨d, .load t x, ty, pos, af, g⟩ Q u v env H = bndT (fun a => match a with
      | .rp y j => bndT (fun y => Q y H 0) ⟨⟩ (partA C t y.cells j)
      | .ptr b g' i j => bndT (fun k => bndT (fun y => bndT (fun y => Q y H 1) ⟨⟩ (partA C t y.cells j)) ⟨⟩ k.xs[i]?) ⟨⟩ (blkAt H b g')
      | _ => False) ⟨⟩ (aval C env x) := by
  simp only [wk1T, bndT]
  cases hx : aval C env x with
  | none => simp [wk1, opA, opP, opR, opW, hx, bnd]
  | some a =>
    rw [bnd_some]
    cases a with
    | rp y j => exact op_load_rp_ hx
    | ptr b g' i j => exact op_load_ptr_ hx
    | _ => simp [wk1, opA, opP, opR, opW, hx]
end
end Go.AM

namespace Go.AM
/-! ### Bits of natural numbers -/
theorem wrap64 {n : Int} (h1 : -(2 ^ 63) ≤ n) (h2 : n < 2 ^ 63) : IntKind.i64.wrap n = n := by
  simp [IntKind.wrap, IntKind.bits, IntKind.signed]; omega
theorem wrap8 {n : Int} (h1 : 0 ≤ n) (h2 : n < 256) : IntKind.u8.wrap n = n := by
  simp [IntKind.wrap, IntKind.bits, IntKind.signed]; omega
section
variable {C : Cfg} {t : TypeId} {x y : Operand}
end
end Go.AM

namespace Go.AM
/-! ### The slots as a function: what stands in a slot is found without asking how many there are -/
def fe (n : Nat) (F : Nat → AV) : Env := (List.range n).map F
def upd (F : Nat → AV) (d : Nat) (x : AV) : Nat → AV := fun t => if t = d then x else F t
theorem upd_app {F : Nat → AV} {d t : Nat} {x : AV} : upd F d x t = if t = d then x else F t := rfl
theorem fe_len {n : Nat} {F : Nat → AV} : (fe n F).length = n := by simp [fe]
theorem fe_get {n t : Nat} {F : Nat → AV} : aget (fe n F) t = if t < n then F t else .undef := by
  simp only [aget, fe, List.getD_eq_getElem?_getD, List.getElem?_map]
  by_cases h : t < n
  · rw [if_pos h, List.getElem?_range h]; rfl
  · rw [if_neg h, List.getElem?_eq_none (by simpa using h)]; rfl
theorem fe_put {n d : Nat} {F : Nat → AV} {x : AV} : aput (fe n F) (some d) x = fe n (upd F d x) := by
  apply List.ext_getElem?
  intro i
  simp only [aput, fe, List.getElem?_set, List.getElem?_map, List.length_map, List.length_range]
  by_cases hi : i < n
  · rw [List.getElem?_range hi]
    by_cases hd : d = i
    · subst hd; simp [hi, upd]
    · have : ¬ i = d := fun e => hd e.symm
      simp [hd, upd, this]
  · rw [List.getElem?_eq_none (by simpa using hi)]
    by_cases hd : d = i
    · subst hd; simp [hi]
    · simp [hd]
theorem fe_self {n : Nat} {e : Env} (h : e.length = n) : e = fe n (aget e) := by
  apply List.ext_getElem?
  intro i
  simp only [fe, List.getElem?_map]
  by_cases hi : i < n
  · rw [List.getElem?_range hi]
    simp [aget, List.getD_eq_getElem?_getD, List.getElem?_eq_getElem (show i < e.length by omega)]
  · rw [List.getElem?_eq_none (by omega), List.getElem?_eq_none (by simpa using hi)]
    rfl
/-! ### The greater of two -/
def maxA (P : Program) (ts : Array TypeId) (ty : TypeId) (args : List AV) : Option AV := match AV.toVs args with
  | some l => (pureRun P (Builtin.max_ ts ty l.toArray)).bind ofV
  | none => none
section
variable {C : Cfg} {fid : FuncId} {call : FuncId → List AV → Hp → Option (AV × Hp)} {env : Env} {H : Hp}
variable {d : Option Tmp} {ty : TypeId} {pos : String} {af : Array Edge} {g : Option (Nat × Bool)} {Q : AV → Hp → Nat → Prop} {v : Tag Q}
theorem ot_max {as : Array Operand} {ts : Array TypeId} {u : Tag (⟨d, .call ⟨.builtin .max, as, ts⟩, ty, pos, af, g⟩ : Oper)} : wk1T C fid call ⟨d, .call ⟨.builtin .max, as, ts⟩, ty, pos, af, g⟩ Q u v env H = bndT (fun args => bndT (fun y => Q y H 0) ⟨⟩ (maxA C.P ts ty args)) ⟨⟩ (avals C env as.toList) := by
  simp only [wk1T, bndT, wk1, opA, opP, opR, opW, maxA]
  cases h1 : avals C env as.toList with
  | none => rfl
  | some args =>
    simp only [bnd_some]
    cases h2 : AV.toVs args with
    | none => rfl
    | some l =>
      simp only
      cases (pureRun C.P (Builtin.max_ ts ty l.toArray)).bind ofV <;> rfl
end
end Go.AM

namespace Go.AM
/-! ### A slice that grows from nothing -/
section
variable {C : Cfg}
/-- All elements of n cells. -/
def sized (n : Nat) (xs : List AV) : Prop := ∀ x ∈ xs, x.cells.length = n
theorem szOk_sized {n : Nat} {xs : List AV} (h : sized n xs) : szOk xs n = true := by
  cases xs with
  | nil => rfl
  | cons x xs => simpa [szOk] using h x (by simp)
/-- What is read as a list. -/
theorem len_elems {ts : Array TypeId} {e : TypeId} {x : AV} {xs : List AV} (h : (ts[0]?).bind C.und = some (.slice e)) (hx : elems x = some xs) : lenA C ts [x] = some (.v (.int .i64 xs.length)) := by
  unfold elems at hx
  split at hx
  · injection hx with hx; subst hx; exact len_ro h
  · injection hx with hx; subst hx; exact len_cl h
  · injection hx with hx; subst hx; exact len_ap h
  · injection hx with hx; subst hx; exact len_nil h
  · cases hx
theorem indexAddr_elems {t : TypeId} {k : IntKind} {i : Nat} {e : TypeId} {n : Nat} {x : AV} {xs : List AV} {z : AV} (hu : C.und t = some (.slice e)) (hc : C.csz e = some (n + 1)) (hx : elems x = some xs) (h : xs[i]? = some z) (hz : z.cells.length = n + 1) :
    indexAddrA C t x (.v (.int k i)) = some (.rp z 0) := by
  have hi : (0 : Int) ≤ i := by omega
  have ht : ((i : Int)).toNat = i := by omega
  unfold elems at hx
  split at hx
  · injection hx with hx; subst hx; exact indexAddr_ro hu hc hi (by rw [ht]; exact h) hz
  · injection hx with hx; subst hx; exact indexAddr_cl hu hc hi (by rw [ht]; exact h) hz
  · injection hx with hx; subst hx; exact indexAddr_ap hu hc hi (by rw [ht]; exact h) hz
  · injection hx with hx; subst hx; simp at h
  · cases hx
end
end Go.AM

namespace Go.AM
/-! ### What bytes, what texts stand in values -/
/-- The bytes of a text. -/
def dS : AV → Option (List UInt8)
  | .v (.string s) => some s.data.toList
  | _ => none
theorem dS_iff {x : AV} {l : List UInt8} : dS x = some l ↔ x = str l := by
  unfold dS
  constructor
  · intro h
    split at h
    · injection h with h; subst h; exact str_of _
    · cases h
  · rintro rfl; simp [str]
theorem dS_str (l : List UInt8) : dS (str l) = some l := dS_iff.2 rfl
end Go.AM

namespace Go.AM
/-! ### A slice that grows from an empty one -/
section
variable {C : Cfg}
end
section
variable {P : Program}
theorem arg_one {t : TypeId} {x : AV} (ha : aggT P t = false) (h : Arg P t x) : ∃ n, ArgC P (n + 1) t [x] := by
  obtain ⟨n, cs, h1, h2⟩ := h
  cases n with
  | zero => exact h1.elim
  | succ n =>
    unfold oneA at h2
    rw [ha] at h2
    simp only [Bool.false_eq_true, if_false] at h2
    split at h2
    · injection h2 with h2; subst h2; exact ⟨n, h1⟩
    · cases h2
theorem arg_int {t : TypeId} {k : IntKind} (hu : P.underlying t = some (.int k)) {x : AV} (h : Arg P t x) : ∃ i, x = .v (.int k i) ∧ (Lit.int k i).wf = true := by
  obtain ⟨n, h⟩ := arg_one (by simp [aggT, hu]) h
  unfold ArgC at h
  rw [hu] at h
  obtain ⟨l, h1, h2⟩ := h
  injection h1 with h1
  exact ⟨l, h1, h2⟩
end
end Go.AM

namespace Go.AM
/-! ### Blocks that may be written -/
section
variable (C : Cfg)
def storeA (t : TypeId) (b g i j : Nat) (x : AV) (H : Hp) : Option Hp := match blkAt H b g with
  | some k => match k.xs[i]? with
    | some y => if some x.cells.length = C.csz t ∧ x.cells.all AV.flat then (setCells y j x.cells).map fun y => { H with blks := H.blks.set b { k with xs := k.xs.set i y } } else none
    | none => none
  | none => none
def makeA (t : TypeId) (l c : AV) (H : Hp) : Option (AV × Hp) := match elemT C t, idx l, idx c with
  | some e, some l, some c => match zeroA C e, C.csz e with
    | some z, some n => if l = c ∧ roomOk C e c ∧ z.cells.length = n ∧ 0 < n ∧ z.cells.all AV.flat then some (.ex H.blks.length 0 n 0 l, { H with blks := H.blks ++ [⟨0, n, List.replicate l z⟩] }) else none
    | _, _ => none
  | _, _, _ => none
end
section
variable {C : Cfg} {fid : FuncId} {call : FuncId → List AV → Hp → Option (AV × Hp)} {env : Env} {H : Hp}
variable {d : Option Tmp} {ty : TypeId} {pos : String} {af : Array Edge} {g : Option (Nat × Bool)} {Q : AV → Hp → Nat → Prop} {v : Tag Q}
theorem ot_store {t : TypeId} {a x : Operand} {u : Tag (⟨d, .store t a x, ty, pos, af, g⟩ : Oper)} : wk1T C fid call ⟨d, .store t a x, ty, pos, af, g⟩ Q u v env H = bndT (fun a => bndT (fun x => match a with
      | .ptr b g' i j => bndT (fun H' => Q .undef H' 2) ⟨⟩ (storeA C t b g' i j x H)
      | _ => False) ⟨⟩ (aval C env x)) ⟨⟩ (aval C env a) := by
  simp only [wk1T, bndT, wk1, opA, opP, opR, opW]
  cases ha : aval C env a with
  | none => rfl
  | some a' =>
    rw [bnd_some]
    cases hx : aval C env x with
    | none => cases a' <;> rfl
    | some x' =>
      rw [bnd_some]
      cases a' with
      | ptr b g' i j =>
        simp only [storeA]
        cases blkAt H b g' with
        | none => rfl
        | some k =>
          simp only
          cases k.xs[i]? with
          | none => rfl
          | some y =>
            simp only
            by_cases h : (some x'.cells.length = C.csz t ∧ x'.cells.all AV.flat = true)
            · rw [if_pos h, if_pos h]
              cases setCells y j x'.cells <;> rfl
            · rw [if_neg h, if_neg h]
              rfl
      | _ => rfl
theorem ot_makeSlice {t : TypeId} {l c : Operand} {u : Tag (⟨d, .makeSlice t l c, ty, pos, af, g⟩ : Oper)} : wk1T C fid call ⟨d, .makeSlice t l c, ty, pos, af, g⟩ Q u v env H = bndT (fun l => bndT (fun c => bndT (fun y => Q y.1 y.2 2) ⟨⟩ (makeA C t l c H)) ⟨⟩ (aval C env c)) ⟨⟩ (aval C env l) := by
  simp only [wk1T, bndT, wk1, opA, opP, opR, opW]
  cases hl : aval C env l with
  | none =>
    simp only [Option.bind_none, bnd]
    cases elemT C t <;> rfl
  | some l' =>
    rw [bnd_some]
    cases hc : aval C env c with
    | none =>
      simp only [Option.bind_some, Option.bind_none, bnd]
      cases elemT C t with
      | none => rfl
      | some e => cases idx l' <;> rfl
    | some c' =>
      rw [bnd_some]
      simp only [Option.bind_some, makeA]
      cases elemT C t with
      | none => rfl
      | some e =>
        cases idx l' with
        | none => rfl
        | some l =>
          cases idx c' with
          | none => rfl
          | some c =>
            simp only
            cases zeroA C e with
            | none => rfl
            | some z =>
              cases C.csz e with
              | none => rfl
              | some n =>
                simp only
                by_cases h : (l = c ∧ roomOk C e c = true ∧ z.cells.length = n ∧ 0 < n ∧ z.cells.all AV.flat = true)
                · rw [if_pos h]; rfl
                · rw [if_neg h]; rfl
/-- One block alone. -/
def hb1 (es : Nat) (xs : List AV) : Hp := { blks := [⟨0, es, xs⟩] }
theorem len_ex {ts : Array TypeId} {e : TypeId} {b g' es o n : Nat} (h : (ts[0]?).bind C.und = some (.slice e)) : lenA C ts [.ex b g' es o n] = some (.v (.int .i64 n)) := by
  simp only [lenA, h]
end
end Go.AM

namespace Go.AM
/-! ### Functions without a body -/
end Go.AM

namespace Go.AM
/-! ### Tables of contracts -/
def tab : List (FuncId × (List AV → Option AV)) → FuncId → Option (List AV → Option AV)
  | [], _ => none
  | (g, p) :: r, f => if f = g then some p else tab r f
def TabOk (Q : FuncId → (List AV → Option AV) → Prop) : List (FuncId × (List AV → Option AV)) → Prop
  | [] => True
  | (g, p) :: r => Q g p ∧ TabOk Q r
theorem tab_ok {Q : FuncId → (List AV → Option AV) → Prop} : ∀ {l : List (FuncId × (List AV → Option AV))}, TabOk Q l → ∀ f p, tab l f = some p → Q f p
  | [], _, _, _, h => by cases h
  | (g, q) :: r, hk, f, p, h => by
    unfold tab at h
    split at h
    · rename_i hf
      injection h with h
      subst hf
      subst h
      exact hk.1
    · exact tab_ok hk.2 f p h
/-! ### Texts: where a sign stands, what stands ahead of it and behind it -/
end Go.AM

namespace Go.AM
/-! ### A guard that is not known: the operation is done or not, what follows is walked once -/
section
variable {C : Cfg} {fid : FuncId} {call : FuncId → List AV → Hp → Option (AV × Hp)} {env : Env} {H : Hp}
end
end Go.AM

namespace Go.AM
/-! ### Variables that are written, one block each -/
section
variable {C : Cfg} {fid : FuncId} {call : FuncId → List AV → Hp → Option (AV × Hp)} {env : Env} {H : Hp}
def allocA (C : Cfg) (e : TypeId) (ro : Bool) (H : Hp) : Option (AV × Hp × Nat) := (zeroA C e).bind fun z => if z.cells.all AV.flat then (if ro then some (.rp z 0, H, 0) else some (.ptr H.blks.length (genOf C e) 0 0, { H with blks := H.blks ++ [⟨genOf C e, z.cells.length, [z]⟩] }, 4)) else none
theorem ot_alloc {t : Tmp} {e : TypeId} {ty : TypeId} {pos : String} {af : Array Edge} {g : Option (Nat × Bool)} {Q : AV → Hp → Nat → Prop} {v : Tag Q} {u : Tag (⟨some t, .alloc e, ty, pos, af, g⟩ : Oper)} :
    wk1T C fid call ⟨some t, .alloc e, ty, pos, af, g⟩ Q u v env H = bndT (fun y => Q y.1 y.2.1 y.2.2) ⟨⟩ (allocA C e (C.roBox fid t) H) := by
  simp only [wk1T, bndT, wk1, opA, opP, opR, opW, allocA]
  cases hz : zeroA C e with
  | none => rfl
  | some z =>
    simp only [Option.bind_some]
    cases hr : C.roBox fid t <;> cases hf : z.cells.all AV.flat <;> rfl
/-- A whole variable is written. -/
theorem store_all {t : TypeId} {b n : Nat} {x y : List AV} (hb : H.blks[b]? = some ⟨0, n, [.agg y]⟩) (hc : C.csz t = some x.length) (hl : y.length = x.length) (hf : x.all AV.flat = true) : storeA C t b 0 0 0 (.agg x) H = some { H with blks := H.blks.set b ⟨0, n, [.agg x]⟩ } := by
  have h1 : blkAt H b 0 = some ⟨0, n, [.agg y]⟩ := by simp only [blkAt, hb, if_true]
  have h2 : setCells (.agg y) 0 x = some (.agg x) := by
    have h3 : 0 + x.length ≤ y.length := by omega
    unfold setCells
    simp only
    rw [if_pos h3, List.take_zero, List.nil_append, List.drop_eq_nil_of_le (by omega), List.append_nil]
  have h4 : some (AV.agg x).cells.length = C.csz t ∧ (AV.agg x).cells.all AV.flat := ⟨by rw [hc]; rfl, hf⟩
  simp only [storeA, h1, List.getElem?_cons_zero, h4, and_self, if_true]
  rw [show (AV.agg x).cells = x from rfl, h2]
  rfl
end
end Go.AM

namespace Go.AM
section
variable {C : Cfg} {fid : FuncId} {call : FuncId → List AV → Hp → Option (AV × Hp)} {env : Env} {H : Hp} {d : Option Tmp} {ty : TypeId} {pos : String} {af : Array Edge} {g : Option (Nat × Bool)} {Q : AV → Hp → Nat → Prop} {v : Tag Q}
/-! ### Maps of texts, methods behind interface values, in a walk -/
def invkA (C : Cfg) (call : FuncId → List AV → Hp → Option (AV × Hp)) (name : String) (x : AV) (args : List AV) (H : Hp) : Option (AV × Hp) := match x with
  | .iface t x => (match C.meth t name with
    | some (f, none) => if (C.prim f).isSome || C.own f then none else call f (x :: args) H
    | some (f, some e) => if (C.prim f).isSome || C.own f then none else (match x with
      | .ptr b g i j => (((blkAt H b g).bind (·.xs[i]?)).bind fun y => partA C e y.cells j).bind fun y => call f (y :: args) H
      | _ => none)
    | none => none)
  | _ => none
theorem ot_invoke {r : Operand} {name : String} {as : Array Operand} {ts : Array TypeId} {u : Tag (⟨d, .call ⟨.invoke r name, as, ts⟩, ty, pos, af, g⟩ : Oper)} :
    wk1T C fid call ⟨d, .call ⟨.invoke r name, as, ts⟩, ty, pos, af, g⟩ Q u v env H = bndT (fun args => bndT (fun x => bndT (fun y => Q y.1 y.2 2) ⟨⟩ (invkA C call name x args H)) ⟨⟩ (aval C env r)) ⟨⟩ (avals C env as.toList) := by
  simp only [wk1T, bndT, wk1, opA, opP, opR, opW]
  cases h1 : avals C env as.toList with
  | none => rfl
  | some args =>
    cases h2 : aval C env r with
    | none => rfl
    | some x =>
      simp only [bnd_some]
      have hk : ∀ o : Option (AV × Hp), (match (match o with | some (x, H) => some (x, H, 2) | none => none) with | some (x, h, k) => Q x h k | none => False) = bnd o fun y => Q y.1 y.2 2 := by
        intro o
        cases o <;> rfl
      rw [← hk]
      cases x <;> rfl
theorem inv_ptr {name : String} {t : TypeId} {f : FuncId} {x : AV} {args : List AV} (hm : C.meth t name = some (f, none)) (hp : C.prim f = none) (ho : C.own f = false) : invkA C call name (.iface t x) args H = call f (x :: args) H := by
  simp only [invkA, hm, hp, ho, Option.isSome_none, Bool.or_self, Bool.false_eq_true, if_false]
theorem inv_val {name : String} {t e : TypeId} {f : FuncId} {b g' i j : Nat} {args : List AV} {y : AV} (hm : C.meth t name = some (f, some e)) (hp : C.prim f = none) (ho : C.own f = false) (hy : (((blkAt H b g').bind (·.xs[i]?)).bind fun y => partA C e y.cells j) = some y) :
    invkA C call name (.iface t (.ptr b g' i j)) args H = call f (y :: args) H := by
  simp only [invkA, hm, hp, ho, Option.isSome_none, Bool.or_self, Bool.false_eq_true, if_false, hy, Option.bind_some]
def tyaA (C : Cfg) (t : TypeId) (ok : Bool) (x : AV) : Option AV := match x, C.und t with
  | _, some (.interface _) | _, none => none
  | .iface s y, some _ => if s = t then some (if ok then .tup [y, .v (.bool true)] else y) else none
  | _, _ => none
theorem ot_typeAssert {p : Operand} {s t : TypeId} {ok : Bool} {u : Tag (⟨d, .typeAssert p s t ok, ty, pos, af, g⟩ : Oper)} :
    wk1T C fid call ⟨d, .typeAssert p s t ok, ty, pos, af, g⟩ Q u v env H = bndT (fun x => bndT (fun y => Q y H 0) ⟨⟩ (tyaA C t ok x)) ⟨⟩ (aval C env p) := by
  simp only [wk1T, bndT, wk1, opA, opP, opR, opW]
  cases h1 : aval C env p with
  | none => 
    simp only [bnd]
    cases C.und t with
    | none => rfl
    | some d => cases d <;> rfl
  | some x =>
    simp only [bnd_some]
    have hk : ∀ o : Option AV, (match (match o with | some x => some (x, H, 0) | none => none) with | some (x, h, k) => Q x h k | none => False) = bnd o fun y => Q y H 0 := by
      intro o
      cases o <;> rfl
    rw [← hk]
    unfold tyaA
    cases x <;> cases C.und t <;> first | rfl | (rename_i d; cases d <;> rfl)
theorem tya_at {t : TypeId} {d : TypeDesc} {y : AV} (hd : C.und t = some d) (hn : ∀ i, d ≠ .interface i) : tyaA C t false (.iface t y) = some y := by
  unfold tyaA
  rw [hd]
  cases d <;> first | exact absurd rfl (hn _) | simp
theorem ot_lookup {t : TypeId} {p q : Operand} {c : Bool} {u : Tag (⟨d, .lookup t p q c, ty, pos, af, g⟩ : Oper)} :
    wk1T C fid call ⟨d, .lookup t p q c, ty, pos, af, g⟩ Q u v env H = bndT (fun m => bndT (fun k => bndT (fun y => Q y H 1) ⟨⟩ (lookA C t m k c H)) ⟨⟩ (aval C env q)) ⟨⟩ (aval C env p) := by
  simp only [wk1T, bndT, wk1, opA, opP, opR]
  cases aval C env p with
  | none => rfl
  | some m =>
    cases aval C env q with
    | none => rfl
    | some k =>
      simp only [Option.bind_some, bnd]
      cases lookA C t m k c H <;> rfl
theorem ot_makeMap {t : TypeId} {u : Tag (⟨d, .makeMap t none, ty, pos, af, g⟩ : Oper)} :
    wk1T C fid call ⟨d, .makeMap t none, ty, pos, af, g⟩ Q u v env H = Q (.mp H.mps.length) { H with mps := H.mps ++ [[]] } 2 := rfl
theorem ot_mapUpdate {t : TypeId} {p q s : Operand} {u : Tag (⟨d, .mapUpdate t p q s, ty, pos, af, g⟩ : Oper)} :
    wk1T C fid call ⟨d, .mapUpdate t p q s, ty, pos, af, g⟩ Q u v env H = bndT (fun m => bndT (fun k => bndT (fun x => bndT (fun y => Q y.1 y.2 2) ⟨⟩ (mapUpdA C t m k x H)) ⟨⟩ (aval C env s)) ⟨⟩ (aval C env q)) ⟨⟩ (aval C env p) := by
  simp only [wk1T, bndT, wk1, opA, opP, opR, opW]
  cases aval C env p with
  | none => rfl
  | some m =>
    cases aval C env q with
    | none => rfl
    | some k =>
      cases aval C env s with
      | none => rfl
      | some x =>
        simp only [Option.bind_some, bnd]
        cases mapUpdA C t m k x H <;> rfl
end
end Go.AM

namespace Go.AM
/-! ### Tables of contracts, by what they say: no decoding -/
open Classical in
/-- What these arguments give. -/
noncomputable def relP {α : Type} (X : α → Prop) (a : α → List AV) (r : α → AV) : List AV → Option AV := fun xs => if h : ∃ p, X p ∧ a p = xs then some (r h.choose) else none
theorem relP_ok {α : Type} {X : α → Prop} {a : α → List AV} {r : α → AV} {R : List AV → AV → Prop} (h : ∀ p, X p → R (a p) (r p)) : ∀ xs y, relP X a r xs = some y → R xs y := by
  intro xs y hy
  unfold relP at hy
  split at hy
  · rename_i hh
    injection hy with hy
    subst hy
    have := h _ hh.choose_spec.1
    rwa [hh.choose_spec.2] at this
  · cases hy
theorem relP_eq {α : Type} {X : α → Prop} {a : α → List AV} {r : α → AV} (inj : ∀ p q, X p → X q → a p = a q → r p = r q) (p : α) (hp : X p) : relP X a r (a p) = some (r p) := by
  have hh : ∃ q, X q ∧ a q = a p := ⟨p, hp, rfl⟩
  unfold relP
  rw [dif_pos hh]
  congr 1
  exact inj _ _ hh.choose_spec.1 hp hh.choose_spec.2
open Classical in
/-- The same of a call that shares the heap. -/
noncomputable def relT {α : Type} (f0 : FuncId) (X : α → Prop) (a : α → List AV) (h : α → Hp) (r : α → AV) (h' : α → Hp) : FuncId → List AV → Hp → Option (AV × Hp) :=
  fun f xs H => if hh : f = f0 ∧ ∃ p, X p ∧ a p = xs ∧ h p = H then some (r hh.2.choose, h' hh.2.choose) else none
section
variable {C : Cfg}
theorem relT_ok {α : Type} {f0 : FuncId} {fn : Func} {X : α → Prop} {a : α → List AV} {h : α → Hp} {r : α → AV} {h' : α → Hp} (hf : C.fns f0 = some fn) (hb : fn.body.isSome = true) (ok : ∀ p, X p → CallOk C f0 (a p) (h p) (r p) (h' p)) : CallsOk C (relT f0 X a h r h') := by
  refine ⟨fun f xs H y H' hy => ?_⟩
  unfold relT at hy
  split at hy
  · rename_i hh
    injection hy with hy
    injection hy with h1 h2
    subst h1; subst h2
    have := ok _ hh.2.choose_spec.1
    rw [hh.2.choose_spec.2.1, hh.2.choose_spec.2.2] at this
    obtain ⟨e, _⟩ := hh
    subst e
    exact ⟨⟨fn, hf, hb⟩, this⟩
  · cases hy
theorem relT_eq {α : Type} {f0 : FuncId} {X : α → Prop} {a : α → List AV} {h : α → Hp} {r : α → AV} {h' : α → Hp} (inj : ∀ p q, X p → X q → a p = a q → h p = h q → r p = r q ∧ h' p = h' q) (p : α) (hp : X p) : relT f0 X a h r h' f0 (a p) (h p) = some (r p, h' p) := by
  have hh : f0 = f0 ∧ ∃ q, X q ∧ a q = a p ∧ h q = h p := ⟨rfl, p, hp, rfl, rfl⟩
  unfold relT
  rw [dif_pos hh]
  obtain ⟨e1, e2⟩ := inj _ _ hh.2.choose_spec.1 hp hh.2.choose_spec.2.1 hh.2.choose_spec.2.2
  rw [e1, e2]
/-- The first of two that knows. -/
def orT (T U : FuncId → List AV → Hp → Option (AV × Hp)) : FuncId → List AV → Hp → Option (AV × Hp) := fun f xs H => match T f xs H with
  | some y => some y
  | none => U f xs H
theorem orT_ok {T U : FuncId → List AV → Hp → Option (AV × Hp)} (hT : CallsOk C T) (hU : CallsOk C U) : CallsOk C (orT T U) := by
  refine ⟨fun f xs H y H' hy => ?_⟩
  unfold orT at hy
  split at hy
  · rename_i z hz
    injection hy with hy; subst hy
    exact hT.ok _ _ _ _ _ hz
  · exact hU.ok _ _ _ _ _ hy
theorem orT_l {T U : FuncId → List AV → Hp → Option (AV × Hp)} {f : FuncId} {xs : List AV} {H : Hp} {y : AV × Hp} (h : T f xs H = some y) : orT T U f xs H = some y := by unfold orT; rw [h]
theorem orT_r {T U : FuncId → List AV → Hp → Option (AV × Hp)} {f : FuncId} {xs : List AV} {H : Hp} {y : AV × Hp} (h : T f xs H = none) (h' : U f xs H = some y) : orT T U f xs H = some y := by unfold orT; rw [h]; exact h'
theorem relT_none {α : Type} {f0 f : FuncId} {X : α → Prop} {a : α → List AV} {h : α → Hp} {r : α → AV} {h' : α → Hp} {xs : List AV} {H : Hp} (hf : f ≠ f0) : relT f0 X a h r h' f xs H = none := by
  unfold relT
  rw [dif_neg]
  rintro ⟨e, _⟩
  exact hf e
end
theorem str_inj {a b : List UInt8} (h : str a = str b) : a = b := by
  have h1 := dS_str a
  rw [h, dS_str] at h1
  exact (Option.some.inj h1).symm
end Go.AM
namespace Go.AM
/-! ### A slice that grows beside other things -/
section
variable {C : Cfg}
end
end Go.AM

namespace Go.AM
/-! ### A row's room: known while a call runs, forgotten behind it -/
mutual
/-- Nothing of the blocks from m on. -/
def noB (m : Nat) : AV → Bool
  | .v _ => true
  | .agg xs => noBs m xs
  | .tup xs => noBs m xs
  | .ro xs => noBs m xs
  | .cl _ xs => noBs m xs
  | .ap _ xs => noBs m xs
  | .ex b _ _ _ _ => decide (b < m)
  | .rp x _ => noB m x
  | .ptr b _ _ _ => decide (b < m)
  | .mp _ => true
  | .sd _ xs => noBs m xs
  | .fn _ a b => noBs m a && noBs m b
  | .iface _ x => noB m x
def noBs (m : Nat) : List AV → Bool
  | [] => true
  | x :: xs => noB m x && noBs m xs
end
structure GleB (m : Nat) (G G' : Gh) : Prop where
  im : ∀ b o v, G.im b o = some v → G'.im b o = some v
  lit : ∀ b, G.lit b → G'.lit b
  tok : ∀ t e v, G.tok t e = some v → G'.tok t e = some v
  blk : ∀ b g v, b < m → G.blk b g = some v → G'.blk b g = some v
  mp : ∀ m R, G.mp m = some R → G'.mp m = some R
theorem ImAt.moveB {m : Nat} {G G' : Gh} (h : GleB m G G') {b o : Nat} {vs : List Value} (k : ImAt G b o vs) : ImAt G' b o vs := fun j v hj => ⟨h.im _ _ _ (k j v hj).1, (k j v hj).2⟩
mutual
theorem VRel.moveB {m : Nat} {G G' : Gh} (h : GleB m G G') : ∀ (x : AV) (y : Value), noB m x = true → VRel G x y → VRel G' x y
  | .v _, _, _, hh => hh
  | .agg xs, _, n, ⟨ys, e, r⟩ => ⟨ys, e, VRels.moveB h xs _ n r⟩
  | .tup xs, _, n, ⟨ys, e, r⟩ => ⟨ys, e, VRels.moveB h xs _ n r⟩
  | .ro xs, _, n, ⟨hb, a, c, e, l, r⟩ => ⟨hb, a, c, e, l, r.imp id fun ⟨b, o, es, ha, hs, hE⟩ => ⟨b, o, es, ha, hs, Elems.moveB h es b xs o n hE⟩⟩
  | .cl _ xs, _, n, ⟨hb, a, e, l, r⟩ => ⟨hb, a, e, fun hf => let ⟨b, ha, hl⟩ := l hf; ⟨b, ha, h.lit _ hl⟩, r.imp id fun ⟨b, o, es, ha, hs, hE⟩ => ⟨b, o, es, ha, hs, Elems.moveB h es b xs o n hE⟩⟩
  | .ap _ xs, _, n, ⟨hb, t, a, c, e, l, r⟩ => ⟨hb, h.tok _ _ _ t, a, c, e, l, r.imp id fun ⟨b, es, ha, hs, hE⟩ => ⟨b, es, ha, hs, Elems.moveB h es b xs 0 n hE⟩⟩
  | .ex _ _ _ _ _, _, n, ⟨B, o, sz, c, hb, hs, e, l⟩ => ⟨B, o, sz, c, h.blk _ _ _ (of_decide_eq_true n) hb, hs, e, l⟩
  | .rp x _, _, n, ⟨hb, b, o, z, e, r, i⟩ => ⟨hb, b, o, z, e, VRel.moveB h x z n r, i.moveB h⟩
  | .ptr _ _ _ _, _, n, ⟨B, o, sz, es, hb, e⟩ => ⟨B, o, sz, es, h.blk _ _ _ (of_decide_eq_true n) hb, e⟩
  | .mp _, _, _, ⟨R, h1, e⟩ => ⟨R, h.mp _ _ h1, e⟩
  | .sd _ xs, _, n, ⟨hb, b, c, es, ht, e, h0, hE⟩ => ⟨hb, b, c, es, h.tok _ _ _ ht, e, h0, Elems.moveB h es b xs 0 n hE⟩
  | .fn _ a b, _, n, ⟨a', b', e, ra, rb⟩ => by
    rw [noB, Bool.and_eq_true] at n
    exact ⟨a', b', e, VRels.moveB h a _ n.1 ra, VRels.moveB h b _ n.2 rb⟩
  | .iface _ x, _, n, ⟨z, e, r⟩ => ⟨z, e, VRel.moveB h x z n r⟩
theorem VRels.moveB {m : Nat} {G G' : Gh} (h : GleB m G G') : ∀ (xs : List AV) (ys : List Value), noBs m xs = true → VRels G xs ys → VRels G' xs ys
  | [], _, _, hh => hh
  | x :: xs, _, n, ⟨z, zs, e, r, rs⟩ => by
    rw [noBs, Bool.and_eq_true] at n
    exact ⟨z, zs, e, VRel.moveB h x z n.1 r, VRels.moveB h xs zs n.2 rs⟩
theorem Elems.moveB {m : Nat} {G G' : Gh} (h : GleB m G G') (es b : Nat) : ∀ (xs : List AV) (o : Nat), noBs m xs = true → Elems G es b o xs → Elems G' es b o xs
  | [], _, _, _ => trivial
  | x :: xs, o, n, ⟨⟨z, r, k, i⟩, rest⟩ => by
    rw [noBs, Bool.and_eq_true] at n
    exact ⟨⟨z, VRel.moveB h x z n.1 r, k, i.moveB h⟩, Elems.moveB h es b xs (o + es) n.2 rest⟩
end
section
variable {C : Cfg} {G : Gs} {H : Hp} {W : World}
/-- The room is forgotten. -/
theorem Post.remark {b g1 g2 es m : Nat} {zs : List AV} {y : Value} {W' : World} (hp : Post C G W (.ex b g1 es 0 m) H y W') (hk : H.blks[b]? = some ⟨g1, es, zs⟩) (h1 : growG ≤ g2) (h2 : g1 < g2) (h3 : exCap g2 = none) :
    Post C G W (.ex b g2 es 0 m) { H with blks := H.blks.set b ⟨g2, es, zs⟩ } y W' := by
  obtain ⟨G', ⟨B, q, sz, c, hb, h0, rfl, hlc, hcap, hbd, hex⟩, S, A⟩ := hp
  obtain ⟨s1, s2⟩ := S.remark hk h1 h2 hb
  refine ⟨_, ⟨B, q, sz, c, ?_, h0, rfl, hlc, hcap, hbd, no_cap h3⟩, s1, A.trans s2⟩
  show (if b = b ∧ g2 = g2 then some (B, q, sz, es) else _) = _
  rw [if_pos ⟨rfl, rfl⟩]
/-- A new row takes the place of an old one. -/
theorem Post.move {t : List (Nat × TypeId)} {L : List Blk} {b g1 g2 es m : Nat} {xs zs : List AV} {y : Value} {W' : World} (hp : Post C G W (.ex L.length 0 es 0 m) { toks := t, blks := L ++ [⟨0, es, zs⟩] } y W') (hk : L[b]? = some ⟨g1, es, xs⟩) (h1 : growG ≤ g2) (h2 : g1 < g2) (h3 : exCap g2 = none)
    (hG : ∀ g, G.g.blk L.length g = none) (hL : ∀ k ∈ L, noBs L.length k.xs = true) (hz : noBs L.length zs = true) :
    Post C G W (.ex b g2 es 0 m) { toks := t, blks := L.set b ⟨g2, es, zs⟩ } y W' := by
  obtain ⟨G', ⟨B, q, sz, c, hb, h0, rfl, hlc, hcap, hbd, hex⟩, S, A⟩ := hp
  have hbl : b < L.length := (List.getElem?_eq_some_iff.1 hk).1
  obtain ⟨B', q', cells, tid, k1, k2, k3, k4, k5, k6⟩ := S.blk L.length ⟨0, es, zs⟩ (by simp)
  rw [hb] at k1
  injection k1 with k1
  injection k1 with e1 k1
  injection k1 with e2 k1
  injection k1 with e3 e4
  subst e1; subst e2; subst e3
  obtain ⟨B0, q0, cells0, tid0, _, j2, j3, _⟩ := S.blk b ⟨g1, es, xs⟩ (by rw [List.getElem?_append_left hbl]; exact hk)
  have hfr := j2.2.2.2
  have hgb : GleB L.length G'.g { G'.g with blk := fun b1 g' => if b1 = b ∧ g' = g2 then some (B, q, cells.size, es) else if b1 = L.length then none else G'.g.blk b1 g' } := ⟨fun _ _ _ x => x, fun _ x => x, fun _ _ _ x => x, fun b1 g' v hlt x => by
    show (if b1 = b ∧ g' = g2 then some (B, q, cells.size, es) else if b1 = L.length then none else G'.g.blk b1 g') = some v
    rw [if_neg, if_neg (by omega)]
    · exact x
    · rintro ⟨rfl, rfl⟩
      rw [hfr _ h1 h2] at x
      exact (nomatch x), fun _ _ x => x⟩
  have hrow : ∀ {cs : Array Value} {o es' : Nat} {ys : List AV}, noBs L.length ys = true → RowIs G'.g cs o es' ys → RowIs { G'.g with blk := fun b1 g' => if b1 = b ∧ g' = g2 then some (B, q, cells.size, es) else if b1 = L.length then none else G'.g.blk b1 g' } cs o es' ys := by
    intro cs o es' ys hn hr i x hx
    obtain ⟨z, r, h⟩ := hr i x hx
    refine ⟨z, VRel.moveB hgb x z ?_ r, h⟩
    clear hr r h
    induction ys generalizing i with
    | nil => simp at hx
    | cons y ys ih =>
      rw [noBs, Bool.and_eq_true] at hn
      cases i with
      | zero => simp at hx; subst hx; exact hn.1
      | succ i => exact ih hn.2 i (by simpa using hx)
  refine ⟨⟨{ G'.g with blk := fun b1 g' => if b1 = b ∧ g' = g2 then some (B, q, cells.size, es) else if b1 = L.length then none else G'.g.blk b1 g' }, fun b1 => if b1 = B then some (.blk b) else G'.own b1⟩, ⟨B, q, cells.size, c, ?_, h0, rfl, hlc, hcap, hbd, no_cap h3⟩, ⟨S.base, S.im, ?_, ?_, ?_, S.tokN, ?_, ?_, ?_, (fun m es h => by simp at h), S.mpN⟩, ⟨?_, A.os, A.tape, A.output, A.size, A.frame, ?_, A.litK, A.imK⟩⟩
  · show (if b = b ∧ g2 = g2 then some (B, q, cells.size, es) else _) = _
    rw [if_pos ⟨rfl, rfl⟩]
  · intro b1 x
    obtain ⟨l1, l2, l3⟩ := S.lit b1 x
    refine ⟨l1, l2, ?_⟩
    show (if b1 = B then some (Owner.blk b) else G'.own b1) = none
    rw [if_neg, l3]
    rintro rfl
    rw [k3] at l3
    cases l3
  · intro b1 w x
    have x' : (if b1 = B then some (Owner.blk b) else G'.own b1) = some w := x
    split at x'
    · rename_i e
      subst e
      exact S.own b1 _ k3
    · exact S.own b1 w x'
  · intro t1 e1 tid' x hs
    obtain ⟨y, size, vs, d1, d2, d3, d4, d5⟩ := S.tok t1 e1 tid' x hs
    refine ⟨y, size, vs, d1, d2, d3, d4, fun B1 hB1 => ⟨?_, (d5 B1 hB1).2⟩⟩
    show (if B1 = B then some (Owner.blk b) else G'.own B1) = _
    rw [if_neg]
    · exact (d5 B1 hB1).1
    · rintro rfl
      have hh := (d5 _ hB1).1
      rw [k3] at hh
      cases hh
  · intro b' k' x
    have x' : (L.set b ⟨g2, es, zs⟩)[b']? = some k' := x
    by_cases hbb : b' = b
    · subst hbb
      rw [List.getElem?_set_self hbl] at x'
      injection x' with x'
      subst x'
      refine ⟨B, q, cells, tid, ?_, ⟨k2.1, k2.2.1, .inr (.inr h1), fun g' a c => ?_⟩, ?_, k4, k5, hrow hz k6⟩
      · show (if b' = b' ∧ g2 = g2 then some (B, q, cells.size, es) else _) = _
        rw [if_pos ⟨rfl, rfl⟩]
      · have c' : g2 < g' := c
        show (if b' = b' ∧ g' = g2 then some (B, q, cells.size, es) else if b' = L.length then none else G'.g.blk b' g') = none
        rw [if_neg (by omega), if_neg (by omega)]
        exact hfr g' a (by show g1 < g'; omega)
      · show (if B = B then some (Owner.blk b') else _) = _
        rw [if_pos rfl]
    · rw [List.getElem?_set_ne (fun e => hbb e.symm)] at x'
      have hlt : b' < L.length := (List.getElem?_eq_some_iff.1 x').1
      obtain ⟨B1, q1, cs, tid', f1, f2, f3, f4, f5, f6⟩ := S.blk b' k' (by rw [List.getElem?_append_left hlt]; exact x')
      refine ⟨B1, q1, cs, tid', ?_, ⟨f2.1, f2.2.1, f2.2.2.1, fun g' a c => ?_⟩, ?_, f4, f5, hrow (hL k' (List.mem_of_getElem? x')) f6⟩
      · show (if b' = b ∧ k'.gen = g2 then some (B, q, cells.size, es) else if b' = L.length then none else G'.g.blk b' k'.gen) = _
        rw [if_neg (by omega), if_neg (by omega)]
        exact f1
      · show (if b' = b ∧ g' = g2 then some (B, q, cells.size, es) else if b' = L.length then none else G'.g.blk b' g') = none
        rw [if_neg (by omega), if_neg (by omega)]
        exact f2.2.2.2 g' a c
      · show (if B1 = B then some (Owner.blk b) else G'.own B1) = _
        rw [if_neg]
        · exact f3
        · rintro rfl
          rw [k3] at f3
          injection f3 with f3
          injection f3 with f3
          omega
  · intro b1 g' h
    have h' : L.length ≤ b1 := by simpa using h
    show (if b1 = b ∧ g' = g2 then some (B, q, cells.size, es) else if b1 = L.length then none else G'.g.blk b1 g') = none
    rw [if_neg (by omega)]
    split
    · rfl
    · exact S.blkN b1 g' (by simp; omega)
  · intro g' x hx
    obtain ⟨z, hz', hi⟩ := S.gl g' x hx
    exact ⟨z, hz', hi.moveB hgb⟩
  · refine ⟨A.gle.base, A.gle.im, A.gle.lit, A.gle.tok, fun b1 g' v x => ?_, A.gle.mp⟩
    have x2 := A.gle.blk _ _ _ x
    show (if b1 = b ∧ g' = g2 then some (B, q, cells.size, es) else if b1 = L.length then none else G'.g.blk b1 g') = some v
    rw [if_neg, if_neg]
    · exact x2
    · rintro rfl
      rw [hG] at x
      cases x
    · rintro ⟨rfl, rfl⟩
      rw [hfr _ h1 h2] at x2
      cases x2
  · intro B1 hB1 hno
    show (if B1 = B then some (Owner.blk b) else G'.own B1) = none
    rw [if_neg]
    · exact A.ownK B1 hB1 hno
    · rintro rfl
      have := A.ownK B1 hB1 hno
      rw [k3] at this
      cases this
end
end Go.AM

namespace Go.AM
/-! ### Texts in their order; what a stable sort makes, in plain Lean -/
abbrev bl (a b : List UInt8) : Bool := Op.bytesLess a b
theorem bl_nil (b : List UInt8) : bl b [] = false := by cases b <;> rfl
theorem bl_cons (x y : UInt8) (a b : List UInt8) : bl (x :: a) (y :: b) = (decide (x < y) || (x == y && bl a b)) := rfl
theorem bl_irrefl : ∀ a : List UInt8, bl a a = false
  | [] => rfl
  | x :: a => by
    rw [bl_cons, bl_irrefl a]
    simp
theorem bl_trans : ∀ {a b c : List UInt8}, bl a b = true → bl b c = true → bl a c = true
  | a, b, [], _, h => by rw [bl_nil] at h; cases h
  | a, [], c, h, _ => by rw [bl_nil] at h; cases h
  | [], _ :: _, _ :: _, _, _ => rfl
  | x :: a, y :: b, z :: c, h1, h2 => by
    rw [bl_cons] at h1 h2 ⊢
    simp only [Bool.or_eq_true, decide_eq_true_eq, Bool.and_eq_true, beq_iff_eq] at h1 h2 ⊢
    rcases h1 with h1 | ⟨rfl, h1⟩
    · rcases h2 with h2 | ⟨rfl, h2⟩
      · exact .inl (UInt8.lt_trans h1 h2)
      · exact .inl h1
    · rcases h2 with h2 | ⟨rfl, h2⟩
      · exact .inl h2
      · exact .inr ⟨rfl, bl_trans h1 h2⟩
theorem bl_tri : ∀ {a b : List UInt8}, bl a b = false → bl b a = false → a = b
  | [], [], _, _ => rfl
  | [], _ :: _, h, _ => by cases h
  | _ :: _, [], _, h => by cases h
  | x :: a, y :: b, h1, h2 => by
    rw [bl_cons] at h1 h2
    simp only [Bool.or_eq_false_iff, decide_eq_false_iff_not, Bool.and_eq_false_iff, beq_eq_false_iff_ne] at h1 h2
    have hxy : x = y := by
      have h3 := h1.1
      have h4 := h2.1
      rw [UInt8.lt_iff_toNat_lt] at h3 h4
      exact UInt8.toNat_inj.1 (by omega)
    subst hxy
    rw [bl_tri (h1.2.resolve_left (by simp)) (h2.2.resolve_left (by simp))]
theorem bl_asymm {a b : List UInt8} (h : bl a b = true) : bl b a = false := by
  cases h2 : bl b a with
  | false => rfl
  | true => have := bl_trans h h2; rw [bl_irrefl] at this; cases this
/-- Not greater. -/
def ble (a b : List UInt8) : Bool := !bl b a
theorem ble_of_lt {a b : List UInt8} (h : bl a b = true) : ble a b = true := by simp [ble, bl_asymm h]
theorem ble_trans {a b c : List UInt8} (h1 : ble a b = true) (h2 : ble b c = true) : ble a c = true := by
  cases h : bl c a with
  | false => simp [ble, h]
  | true =>
    exfalso
    simp only [ble, Bool.not_eq_true'] at h1 h2
    cases h3 : bl a b with
    | true => have := bl_trans h h3; rw [h2] at this; cases this
    | false =>
      have := bl_tri h3 h1
      subst this
      rw [h2] at h
      cases h
theorem ble_total (a b : List UInt8) : ble a b = true ∨ ble b a = true := by
  cases h : bl b a with
  | false => left; simp [ble, h]
  | true => right; exact ble_of_lt h
section
variable {α : Type} (k : α → List UInt8)
/-- Of each key the same ones, in the same order. -/
def Sm (xs ys : List α) : Prop := ∀ key, xs.filter (fun a => k a == key) = ys.filter fun a => k a == key
variable {k}
theorem Sm.refl (xs : List α) : Sm k xs xs := fun _ => rfl
theorem Sm.symm {xs ys : List α} (h : Sm k xs ys) : Sm k ys xs := fun key => (h key).symm
theorem Sm.trans {xs ys zs : List α} (h : Sm k xs ys) (h2 : Sm k ys zs) : Sm k xs zs := fun key => (h key).trans (h2 key)
theorem Sm.append {xs ys xs' ys' : List α} (h : Sm k xs ys) (h2 : Sm k xs' ys') : Sm k (xs ++ xs') (ys ++ ys') := fun key => by
  rw [List.filter_append, List.filter_append, h key, h2 key]
theorem Sm.mem {xs ys : List α} (h : Sm k xs ys) {a : α} (ha : a ∈ xs) : a ∈ ys := by
  have : a ∈ xs.filter (fun b => k b == k a) := List.mem_filter.2 ⟨ha, by simp⟩
  rw [h (k a)] at this
  exact (List.mem_filter.1 this).1
end
end Go.AM

namespace Go.AM
open Go.ChangeShapes Go.WideShapes Go.RowKit
/-! ### How large what is handed in may be: the form's own reach -/
section
variable (P : Program)
end
section
variable {H : Type} {enc : TypeId × Value → H} {P : Program} {w : World} {base : Nat} {spare : Nat → Bool} {held : Bool}
end
end Go.AM

/-! What a walk rewrites by, all in one. -/
namespace Go.AM
theorem clB_f {xs : List AV} : clB false xs = .cl false xs := rfl
theorem clB_c {f : Bool} {x : AV} {xs : List AV} : clB f (x :: xs) = .cl false (x :: xs) := by cases f <;> rfl
theorem clB_n : clB true [] = .ro [] := rfl
set_option maxRecDepth 100000
theorem AS : type_of% (And.intro @clB_f <| And.intro @clB_c <| And.intro @clB_n <| And.intro @wt_seq <|
  And.intro @wt_block <|
  And.intro @wt_region <|
  And.intro @wt_cond <|
  And.intro @wt_skip <|
  And.intro @wt_ret <|
  And.intro @wt_exit <|
  And.intro @wst_nil <|
  And.intro @wst_cons <|
  And.intro @wst_guard <|
  And.intro @andThen_normal <|
  And.intro @andThen_ret <|
  And.intro @andThen_exit <|
  And.intro @leave_normal <|
  And.intro @leave_ret <|
  And.intro @leave_exit <|
  And.intro @EndsA_ret <|
  And.intro @EndsA_normal <|
  And.intro @ot_move <|
  And.intro @ot_assign <|
  And.intro @ot_pick <|
  And.intro @ot_binOp <|
  And.intro @ot_unOp <|
  And.intro @ot_convert <|
  And.intro @ot_field <|
  And.intro @ot_index <|
  And.intro @ot_indexAddr <|
  And.intro @ot_fieldAddr <|
  And.intro @ot_slice <|
  And.intro @ot_build <|
  And.intro @ot_buildSlice <|
  And.intro @ot_extract <|
  And.intro @ot_makeInterface <|
  And.intro @ot_makeFunc <|
  And.intro @ot_nilCheck <|
  And.intro @ot_call <|
  And.intro @ot_len <|
  And.intro @ot_append <|
  And.intro @ot_box <|
  And.intro @ot_load <|
  And.intro @ot_store <|
  And.intro @ot_lookup <|
  And.intro @ot_makeMap <|
  And.intro @ot_mapUpdate <|
  And.intro @ot_invoke <|
  And.intro @ot_typeAssert <|
  And.intro @ot_makeSlice <|
  And.intro @ot_alloc <|
  And.intro @ot_sliceData <|
  And.intro @ot_unsafeString <|
  And.intro @ct_bool <|
  And.intro @ct_true <|
  And.intro @ct_false <|
  And.intro @bt_some <|
  And.intro @gt_some <|
  And.intro @aval_tmp <|
  And.intro @aval_int <|
  And.intro @aval_bool <|
  And.intro @aval_str <|
  And.intro @aval_slice <|
  And.intro @aval_nilPointer <|
  And.intro @aval_nilIface <|
  And.intro @aval_func <|
  And.intro @aval_global <|
  And.intro @bin_lss <|
  And.intro @bin_leq <|
  And.intro @bin_gtr <|
  And.intro @bin_geq <|
  And.intro @bin_eql <|
  And.intro @bin_neq <|
  And.intro @bin_add <|
  And.intro @bin_sub <|
  And.intro @bin_mul <|
  And.intro @toV_int <|
  And.intro @toV_bool <|
  And.intro @toV_string <|
  And.intro @un_neg <|
  And.intro @un_not <|
  And.intro @bin_str_eql <|
  And.intro @bin_str_neq <|
  And.intro @bin_str_lss <|
  And.intro @bin_str_leq <|
  And.intro @bin_str_gtr <|
  And.intro @bin_str_geq <|
  And.intro @aget_aput <|
  And.intro @length_aput <|
  And.intro @aput_none <|
  And.intro @Bool.not_false <|
  And.intro @Bool.not_true <|
  And.intro @Bool.true_or <|
  And.intro @true_and <|
  And.intro @Option.bind_some.{0,0} <|
  And.intro @Option.map_some.{0,0} <|
  And.intro @List.nil_append.{0} <|
  And.intro @List.cons_append.{0} <|
  And.intro @Option.getD_some.{0} <|
  And.intro @bnd_some <|
  And.intro @yieldA_eq <|
  And.intro @yldOf_some <|
  And.intro @boolOf_bool <|
  And.intro @boolOf_undef <|
  And.intro @gt_none <|
  And.intro @List.getElem?_toArray.{0} <|
  And.intro @List.getElem?_cons_succ.{0} <|
  And.intro @List.getElem?_cons_zero.{0} <|
  And.intro @bq_true <|
  And.intro @bq_false <|
  And.intro @decide_true <|
  And.intro @decide_false <|
  And.intro @Option.toList_none.{0} <|
  And.intro @Option.toList_some.{0} <|
  And.intro @List.head?_cons.{0} <|
  And.intro @List.head?_nil.{0} <|
  And.intro @appB_f <|
  And.intro @ot_clear <|
  And.intro @ot_copy <|
  And.intro @ot_cap <|
  And.intro @ot_max <|
  And.intro @Bool.or_false <|
  And.intro @Bool.false_or <|
  And.intro @Bool.true_and <|
  And.intro @Bool.false_and <|
  And.intro @not_false_eq_true <|
  And.intro @cv_some <|
  And.intro @pm_some <|
  And.intro @pm_none <|
  And.intro @plainA_v <|
  And.intro @plain_bool <|
  And.intro @plain_int <|
  And.intro @plain_str <|
  And.intro @Bool.false_eq_true @if_false.{1}) :=
  And.intro @clB_f <| And.intro @clB_c <| And.intro @clB_n <| And.intro @wt_seq <|
  And.intro @wt_block <|
  And.intro @wt_region <|
  And.intro @wt_cond <|
  And.intro @wt_skip <|
  And.intro @wt_ret <|
  And.intro @wt_exit <|
  And.intro @wst_nil <|
  And.intro @wst_cons <|
  And.intro @wst_guard <|
  And.intro @andThen_normal <|
  And.intro @andThen_ret <|
  And.intro @andThen_exit <|
  And.intro @leave_normal <|
  And.intro @leave_ret <|
  And.intro @leave_exit <|
  And.intro @EndsA_ret <|
  And.intro @EndsA_normal <|
  And.intro @ot_move <|
  And.intro @ot_assign <|
  And.intro @ot_pick <|
  And.intro @ot_binOp <|
  And.intro @ot_unOp <|
  And.intro @ot_convert <|
  And.intro @ot_field <|
  And.intro @ot_index <|
  And.intro @ot_indexAddr <|
  And.intro @ot_fieldAddr <|
  And.intro @ot_slice <|
  And.intro @ot_build <|
  And.intro @ot_buildSlice <|
  And.intro @ot_extract <|
  And.intro @ot_makeInterface <|
  And.intro @ot_makeFunc <|
  And.intro @ot_nilCheck <|
  And.intro @ot_call <|
  And.intro @ot_len <|
  And.intro @ot_append <|
  And.intro @ot_box <|
  And.intro @ot_load <|
  And.intro @ot_store <|
  And.intro @ot_lookup <|
  And.intro @ot_makeMap <|
  And.intro @ot_mapUpdate <|
  And.intro @ot_invoke <|
  And.intro @ot_typeAssert <|
  And.intro @ot_makeSlice <|
  And.intro @ot_alloc <|
  And.intro @ot_sliceData <|
  And.intro @ot_unsafeString <|
  And.intro @ct_bool <|
  And.intro @ct_true <|
  And.intro @ct_false <|
  And.intro @bt_some <|
  And.intro @gt_some <|
  And.intro @aval_tmp <|
  And.intro @aval_int <|
  And.intro @aval_bool <|
  And.intro @aval_str <|
  And.intro @aval_slice <|
  And.intro @aval_nilPointer <|
  And.intro @aval_nilIface <|
  And.intro @aval_func <|
  And.intro @aval_global <|
  And.intro @bin_lss <|
  And.intro @bin_leq <|
  And.intro @bin_gtr <|
  And.intro @bin_geq <|
  And.intro @bin_eql <|
  And.intro @bin_neq <|
  And.intro @bin_add <|
  And.intro @bin_sub <|
  And.intro @bin_mul <|
  And.intro @toV_int <|
  And.intro @toV_bool <|
  And.intro @toV_string <|
  And.intro @un_neg <|
  And.intro @un_not <|
  And.intro @bin_str_eql <|
  And.intro @bin_str_neq <|
  And.intro @bin_str_lss <|
  And.intro @bin_str_leq <|
  And.intro @bin_str_gtr <|
  And.intro @bin_str_geq <|
  And.intro @aget_aput <|
  And.intro @length_aput <|
  And.intro @aput_none <|
  And.intro @Bool.not_false <|
  And.intro @Bool.not_true <|
  And.intro @Bool.true_or <|
  And.intro @true_and <|
  And.intro @Option.bind_some.{0,0} <|
  And.intro @Option.map_some.{0,0} <|
  And.intro @List.nil_append.{0} <|
  And.intro @List.cons_append.{0} <|
  And.intro @Option.getD_some.{0} <|
  And.intro @bnd_some <|
  And.intro @yieldA_eq <|
  And.intro @yldOf_some <|
  And.intro @boolOf_bool <|
  And.intro @boolOf_undef <|
  And.intro @gt_none <|
  And.intro @List.getElem?_toArray.{0} <|
  And.intro @List.getElem?_cons_succ.{0} <|
  And.intro @List.getElem?_cons_zero.{0} <|
  And.intro @bq_true <|
  And.intro @bq_false <|
  And.intro @decide_true <|
  And.intro @decide_false <|
  And.intro @Option.toList_none.{0} <|
  And.intro @Option.toList_some.{0} <|
  And.intro @List.head?_cons.{0} <|
  And.intro @List.head?_nil.{0} <|
  And.intro @appB_f <|
  And.intro @ot_clear <|
  And.intro @ot_copy <|
  And.intro @ot_cap <|
  And.intro @ot_max <|
  And.intro @Bool.or_false <|
  And.intro @Bool.false_or <|
  And.intro @Bool.true_and <|
  And.intro @Bool.false_and <|
  And.intro @not_false_eq_true <|
  And.intro @cv_some <|
  And.intro @pm_some <|
  And.intro @pm_none <|
  And.intro @plainA_v <|
  And.intro @plain_bool <|
  And.intro @plain_int <|
  And.intro @plain_str <|
  And.intro @Bool.false_eq_true @if_false.{1}
theorem AX : type_of% (And.intro @decide_not <|
  And.intro @Bool.and_true <|
  And.intro @Bool.and_false <|
  And.intro @Bool.or_true <|
  And.intro @if_true.{1} <|
  And.intro @Bool.not_not <|
  And.intro @decide_eq_true <|
  And.intro @decide_eq_false <|
  And.intro @fe_get <|
  And.intro @fe_put <|
  And.intro @fe_len @upd_app) :=
  And.intro @decide_not <|
  And.intro @Bool.and_true <|
  And.intro @Bool.and_false <|
  And.intro @Bool.or_true <|
  And.intro @if_true.{1} <|
  And.intro @Bool.not_not <|
  And.intro @decide_eq_true <|
  And.intro @decide_eq_false <|
  And.intro @fe_get <|
  And.intro @fe_put <|
  And.intro @fe_len @upd_app
end Go.AM
