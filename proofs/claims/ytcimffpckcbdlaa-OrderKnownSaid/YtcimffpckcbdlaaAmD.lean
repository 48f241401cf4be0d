/- An abstract machine for loaded programs: weakest preconditions, arguments, laws. -/
import Derived.Test.YtcimffpckcbdlaaAmC
import Derived.Laws.Strings
import Derived.Carry
import Derived.OpenShut
import Derived.KernelRfl
import Derived.Laws.Externs
import Derived.SizedLaws
set_option linter.unusedSimpArgs false
set_option linter.unusedVariables false
namespace Go.AM
section
variable {C : Cfg} {fid : FuncId} {call : FuncId → List AV → Hp → Option (AV × Hp)}

variable (C fid call) in
/-- The code ends, and so. -/
def wk (c : Code) (env : Env) (H : Hp) (Q : Xit → Env → Hp → Prop) : Prop := ∃ n x e h, exec C fid call n c env H = some (x, e, h) ∧ Q x e h
variable (C fid call) in
/-- .. the operations of a region. -/
def wks (ops : Array Oper) (l : List Oper) (env : Env) (H : Hp) (ks : List Nat) (Q : Env → Hp → List Nat → Prop) : Prop := match opsA C call fid ops l env H ks with
  | some (e, h, ks) => Q e h ks
  | none => False
variable (C fid call) in
/-- .. one operation. -/
def wk1 (o : Oper) (env : Env) (H : Hp) (Q : AV → Hp → Nat → Prop) : Prop := match opA C call fid o env H with
  | some (x, h, k) => Q x h k
  | none => False

variable {env env' : Env} {H H' : Hp} {Q : Xit → Env → Hp → Prop}
@[congr] theorem wk_congr {c : Code} (h : env = env') (k : H = H') : wk C fid call c env H Q = wk C fid call c env' H' Q := by rw [h, k]
@[congr] theorem wks_congr {ops : Array Oper} {l : List Oper} {ks ks' : List Nat} {Q : Env → Hp → List Nat → Prop} (h : env = env') (k : H = H') (j : ks = ks') : wks C fid call ops l env H ks Q = wks C fid call ops l env' H' ks' Q := by rw [h, k, j]
@[congr] theorem wk1_congr {o : Oper} {Q : AV → Hp → Nat → Prop} (h : env = env') (k : H = H') : wk1 C fid call o env H Q = wk1 C fid call o env' H' Q := by rw [h, k]

/-- What comes behind: nothing, if it was left. -/
def andThen (Q' : Env → Hp → Prop) (Q : Xit → Env → Hp → Prop) : Xit → Env → Hp → Prop
  | .normal, e, h => Q' e h
  | x, e, h => Q x e h
/-- A block's end. -/
def leave (i : Nat) (Q : Xit → Env → Hp → Prop) : Xit → Env → Hp → Prop
  | .exit j, e, h => if j = i then Q .normal e h else Q (.exit j) e h
  | x, e, h => Q x e h
/-! ### The frame's slots -/
/-! ### Operands -/
/-- What follows, if there is something. -/
def bnd {α : Type} (o : Option α) (K : α → Prop) : Prop := match o with
  | some x => K x
  | none => False
@[congr] theorem bnd_congr {α : Type} {o o' : Option α} {K : α → Prop} (h : o = o') : bnd o K = bnd o' K := by rw [h]

/-- Two ways. -/
def condQ (t : Bool) (A B : Prop) : Prop := (t = true → A) ∧ (t = false → B)
@[congr] theorem condQ_congr {t t' : Bool} {A B : Prop} (h : t = t') : condQ t A B = condQ t' A B := by rw [h]
def condV (x : AV) (A B : Prop) : Prop := match x with
  | .v (.bool t) => condQ t A B
  | _ => False
@[congr] theorem condV_congr {t t' : AV} {A B : Prop} (h : t = t') : condV t A B = condV t' A B := by rw [h]
/-! ### Operations -/
section
variable {d : Option Tmp} {ty : TypeId} {pos : String} {af : Array Edge} {g : Option (Nat × Bool)} {Q : AV → Hp → Nat → Prop}
end
end
end Go.AM

namespace Go.AM
section
variable {C : Cfg} {fid : FuncId} {call : FuncId → List AV → Hp → Option (AV × Hp)} {env : Env} {H : Hp}
variable {d : Option Tmp} {ty : TypeId} {pos : String} {af : Array Edge} {g : Option (Nat × Bool)} {Q : AV → Hp → Nat → Prop}

/-! ### Calls -/
variable (C call) in
def wkCall (f : AV) (args : List AV) (H : Hp) (Q : AV → Hp → Nat → Prop) : Prop := match callPA C (ownCall call) f args with
  | some x => Q x H 0
  | none => match callRA C (ownCall call) f args H with
   | some x => Q x H 1
   | none => match f with
    | .fn (.func f) first captured => if (C.prim f).isSome || C.own f then False else (match call f (first ++ args ++ captured) H with
      | some (x, h) => Q x h 2
      | none => False)
    | _ => False
@[congr] theorem wkCall_congr {f f' : AV} {args args' : List AV} {H H' : Hp} (h : f = f') (k : args = args') (j : H = H') : wkCall C call f args H Q = wkCall C call f' args' H' Q := by rw [h, k, j]
/-! ### Builtins -/
/-! ### Boxes -/
def boxW (gn : Nat) (y : AV) (H : Hp) (Q : AV → Hp → Nat → Prop) : Prop := if y.cells.all AV.flat then Q (.ptr H.blks.length gn 0 0) { H with blks := H.blks ++ [⟨gn, y.cells.length, [y]⟩] } 2 else False
def boxQ (gn : Nat) (ro : Bool) (y : AV) (H : Hp) (Q : AV → Hp → Nat → Prop) : Prop := match y.bare with
  | some z => if ro && z.cells.all AV.flat then Q (.rp z 0) H 0 else boxW gn y H Q
  | none => boxW gn y H Q
@[congr] theorem boxW_congr {gn : Nat} {y y' : AV} {H H' : Hp} (h : y = y') (k : H = H') : boxW gn y H Q = boxW gn y' H' Q := by rw [h, k]
@[congr] theorem boxQ_congr {gn : Nat} {ro ro' : Bool} {y y' : AV} {H H' : Hp} (j : ro = ro') (h : y = y') (k : H = H') : boxQ gn ro y H Q = boxQ gn ro' y' H' Q := by rw [h, k, j]
/-! ### Values -/
section
variable {t : TypeId} {x y : Operand} {k : IntKind} {a b : Int}
end
end
end Go.AM

namespace Go.AM
/-! ### Texts and bytes as lists -/
def str (l : List UInt8) : AV := .v (.string ⟨l.toArray⟩)
def byt (c : UInt8) : AV := .v (.int .u8 c.toNat)
section
variable {C : Cfg} {fid : FuncId} {call : FuncId → List AV → Hp → Option (AV × Hp)} {env : Env} {H : Hp}
section
variable {t : TypeId} {x y : Operand} {a b : List UInt8}
end
end
end Go.AM

namespace Go.AM
section
variable {C : Cfg} {call : FuncId → List AV → Hp → Option (AV × Hp)}
end
end Go.AM

namespace Go.AM
open Go.ChangeShapes Go.WideShapes Go.RowKit
section
variable (P : Program)
/-- Fields' parts, one behind the other. -/
def ArgF (f : TypeId → List AV → Prop) : List Field → List AV → Prop
  | [], xs => xs = []
  | g :: gs, xs => ∃ a b, xs = a ++ b ∧ f g.type a ∧ ArgF f gs b
/-- The cells of something that a call may be handed. -/
def ArgC : Nat → TypeId → List AV → Prop
  | 0, _, _ => False
  | n + 1, t, xs => match P.underlying t with
    | some .bool => ∃ b, xs = [.v (.bool b)]
    | some (.int k) => ∃ i, xs = [.v (.int k i)] ∧ (Lit.int k i).wf = true
    | some .string => ∃ l, xs = [str l] ∧ l.length ≤ maxLen
    | some (.slice e) => xs = [.v (.slice none 0 0)] ∨ ∃ ys, xs = [.ro ys] ∧ ys.length ≤ maxLen ∧ ∀ y ∈ ys, ∃ cs, ArgC n e cs ∧ oneA (aggT P e) cs = some y
    | some (.pointer e) => xs = [.v (.pointer none)] ∨ ∃ y cs, xs = [.rp y 0] ∧ ArgC n e cs ∧ oneA (aggT P e) cs = some y
    | some (.struct fs) => ArgF (ArgC n) fs.toList xs
    | some (.array k e) => ∃ xss : List (List AV), xs = xss.flatten ∧ xss.length = k ∧ ∀ x ∈ xss, ArgC n e x
    | _ => False
/-- Types that are known whole. -/
def closedT (S : List TypeId) : Bool := S.all fun t => match P.underlying t with
  | some .bool | some (.int _) | some .string => true
  | some (.slice e) | some (.pointer e) => decide (0 < P.cellsOf e) && S.contains e
  | some (.struct fs) => tilesB P 0 fs.toList && (P.cellsOf t == (fs.toList.map fun f => P.cellsOf f.type).sum) && fs.toList.all fun f => S.contains f.type
  | some (.array k e) => (P.cellsOf t == k * P.cellsOf e) && S.contains e
  | _ => false
end
section
variable {H : Type} {enc : TypeId × Value → H} {P : Program} {w : World} {base : Nat} {spare : Nat → Bool} {held : Bool}
theorem mapA_some {α β : Type} {f : α → Option β} : ∀ {xs : List α}, (∀ x ∈ xs, ∃ y, f x = some y) → ∃ ys, mapA f xs = some ys
  | [], _ => ⟨[], rfl⟩
  | x :: xs, h => by
    obtain ⟨y, hy⟩ := h x (by simp)
    obtain ⟨ys, hys⟩ := mapA_some (xs := xs) fun z hz => h z (by simp [hz])
    exact ⟨y :: ys, by simp [mapA, hy, hys]⟩
theorem mapA_mem {α β : Type} {f : α → Option β} : ∀ {xs : List α} {ys : List β}, mapA f xs = some ys → ∀ y ∈ ys, ∃ x ∈ xs, f x = some y
  | [], ys, h, y, hy => by simp only [mapA, Option.some.injEq] at h; subst h; cases hy
  | x :: xs, ys, h, y, hy => by
    simp only [mapA] at h
    split at h
    · rename_i z zs h1 h2
      injection h with h; subst h
      rcases List.mem_cons.1 hy with rfl | hy
      · exact ⟨x, by simp, h1⟩
      · obtain ⟨u, hu, he⟩ := mapA_mem h2 y hy
        exact ⟨u, by simp [hu], he⟩
    · cases h
theorem zipA_arg {f : TypeId → DataW H → Option (List AV)} {A : TypeId → List AV → Prop} : ∀ {fs : List Field} {ds : List (DataW H)}, ds.length = fs.length → (∀ (i : Nat) (g : Field) d, fs[i]? = some g → ds[i]? = some d → ∃ xs, f g.type d = some xs ∧ A g.type xs) → ∃ xs, zipA f fs ds = some xs ∧ ArgF A fs xs
  | [], [], _, _ => ⟨[], rfl, rfl⟩
  | [], _ :: _, h, _ => by simp at h
  | _ :: _, [], h, _ => by simp at h
  | g :: fs, d :: ds, h, k => by
    obtain ⟨x, h1, h2⟩ := k 0 g d rfl rfl
    obtain ⟨xs, h3, h4⟩ := zipA_arg (fs := fs) (ds := ds) (by simpa using h) fun i g' d' hg hd => k (i + 1) g' d' (by simpa using hg) (by simpa using hd)
    exact ⟨x ++ xs, by simp [zipA, h1, h3], x, xs, rfl, h2, h4⟩
theorem oneA_some {e : TypeId} {xs : List AV} {cs : List Value} (o : Opened P w e xs cs) : ∃ y, oneA (aggT P e) xs = some y := by
  unfold oneA
  split
  · exact ⟨_, rfl⟩
  · rename_i hg
    obtain ⟨x, c, rfl, _, _⟩ := o.len (by simpa using hg)
    exact ⟨_, rfl⟩
/-- **What a call is handed, in the abstract machine.** -/
theorem trod_arg {S : List TypeId} (hS : closedT P S = true) : ∀ {fuel : Nat} {t : TypeId} {cs : List Value} {d : DataW H} {ps : List MemPlace}, t ∈ S → DataW.trod enc P w base spare held fuel t cs = some (d, ps) → ∃ xs, avC P fuel t d = some xs ∧ ArgC P fuel t xs
  | 0, _, _, _, _, _, h => by simp [DataW.trod] at h
  | n + 1, t, cs, d, ps, ht, h => by
    have hc := List.all_eq_true.1 hS t ht
    unfold avC ArgC
    split at hc
    · rename_i hu
      obtain ⟨b, rfl, hx⟩ := DataW.trod_bool hu h
      injection hx with h1 h2; subst h1
      simp only [hu]
      exact ⟨_, rfl, b, rfl⟩
    · rename_i k hu
      obtain ⟨i, rfl, hx, hw⟩ := DataW.trod_int hu h
      injection hx with h1 h2; subst h1
      simp only [hu]
      exact ⟨_, rfl, i, rfl, hw⟩
    · rename_i hu
      obtain ⟨s, rfl, hx, hw⟩ := DataW.trod_string hu h
      injection hx with h1 h2; subst h1
      simp only [hu]
      exact ⟨_, rfl, s.data.toList, rfl, by rw [ByteArray.size] at hw; simpa using hw⟩
    · rename_i e hu
      simp only [Bool.and_eq_true, decide_eq_true_eq, List.contains_iff_mem] at hc
      obtain ⟨hpos, he⟩ := hc
      rcases DataW.trod_slice hu h with ⟨rfl, hx⟩ | ⟨a, len, cap, elems, rest, n', hn, rfl, hx, _, hcap, hcap', hlen, hel, _⟩
      · injection hx with h1 h2; subst h1
        simp only [hu]
        exact ⟨_, rfl, .inl rfl⟩
      · injection hx with h1 h2; subst h1
        injection hn with hn; subst hn
        simp only [hu, hpos, if_true]
        have key : ∀ d ∈ elems.map (·.1), ∃ y, (avC P n e d).bind (oneA (aggT P e)) = some y ∧ ∃ cs, ArgC P n e cs ∧ oneA (aggT P e) cs = some y := by
          intro d hd
          obtain ⟨p, hp, rfl⟩ := List.mem_map.1 hd
          obtain ⟨i, hi⟩ := List.getElem?_of_mem hp
          have hil : i < elems.length := (List.getElem?_eq_some_iff.1 hi).1
          have he' := hel i (by omega)
          rw [hi] at he'
          simp only [Option.bind_eq_some_iff] at he'
          obtain ⟨cs', _, hd'⟩ := he'
          obtain ⟨xs, h1, h2⟩ := trod_arg hS (d := p.1) (ps := p.2) he hd'
          obtain ⟨y, hy⟩ := oneA_some (trod_av n (d := p.1) (ps := p.2) hd' h1)
          exact ⟨y, by simp [h1, hy], xs, h2, hy⟩
        obtain ⟨ys, hys⟩ := mapA_some fun d hd => (key d hd).imp fun _ h => h.1
        refine ⟨_, by rw [hys]; rfl, .inr ⟨ys, rfl, ?_, fun y hy => ?_⟩⟩
        · rw [(mapA_get hys).1]; simp; omega
        · obtain ⟨d, hd, he⟩ := mapA_mem hys y hy
          obtain ⟨y', h1, h2⟩ := key d hd
          rw [he] at h1
          injection h1 with h1; subst h1
          exact h2
    · rename_i e hu
      simp only [Bool.and_eq_true, decide_eq_true_eq, List.contains_iff_mem] at hc
      obtain ⟨hpos, he⟩ := hc
      rcases DataW.trod_pointer hu h with ⟨rfl, hx⟩ | ⟨a, cs', y, n', hn, rfl, hx, hc, hy⟩
      · injection hx with h1 h2; subst h1
        simp only [hu]
        exact ⟨_, rfl, .inl rfl⟩
      · injection hx with h1 h2; subst h1
        injection hn with hn; subst hn
        simp only [hu, hpos, if_true]
        obtain ⟨xs, h1, h2⟩ := trod_arg hS (d := y.1) (ps := y.2) he hy
        obtain ⟨z, hz⟩ := oneA_some (trod_av n (d := y.1) (ps := y.2) hy h1)
        refine ⟨[.rp z 0], by simp [h1, hz], .inr ⟨z, xs, rfl, h2, hz⟩⟩
    · rename_i fs hu
      simp only [Bool.and_eq_true, List.all_eq_true, List.contains_iff_mem] at hc
      obtain ⟨hc, hin⟩ := hc
      obtain ⟨ps', m, hn, hx, hl, hlen, hf⟩ := DataW.trod_struct hu h
      injection hx with h1 h2; subst h1
      injection hn with hn; subst hn
      simp only [hu, hc, Bool.and_eq_true, and_self, if_true]
      refine zipA_arg (by simp [hlen]) fun i g d hg hd => ?_
      have h1 := hf i g (by simpa using hg)
      rw [List.getElem?_map] at hd
      rw [Option.map_eq_some_iff] at hd
      obtain ⟨p, hp, rfl⟩ := hd
      rw [hp] at h1
      exact trod_arg hS (d := p.1) (ps := p.2) (hin g (List.mem_of_getElem? hg)) h1
    · rename_i k e hu
      simp only [Bool.and_eq_true, beq_iff_eq, List.contains_iff_mem] at hc
      obtain ⟨hcs, he⟩ := hc
      obtain ⟨ps', m, hn, hx, hl, hlen, hf⟩ := DataW.trod_array hu h
      injection hx with h1 h2; subst h1
      injection hn with hn; subst hn
      simp only [hu, hcs, if_true]
      have key : ∀ d ∈ ps'.map (·.1), ∃ y, avC P n e d = some y ∧ ArgC P n e y := by
        intro d hd
        obtain ⟨p, hp, rfl⟩ := List.mem_map.1 hd
        obtain ⟨i, hi⟩ := List.getElem?_of_mem hp
        have hil : i < ps'.length := (List.getElem?_eq_some_iff.1 hi).1
        have h1 := hf i (by omega)
        rw [hi] at h1
        exact trod_arg hS (d := p.1) (ps := p.2) he h1
      obtain ⟨ys, hys⟩ := mapA_some fun d hd => (key d hd).imp fun _ h => h.1
      refine ⟨ys.flatten, by rw [hys]; rfl, ys, rfl, ?_, fun y hy => ?_⟩
      · rw [(mapA_get hys).1]; simp [hlen]
      · obtain ⟨d, hd, he'⟩ := mapA_mem hys y hy
        obtain ⟨y', h1, h2⟩ := key d hd
        rw [he'] at h1
        injection h1 with h1; subst h1
        exact h2
    · cases hc

variable (P) in
/-- .. one argument, .. all. -/
def Arg (t : TypeId) (x : AV) : Prop := ∃ n cs, ArgC P n t cs ∧ oneA (aggT P t) cs = some x
variable (P) in
def Args : List TypeId → List AV → Prop
  | [], xs => xs = []
  | t :: ts, xs => ∃ y ys, xs = y :: ys ∧ Arg P t y ∧ Args ts ys
theorem cells_plain {v : Value} {c : Value} (h : v.cells.toList = [c]) (hp : Value.plain v = true) : v = c := by
  rw [plain_of_not_agg hp] at h
  simpa using h
theorem okWide_arr {k : Nat} {e : TypeId} {t : TypeId} {v : Value} {r : Reach} {b0 : Nat} (ht : P.underlying t = some (.array k e)) (h : Value.okWide P w r b0 t v) : ∃ cs, v = .agg cs := by
  simp only [Value.okWide, ht] at h
  obtain ⟨cs, h1, _⟩ := h
  exact ⟨cs, h1⟩
theorem trod_one {S : List TypeId} (hS : closedT P S = true) {t : TypeId} (ht : t ∈ S) {v : Value} {d : DataW H} {ps : List MemPlace} (h : DataW.Trod enc P w base spare held t v d ps) {r : Reach} {b0 : Nat} (hv : Value.okWide P w r b0 t v) :
    ∃ x, Arg P t x ∧ VRel (Gs.start w).g x v ∧ Bare x := by
  obtain ⟨fuel, h⟩ := h
  obtain ⟨xs, h1, h2⟩ := trod_arg hS ht h
  have o := trod_av fuel h h1
  obtain ⟨x, hx⟩ := oneA_some o
  refine ⟨x, ⟨fuel, xs, h2, hx⟩, ?_⟩
  have hc := List.all_eq_true.1 hS t ht
  have plain : aggT P t = false → Value.plain v = true → VRel (Gs.start w).g x v ∧ Bare x := by
    intro ha hp
    obtain ⟨y, c, rfl, hcs, hcp⟩ := o.len ha
    unfold oneA at hx
    rw [ha] at hx
    simp only [Bool.false_eq_true, if_false, Option.some.injEq] at hx
    subst hx
    have e1 := cells_plain hcs hp
    obtain ⟨c', cs', e, r2, _⟩ := o.rel
    rw [hcs] at e
    injection e with e e'
    rw [e1, e]
    exact ⟨r2, o.bare.1⟩
  split at hc
  · rename_i hu
    obtain ⟨b, rfl⟩ := okWide_bool hu hv
    exact plain (by simp [aggT, hu]) rfl
  · rename_i k hu
    obtain ⟨b, rfl⟩ := okWide_int hu hv
    exact plain (by simp [aggT, hu]) rfl
  · rename_i hu
    obtain ⟨b, rfl⟩ := okWide_string hu hv
    exact plain (by simp [aggT, hu]) rfl
  · rename_i e hu
    obtain ⟨a, b, c, rfl⟩ := okWide_slice hu hv
    exact plain (by simp [aggT, hu]) rfl
  · rename_i e hu
    obtain ⟨a, rfl⟩ := okWide_pointer hu hv
    exact plain (by simp [aggT, hu]) rfl
  · rename_i fs hu
    obtain ⟨cs, rfl, _⟩ := okWide_struct hu hv
    have ha : aggT P t = true := by simp [aggT, hu]
    unfold oneA at hx
    rw [ha] at hx
    simp only [if_true, Option.some.injEq] at hx
    subst hx
    exact ⟨⟨cs, rfl, o.rel⟩, o.bare⟩
  · rename_i k e hu
    obtain ⟨cs, rfl⟩ := okWide_arr hu hv
    have ha : aggT P t = true := by simp [aggT, hu]
    unfold oneA at hx
    rw [ha] at hx
    simp only [if_true, Option.some.injEq] at hx
    subst hx
    exact ⟨⟨cs, rfl, o.rel⟩, o.bare⟩
  · cases hc
theorem trod_args {S : List TypeId} (hS : closedT P S = true) : ∀ {ts : List TypeId} {vs : List Value} {ds : List (DataW H)} {ps : List MemPlace}, (∀ t ∈ ts, t ∈ S) → DataW.TrodAll enc P w base spare held ts vs ds ps → ∀ {r : Reach} {b0 : Nat},
    (∀ (j : Nat) t v, ts[j]? = some t → vs[j]? = some v → Value.okWide P w r b0 t v) → ∃ xs, Args P ts xs ∧ VRels (Gs.start w).g xs vs ∧ Bares xs
  | [], [], [], _, _, _, _, _, _ => ⟨[], rfl, rfl, trivial⟩
  | t :: ts, v :: vs, d :: ds, ps, hin, ⟨p, q, h1, h2, _⟩, r, b0, hv => by
    obtain ⟨x, a, rx, bx⟩ := trod_one hS (hin t (by simp)) h1 (hv 0 t v rfl rfl)
    obtain ⟨xs, as, rxs, bxs⟩ := trod_args hS (ts := ts) (fun t' h => hin t' (by simp [h])) h2 fun j t' v' hj hv' => hv (j + 1) t' v' (by simpa using hj) (by simpa using hv')
    exact ⟨x :: xs, ⟨x, xs, rfl, a, as⟩, ⟨v, vs, rfl, rx, rxs⟩, bx, bxs⟩
  | [], [], _ :: _, _, _, h, _, _, _ => h.elim
  | [], _ :: _, _, _, _, h, _, _, _ => h.elim
  | _ :: _, [], _, _, _, h, _, _, _ => h.elim
  | _ :: _, _ :: _, [], _, _, h, _, _, _ => h.elim
/-- The arguments read behind the call as they did. -/
theorem trodAll_below (hl : laidOutB P = true) {sp : Nat → Bool} : ∀ {ts : List TypeId} {vs : List Value} {ds : List (DataW H)} {ps : List MemPlace} {W W' : World}, (∀ t ∈ ts, P.readableRec t = true ∧ t < P.types.size) → DataW.TrodAll enc P W 0 (fun _ => true) true ts vs ds ps → Below W.heap.size W W' → (∀ x ∈ ps, x.block < W.heap.size) → (∀ x ∈ ps, sp x.block = true) →
    DataW.TrodAll enc P W' 0 sp true ts vs ds ps
  | [], [], [], _, _, _, _, h, _, _, _ => h
  | t :: ts, v :: vs, d :: ds, ps, W, W', hin, ⟨p, q, h1, h2, e⟩, hb, hlt, hsp => by
    subst e
    exact ⟨p, q, WideElems.Trod_stays hl (hin t (by simp)).1 (hin t (by simp)).2 h1 (fun x hx => hb.same (hlt x (by simp [hx]))) (fun x hx => hsp x (by simp [hx])), trodAll_below hl (fun t' h => hin t' (by simp [h])) h2 hb (fun x hx => hlt x (by simp [hx])) (fun x hx => hsp x (by simp [hx])), rfl⟩
  | [], [], _ :: _, _, _, _, _, h, _, _, _ => h.elim
  | [], _ :: _, _, _, _, _, _, h, _, _, _ => h.elim
  | _ :: _, [], _, _, _, _, _, h, _, _, _ => h.elim
  | _ :: _, _ :: _, [], _, _, _, _, h, _, _, _ => h.elim
end
/-- **A law, by its contract.** -/
theorem pure_calls {C : Cfg} {f : FuncId} {xs : List AV} (h : PureOk C f xs (.v (.bool true))) {W : World} {vs : List Value}
    (hgl : ∀ g x, C.gl g = some x → ∃ z, x.toV = some z ∧ ∀ (j : Nat) v, z.cells.toList[j]? = some v → W.cell? ⟨g, j, none⟩ = some v ∧ v.oneCell' = true) (rv : VRels (Gs.start W).g xs vs) (hb : Bares xs) :
    Calls C.P f vs.toArray W fun e W' => e = .returned (.bool true) ∧ Below W.heap.size W W' := by
  refine (h (Gs.start W) {} W vs (Sim.start hgl) rv hb).mono fun e W' ⟨y, he, G', r, S, A⟩ => ?_
  obtain rfl : y = .bool true := r.1
  exact ⟨he, A.os, A.tape, A.output, A.size, fun B hB => A.frame B hB rfl (fun h => h.elim)⟩
end Go.AM

namespace Go.AM
open Go.ChangeShapes Go.WideShapes Go.RowKit
section
variable {H : Type} {enc : TypeId × Value → H} {P : Program}
/-- **A law's contract as its row asks for it**: it returns true, and its arguments read as they did. -/
theorem law_contract {C : Cfg} (hP : C.P = P) {S : List TypeId} (hS : closedT P S = true) (hl : laidOutB P = true) {f : FuncId} {fn : Func} {s : ChangeSpec} {tb : TypeId} (hs : ∀ (ds : List (DataW H)), ds.length = fn.params.size → s.fn H (ds ++ []) = { results := [.lit (.bool true)], args := ds }) (hvars : s.vars = [])
    (hrt : fn.resultTypes = #[tb]) (hub : P.underlying tb = some .bool) (hpar : fn.params.toList.all (fun t => S.contains t && P.readableRec t && decide (t < P.types.size)) = true) (core : ∀ xs, Args P fn.params.toList xs → PureOk C f xs (.v (.bool true)))
    {W : World} {base : Nat} {args : Array Value} {ds gs : List (DataW H)} {before : List MemPlace} (hval : ∀ (j : Nat) t v, fn.params[j]? = some t → args[j]? = some v → Value.okWide P W .any base t v)
    (hW : DataW.Whole enc P fn.params.toList s.vars false W args.toList ds gs before)
    (hgl : ∀ g x, C.gl g = some x → ∃ z, x.toV = some z ∧ ∀ (j : Nat) v, z.cells.toList[j]? = some v → W.cell? ⟨g, j, none⟩ = some v ∧ v.oneCell' = true) :
    Calls P f args W fun e W' => ∃ v, e = .returned v ∧ s.post enc P fn false true false false W args v W' := by
  subst hP
  have hW' := hW
  obtain ⟨p, q, hA, hV, rfl, hfz, hnd⟩ := hW
  rw [hvars] at hV
  obtain ⟨rfl, rfl⟩ := trodVars_none hV
  simp only [List.all_eq_true, Bool.and_eq_true, List.contains_iff_mem, decide_eq_true_eq] at hpar
  obtain ⟨xs, ha, rv, hb⟩ := trod_args hS (fun t h => (hpar t h).1.1) hA (r := .any) (b0 := base) fun j t v hj hv => hval j t v (by simpa using hj) (by simpa using hv)
  have hlen : ds.length = fn.params.size := by
    have : ∀ {ts : List TypeId} {vs : List Value} {ds : List (DataW H)} {ps : List MemPlace}, DataW.TrodAll enc C.P W 0 (fun _ => true) true ts vs ds ps → ds.length = ts.length := by
      intro ts
      induction ts with
      | nil => intro vs ds ps h; cases vs <;> cases ds <;> first | rfl | exact h.elim
      | cons t ts ih =>
        intro vs ds ps h
        cases vs <;> cases ds <;> first | exact h.elim | skip
        obtain ⟨p, q, _, h2, _⟩ := h
        simp [ih h2]
    simpa using this hA
  refine (pure_calls (core xs ha) hgl rv hb).mono fun e W' ⟨he, hbl⟩ => ?_
  subst he
  simp only [List.append_nil] at hW'
  have hfn := hs ds hlen
  refine ⟨_, rfl, post_of_below (pa := p) (pv := []) hW' (fun b sp hd => ?_) (fun sp hsp => ?_) (fun _ _ => ?_) (by simp) hbl (ok_one hrt rfl (okWide_bool_mk hub _))⟩
  · rw [hfn, hrt]
    exact trodAll_cons_mk (shut_bool hub _) trodAll_mk0
  · rw [hfn]
    exact trodAll_below hl (fun t h => ⟨(hpar t h).1.2, (hpar t h).2⟩) hA hbl (fun x hx => hW'.lt x hx) hsp
  · rw [hvars, hfn]
    exact rfl
end
end Go.AM

namespace Go.AM
/-- What a walk is to leave alone till it comes there: an argument on which a later one's type hangs. -/
structure Tag.{u} {α : Sort u} (a : α) : Type where
  mk ::
section
variable (C : Cfg) (fid : FuncId) (call : FuncId → List AV → Hp → Option (AV × Hp))
end
section
variable {C : Cfg} {fid : FuncId} {call : FuncId → List AV → Hp → Option (AV × Hp)} {env : Env} {H : Hp}
section
variable {Q : Xit → Env → Hp → Prop} {v : Tag Q}
end
section
variable {ops : Array Oper} {ks : List Nat} {Q : Env → Hp → List Nat → Prop} {u : Tag ops} {w : Tag Q}
end
section
variable {d : Option Tmp} {ty : TypeId} {pos : String} {af : Array Edge} {g : Option (Nat × Bool)} {Q : AV → Hp → Nat → Prop} {v : Tag Q}
end
end
end Go.AM

namespace Go.AM
/-! ### Bits of natural numbers -/
section
variable {C : Cfg} {t : TypeId} {x y : Operand}
end
end Go.AM

namespace Go.AM
/-! ### The slots as a function: what stands in a slot is found without asking how many there are -/
/-! ### The greater of two -/
section
variable {C : Cfg} {fid : FuncId} {call : FuncId → List AV → Hp → Option (AV × Hp)} {env : Env} {H : Hp}
variable {d : Option Tmp} {ty : TypeId} {pos : String} {af : Array Edge} {g : Option (Nat × Bool)} {Q : AV → Hp → Nat → Prop} {v : Tag Q}
end
end Go.AM

namespace Go.AM
/-! ### A slice that grows from nothing -/
section
variable {C : Cfg}
end
end Go.AM

namespace Go.AM
/-! ### What bytes, what texts stand in values -/
end Go.AM

namespace Go.AM
/-! ### A slice that grows from an empty one -/
section
variable {C : Cfg}
end
section
variable {P : Program}
end
end Go.AM

namespace Go.AM
/-! ### Blocks that may be written -/
section
variable (C : Cfg)
end
section
variable {C : Cfg} {fid : FuncId} {call : FuncId → List AV → Hp → Option (AV × Hp)} {env : Env} {H : Hp}
variable {d : Option Tmp} {ty : TypeId} {pos : String} {af : Array Edge} {g : Option (Nat × Bool)} {Q : AV → Hp → Nat → Prop} {v : Tag Q}
end
end Go.AM

namespace Go.AM
/-! ### Functions without a body -/
end Go.AM

namespace Go.AM
/-! ### Tables of contracts -/
def tab : List (FuncId × (List AV → Option AV)) → FuncId → Option (List AV → Option AV)
  | [], _ => none
  | (g, p) :: r, f => if f = g then some p else tab r f
/-! ### Texts: where a sign stands, what stands ahead of it and behind it -/
end Go.AM

namespace Go.AM
/-! ### A guard that is not known: the operation is done or not, what follows is walked once -/
section
variable {C : Cfg} {fid : FuncId} {call : FuncId → List AV → Hp → Option (AV × Hp)} {env : Env} {H : Hp}
end
end Go.AM

namespace Go.AM
/-! ### Variables that are written, one block each -/
section
variable {C : Cfg} {fid : FuncId} {call : FuncId → List AV → Hp → Option (AV × Hp)} {env : Env} {H : Hp}
end
end Go.AM

namespace Go.AM
section
variable {C : Cfg} {fid : FuncId} {call : FuncId → List AV → Hp → Option (AV × Hp)} {env : Env} {H : Hp} {d : Option Tmp} {ty : TypeId} {pos : String} {af : Array Edge} {g : Option (Nat × Bool)} {Q : AV → Hp → Nat → Prop} {v : Tag Q}
/-! ### Maps of texts, in a walk -/
end
end Go.AM

namespace Go.AM
/-! ### Tables of contracts, by what they say: no decoding -/
section
variable {C : Cfg}
end
end Go.AM
namespace Go.AM
/-! ### A slice that grows beside other things -/
section
variable {C : Cfg}
end
end Go.AM

namespace Go.AM
/-! ### A row's room: known while a call runs, forgotten behind it -/
mutual
/-- Nothing of the blocks from m on. -/
def noB (m : Nat) : AV → Bool
  | .v _ => true
  | .agg xs => noBs m xs
  | .tup xs => noBs m xs
  | .ro xs => noBs m xs
  | .cl _ xs => noBs m xs
  | .ap _ xs => noBs m xs
  | .ex b _ _ _ _ => decide (b < m)
  | .rp x _ => noB m x
  | .ptr b _ _ _ => decide (b < m)
  | .mp _ => true
  | .sd _ xs => noBs m xs
  | .fn _ a b => noBs m a && noBs m b
  | .iface _ x => noB m x
def noBs (m : Nat) : List AV → Bool
  | [] => true
  | x :: xs => noB m x && noBs m xs
end
structure GleB (m : Nat) (G G' : Gh) : Prop where
  im : ∀ b o v, G.im b o = some v → G'.im b o = some v
  lit : ∀ b, G.lit b → G'.lit b
  tok : ∀ t e v, G.tok t e = some v → G'.tok t e = some v
  blk : ∀ b g v, b < m → G.blk b g = some v → G'.blk b g = some v
  mp : ∀ m R, G.mp m = some R → G'.mp m = some R
theorem ImAt.moveB {m : Nat} {G G' : Gh} (h : GleB m G G') {b o : Nat} {vs : List Value} (k : ImAt G b o vs) : ImAt G' b o vs := fun j v hj => ⟨h.im _ _ _ (k j v hj).1, (k j v hj).2⟩
mutual
theorem VRel.moveB {m : Nat} {G G' : Gh} (h : GleB m G G') : ∀ (x : AV) (y : Value), noB m x = true → VRel G x y → VRel G' x y
  | .v _, _, _, hh => hh
  | .agg xs, _, n, ⟨ys, e, r⟩ => ⟨ys, e, VRels.moveB h xs _ n r⟩
  | .tup xs, _, n, ⟨ys, e, r⟩ => ⟨ys, e, VRels.moveB h xs _ n r⟩
  | .ro xs, _, n, ⟨hb, a, c, e, l, r⟩ => ⟨hb, a, c, e, l, r.imp id fun ⟨b, o, es, ha, hs, hE⟩ => ⟨b, o, es, ha, hs, Elems.moveB h es b xs o n hE⟩⟩
  | .cl _ xs, _, n, ⟨hb, a, e, l, r⟩ => ⟨hb, a, e, fun hf => let ⟨b, ha, hl⟩ := l hf; ⟨b, ha, h.lit _ hl⟩, r.imp id fun ⟨b, o, es, ha, hs, hE⟩ => ⟨b, o, es, ha, hs, Elems.moveB h es b xs o n hE⟩⟩
  | .ap _ xs, _, n, ⟨hb, t, a, c, e, l, r⟩ => ⟨hb, h.tok _ _ _ t, a, c, e, l, r.imp id fun ⟨b, es, ha, hs, hE⟩ => ⟨b, es, ha, hs, Elems.moveB h es b xs 0 n hE⟩⟩
  | .ex _ _ _ _ _, _, n, ⟨B, o, sz, c, hb, hs, e, l⟩ => ⟨B, o, sz, c, h.blk _ _ _ (of_decide_eq_true n) hb, hs, e, l⟩
  | .rp x _, _, n, ⟨hb, b, o, z, e, r, i⟩ => ⟨hb, b, o, z, e, VRel.moveB h x z n r, i.moveB h⟩
  | .ptr _ _ _ _, _, n, ⟨B, o, sz, es, hb, e⟩ => ⟨B, o, sz, es, h.blk _ _ _ (of_decide_eq_true n) hb, e⟩
  | .mp _, _, _, ⟨R, h1, e⟩ => ⟨R, h.mp _ _ h1, e⟩
  | .sd _ xs, _, n, ⟨hb, b, c, es, ht, e, h0, hE⟩ => ⟨hb, b, c, es, h.tok _ _ _ ht, e, h0, Elems.moveB h es b xs 0 n hE⟩
  | .fn _ a b, _, n, ⟨a', b', e, ra, rb⟩ => by
    rw [noB, Bool.and_eq_true] at n
    exact ⟨a', b', e, VRels.moveB h a _ n.1 ra, VRels.moveB h b _ n.2 rb⟩
  | .iface _ x, _, n, ⟨z, e, r⟩ => ⟨z, e, VRel.moveB h x z n r⟩
theorem VRels.moveB {m : Nat} {G G' : Gh} (h : GleB m G G') : ∀ (xs : List AV) (ys : List Value), noBs m xs = true → VRels G xs ys → VRels G' xs ys
  | [], _, _, hh => hh
  | x :: xs, _, n, ⟨z, zs, e, r, rs⟩ => by
    rw [noBs, Bool.and_eq_true] at n
    exact ⟨z, zs, e, VRel.moveB h x z n.1 r, VRels.moveB h xs zs n.2 rs⟩
theorem Elems.moveB {m : Nat} {G G' : Gh} (h : GleB m G G') (es b : Nat) : ∀ (xs : List AV) (o : Nat), noBs m xs = true → Elems G es b o xs → Elems G' es b o xs
  | [], _, _, _ => trivial
  | x :: xs, o, n, ⟨⟨z, r, k, i⟩, rest⟩ => by
    rw [noBs, Bool.and_eq_true] at n
    exact ⟨⟨z, VRel.moveB h x z n.1 r, k, i.moveB h⟩, Elems.moveB h es b xs (o + es) n.2 rest⟩
end
section
variable {C : Cfg} {G : Gs} {H : Hp} {W : World}
/-- The room is forgotten. -/
theorem Post.remark {b g1 g2 es m : Nat} {zs : List AV} {y : Value} {W' : World} (hp : Post C G W (.ex b g1 es 0 m) H y W') (hk : H.blks[b]? = some ⟨g1, es, zs⟩) (h1 : growG ≤ g2) (h2 : g1 < g2) (h3 : exCap g2 = none) :
    Post C G W (.ex b g2 es 0 m) { H with blks := H.blks.set b ⟨g2, es, zs⟩ } y W' := by
  obtain ⟨G', ⟨B, q, sz, c, hb, h0, rfl, hlc, hcap, hbd, hex⟩, S, A⟩ := hp
  obtain ⟨s1, s2⟩ := S.remark hk h1 h2 hb
  refine ⟨_, ⟨B, q, sz, c, ?_, h0, rfl, hlc, hcap, hbd, no_cap h3⟩, s1, A.trans s2⟩
  show (if b = b ∧ g2 = g2 then some (B, q, sz, es) else _) = _
  rw [if_pos ⟨rfl, rfl⟩]
/-- A new row takes the place of an old one. -/
theorem Post.move {t : List (Nat × TypeId)} {L : List Blk} {b g1 g2 es m : Nat} {xs zs : List AV} {y : Value} {W' : World} (hp : Post C G W (.ex L.length 0 es 0 m) { toks := t, blks := L ++ [⟨0, es, zs⟩] } y W') (hk : L[b]? = some ⟨g1, es, xs⟩) (h1 : growG ≤ g2) (h2 : g1 < g2) (h3 : exCap g2 = none)
    (hG : ∀ g, G.g.blk L.length g = none) (hL : ∀ k ∈ L, noBs L.length k.xs = true) (hz : noBs L.length zs = true) :
    Post C G W (.ex b g2 es 0 m) { toks := t, blks := L.set b ⟨g2, es, zs⟩ } y W' := by
  obtain ⟨G', ⟨B, q, sz, c, hb, h0, rfl, hlc, hcap, hbd, hex⟩, S, A⟩ := hp
  have hbl : b < L.length := (List.getElem?_eq_some_iff.1 hk).1
  obtain ⟨B', q', cells, tid, k1, k2, k3, k4, k5, k6⟩ := S.blk L.length ⟨0, es, zs⟩ (by simp)
  rw [hb] at k1
  injection k1 with k1
  injection k1 with e1 k1
  injection k1 with e2 k1
  injection k1 with e3 e4
  subst e1; subst e2; subst e3
  obtain ⟨B0, q0, cells0, tid0, _, j2, j3, _⟩ := S.blk b ⟨g1, es, xs⟩ (by rw [List.getElem?_append_left hbl]; exact hk)
  have hfr := j2.2.2.2
  have hgb : GleB L.length G'.g { G'.g with blk := fun b1 g' => if b1 = b ∧ g' = g2 then some (B, q, cells.size, es) else if b1 = L.length then none else G'.g.blk b1 g' } := ⟨fun _ _ _ x => x, fun _ x => x, fun _ _ _ x => x, fun b1 g' v hlt x => by
    show (if b1 = b ∧ g' = g2 then some (B, q, cells.size, es) else if b1 = L.length then none else G'.g.blk b1 g') = some v
    rw [if_neg, if_neg (by omega)]
    · exact x
    · rintro ⟨rfl, rfl⟩
      rw [hfr _ h1 h2] at x
      exact (nomatch x), fun _ _ x => x⟩
  have hrow : ∀ {cs : Array Value} {o es' : Nat} {ys : List AV}, noBs L.length ys = true → RowIs G'.g cs o es' ys → RowIs { G'.g with blk := fun b1 g' => if b1 = b ∧ g' = g2 then some (B, q, cells.size, es) else if b1 = L.length then none else G'.g.blk b1 g' } cs o es' ys := by
    intro cs o es' ys hn hr i x hx
    obtain ⟨z, r, h⟩ := hr i x hx
    refine ⟨z, VRel.moveB hgb x z ?_ r, h⟩
    clear hr r h
    induction ys generalizing i with
    | nil => simp at hx
    | cons y ys ih =>
      rw [noBs, Bool.and_eq_true] at hn
      cases i with
      | zero => simp at hx; subst hx; exact hn.1
      | succ i => exact ih hn.2 i (by simpa using hx)
  refine ⟨⟨{ G'.g with blk := fun b1 g' => if b1 = b ∧ g' = g2 then some (B, q, cells.size, es) else if b1 = L.length then none else G'.g.blk b1 g' }, fun b1 => if b1 = B then some (.blk b) else G'.own b1⟩, ⟨B, q, cells.size, c, ?_, h0, rfl, hlc, hcap, hbd, no_cap h3⟩, ⟨S.base, S.im, ?_, ?_, ?_, S.tokN, ?_, ?_, ?_, (fun m es h => by simp at h), S.mpN⟩, ⟨?_, A.os, A.tape, A.output, A.size, A.frame, ?_, A.litK, A.imK⟩⟩
  · show (if b = b ∧ g2 = g2 then some (B, q, cells.size, es) else _) = _
    rw [if_pos ⟨rfl, rfl⟩]
  · intro b1 x
    obtain ⟨l1, l2, l3⟩ := S.lit b1 x
    refine ⟨l1, l2, ?_⟩
    show (if b1 = B then some (Owner.blk b) else G'.own b1) = none
    rw [if_neg, l3]
    rintro rfl
    rw [k3] at l3
    cases l3
  · intro b1 w x
    have x' : (if b1 = B then some (Owner.blk b) else G'.own b1) = some w := x
    split at x'
    · rename_i e
      subst e
      exact S.own b1 _ k3
    · exact S.own b1 w x'
  · intro t1 e1 tid' x hs
    obtain ⟨y, size, vs, d1, d2, d3, d4, d5⟩ := S.tok t1 e1 tid' x hs
    refine ⟨y, size, vs, d1, d2, d3, d4, fun B1 hB1 => ⟨?_, (d5 B1 hB1).2⟩⟩
    show (if B1 = B then some (Owner.blk b) else G'.own B1) = _
    rw [if_neg]
    · exact (d5 B1 hB1).1
    · rintro rfl
      have hh := (d5 _ hB1).1
      rw [k3] at hh
      cases hh
  · intro b' k' x
    have x' : (L.set b ⟨g2, es, zs⟩)[b']? = some k' := x
    by_cases hbb : b' = b
    · subst hbb
      rw [List.getElem?_set_self hbl] at x'
      injection x' with x'
      subst x'
      refine ⟨B, q, cells, tid, ?_, ⟨k2.1, k2.2.1, .inr (.inr h1), fun g' a c => ?_⟩, ?_, k4, k5, hrow hz k6⟩
      · show (if b' = b' ∧ g2 = g2 then some (B, q, cells.size, es) else _) = _
        rw [if_pos ⟨rfl, rfl⟩]
      · have c' : g2 < g' := c
        show (if b' = b' ∧ g' = g2 then some (B, q, cells.size, es) else if b' = L.length then none else G'.g.blk b' g') = none
        rw [if_neg (by omega), if_neg (by omega)]
        exact hfr g' a (by show g1 < g'; omega)
      · show (if B = B then some (Owner.blk b') else _) = _
        rw [if_pos rfl]
    · rw [List.getElem?_set_ne (fun e => hbb e.symm)] at x'
      have hlt : b' < L.length := (List.getElem?_eq_some_iff.1 x').1
      obtain ⟨B1, q1, cs, tid', f1, f2, f3, f4, f5, f6⟩ := S.blk b' k' (by rw [List.getElem?_append_left hlt]; exact x')
      refine ⟨B1, q1, cs, tid', ?_, ⟨f2.1, f2.2.1, f2.2.2.1, fun g' a c => ?_⟩, ?_, f4, f5, hrow (hL k' (List.mem_of_getElem? x')) f6⟩
      · show (if b' = b ∧ k'.gen = g2 then some (B, q, cells.size, es) else if b' = L.length then none else G'.g.blk b' k'.gen) = _
        rw [if_neg (by omega), if_neg (by omega)]
        exact f1
      · show (if b' = b ∧ g' = g2 then some (B, q, cells.size, es) else if b' = L.length then none else G'.g.blk b' g') = none
        rw [if_neg (by omega), if_neg (by omega)]
        exact f2.2.2.2 g' a c
      · show (if B1 = B then some (Owner.blk b) else G'.own B1) = _
        rw [if_neg]
        · exact f3
        · rintro rfl
          rw [k3] at f3
          injection f3 with f3
          injection f3 with f3
          omega
  · intro b1 g' h
    have h' : L.length ≤ b1 := by simpa using h
    show (if b1 = b ∧ g' = g2 then some (B, q, cells.size, es) else if b1 = L.length then none else G'.g.blk b1 g') = none
    rw [if_neg (by omega)]
    split
    · rfl
    · exact S.blkN b1 g' (by simp; omega)
  · intro g' x hx
    obtain ⟨z, hz', hi⟩ := S.gl g' x hx
    exact ⟨z, hz', hi.moveB hgb⟩
  · refine ⟨A.gle.base, A.gle.im, A.gle.lit, A.gle.tok, fun b1 g' v x => ?_, A.gle.mp⟩
    have x2 := A.gle.blk _ _ _ x
    show (if b1 = b ∧ g' = g2 then some (B, q, cells.size, es) else if b1 = L.length then none else G'.g.blk b1 g') = some v
    rw [if_neg, if_neg]
    · exact x2
    · rintro rfl
      rw [hG] at x
      cases x
    · rintro ⟨rfl, rfl⟩
      rw [hfr _ h1 h2] at x2
      cases x2
  · intro B1 hB1 hno
    show (if B1 = B then some (Owner.blk b) else G'.own B1) = none
    rw [if_neg]
    · exact A.ownK B1 hB1 hno
    · rintro rfl
      have := A.ownK B1 hB1 hno
      rw [k3] at this
      cases this
end
end Go.AM

namespace Go.AM
/-! ### Texts in their order; what a stable sort makes, in plain Lean -/
abbrev bl (a b : List UInt8) : Bool := Op.bytesLess a b
section
variable {α : Type} (k : α → List UInt8)
/-- Of each key the same ones, in the same order. -/
def Sm (xs ys : List α) : Prop := ∀ key, xs.filter (fun a => k a == key) = ys.filter fun a => k a == key
variable {k}
theorem Sm.refl (xs : List α) : Sm k xs xs := fun _ => rfl
theorem Sm.symm {xs ys : List α} (h : Sm k xs ys) : Sm k ys xs := fun key => (h key).symm
theorem Sm.trans {xs ys zs : List α} (h : Sm k xs ys) (h2 : Sm k ys zs) : Sm k xs zs := fun key => (h key).trans (h2 key)
theorem Sm.append {xs ys xs' ys' : List α} (h : Sm k xs ys) (h2 : Sm k xs' ys') : Sm k (xs ++ xs') (ys ++ ys') := fun key => by
  rw [List.filter_append, List.filter_append, h key, h2 key]
theorem Sm.mem {xs ys : List α} (h : Sm k xs ys) {a : α} (ha : a ∈ xs) : a ∈ ys := by
  have : a ∈ xs.filter (fun b => k b == k a) := List.mem_filter.2 ⟨ha, by simp⟩
  rw [h (k a)] at this
  exact (List.mem_filter.1 this).1
end
end Go.AM

namespace Go.AM
open Go.ChangeShapes Go.WideShapes Go.RowKit
/-! ### How large what is handed in may be: the form's own reach -/
section
variable (P : Program)
end
section
variable {H : Type} {enc : TypeId × Value → H} {P : Program} {w : World} {base : Nat} {spare : Nat → Bool} {held : Bool}
end
end Go.AM

/-! What a walk rewrites by, all in one. -/
namespace Go.AM
set_option maxRecDepth 100000
end Go.AM
