/- Contracts of functions, and plain facts about what they compute. -/
import Derived.Test.YtjejeijldllloaaDoorWb
import Derived.Test.YtjejeijldllloaaDoorAmD
set_option linter.unusedSimpArgs false
set_option linter.unusedVariables false
/- Chapter 2: values: what they are, what a call is handed. -/
namespace Go.Proofs.YtjejeijldllloaaDoor
open Go.AM
/-- A value of JSON: its kind, number, text, parts, members. -/
inductive GV where
  | mk (k n : Int) (s : List UInt8) (l : List GV) (m : List (List UInt8 × GV))
mutual
/-- What stands for a value. -/
def RV : GV → AV → Prop
  | .mk k n s l m, x => ∃ L M xs ys, x = .agg [.v (.int .i64 k), .v (.int .i64 n), str s, L, M] ∧ elems L = some xs ∧ elems M = some ys ∧ RVs l xs ∧ RMs m ys
def RVs : List GV → List AV → Prop
  | [], xs => xs = []
  | v :: r, xs => ∃ y ys, xs = y :: ys ∧ RV v y ∧ RVs r ys
def RMs : List (List UInt8 × GV) → List AV → Prop
  | [], xs => xs = []
  | p :: r, xs => ∃ y ys, xs = y :: ys ∧ RMp p y ∧ RMs r ys
def RMp : List UInt8 × GV → AV → Prop
  | (k, v), y => ∃ cs, y = .agg (str k :: cs) ∧ RV v (.agg cs)
end
mutual
theorem RV.uniq : ∀ {v w : GV} {x : AV}, RV v x → RV w x → v = w
  | .mk k n s l m, .mk k' n' s' l' m', x, h, h' => by
    obtain ⟨L, M, xs, ys, rfl, h1, h2, h3, h4⟩ := h
    obtain ⟨L', M', xs', ys', e, h1', h2', h3', h4'⟩ := h'
    injection e with e
    injection e with e1 e
    injection e with e2 e
    injection e with e3 e
    injection e with e4 e
    injection e with e5 _
    subst e4 e5
    rw [h1] at h1'
    rw [h2] at h2'
    injection h1' with h1'
    injection h2' with h2'
    subst h1' h2'
    injection e1 with e1
    injection e1 with _ e1
    injection e2 with e2
    injection e2 with _ e2
    rw [e1, e2, str_inj e3, RVs.uniq h3 h3', RMs.uniq h4 h4']
theorem RVs.uniq : ∀ {l l' : List GV} {xs : List AV}, RVs l xs → RVs l' xs → l = l'
  | [], [], _, _, _ => rfl
  | [], v :: r, xs, h, h' => by
    obtain ⟨y, ys, e, _⟩ := h'
    have h : xs = [] := h
    rw [h] at e; cases e
  | v :: r, [], xs, h, h' => by
    obtain ⟨y, ys, e, _⟩ := h
    have h' : xs = [] := h'
    rw [h'] at e; cases e
  | v :: r, v' :: r', xs, h, h' => by
    obtain ⟨y, ys, rfl, h1, h2⟩ := h
    obtain ⟨y', ys', e, h1', h2'⟩ := h'
    injection e with e1 e2
    subst e1 e2
    rw [RV.uniq h1 h1', RVs.uniq h2 h2']
theorem RMs.uniq : ∀ {l l' : List (List UInt8 × GV)} {xs : List AV}, RMs l xs → RMs l' xs → l = l'
  | [], [], _, _, _ => rfl
  | [], v :: r, xs, h, h' => by
    obtain ⟨y, ys, e, _⟩ := h'
    have h : xs = [] := h
    rw [h] at e; cases e
  | v :: r, [], xs, h, h' => by
    obtain ⟨y, ys, e, _⟩ := h
    have h' : xs = [] := h'
    rw [h'] at e; cases e
  | v :: r, v' :: r', xs, h, h' => by
    obtain ⟨y, ys, rfl, h1, h2⟩ := h
    obtain ⟨y', ys', e, h1', h2'⟩ := h'
    injection e with e1 e2
    subst e1 e2
    rw [RMp.uniq h1 h1', RMs.uniq h2 h2']
theorem RMp.uniq : ∀ {p q : List UInt8 × GV} {x : AV}, RMp p x → RMp q x → p = q
  | (k, v), (k', v'), x, h, h' => by
    obtain ⟨cs, rfl, h1⟩ := h
    obtain ⟨cs', e, h1'⟩ := h'
    injection e with e
    injection e with e1 e2
    subst e2
    rw [str_inj e1, RV.uniq h1 h1']
end
theorem RVs.len : ∀ {l : List GV} {xs : List AV}, RVs l xs → xs.length = l.length
  | [], xs, h => by have h : xs = [] := h; rw [h]; rfl
  | v :: r, xs, h => by
    obtain ⟨y, ys, rfl, _, h2⟩ := h
    rw [List.length_cons, List.length_cons, RVs.len h2]
theorem RMs.len : ∀ {l : List (List UInt8 × GV)} {xs : List AV}, RMs l xs → xs.length = l.length
  | [], xs, h => by have h : xs = [] := h; rw [h]; rfl
  | v :: r, xs, h => by
    obtain ⟨y, ys, rfl, _, h2⟩ := h
    rw [List.length_cons, List.length_cons, RMs.len h2]
theorem RVs.get : ∀ {l : List GV} {xs : List AV}, RVs l xs → ∀ {i : Nat} {v : GV}, l[i]? = some v → ∃ y, xs[i]? = some y ∧ RV v y
  | [], _, _, _, _, h => by cases h
  | v :: r, xs, h, 0, w, hw => by
    obtain ⟨y, ys, rfl, h1, _⟩ := h
    injection hw with hw
    subst hw
    exact ⟨y, rfl, h1⟩
  | v :: r, xs, h, i + 1, w, hw => by
    obtain ⟨y, ys, rfl, _, h2⟩ := h
    exact RVs.get h2 (i := i) hw
theorem RMs.get : ∀ {l : List (List UInt8 × GV)} {xs : List AV}, RMs l xs → ∀ {i : Nat} {p : List UInt8 × GV}, l[i]? = some p → ∃ y, xs[i]? = some y ∧ RMp p y
  | [], _, _, _, _, h => by cases h
  | v :: r, xs, h, 0, w, hw => by
    obtain ⟨y, ys, rfl, h1, _⟩ := h
    injection hw with hw
    subst hw
    exact ⟨y, rfl, h1⟩
  | v :: r, xs, h, i + 1, w, hw => by
    obtain ⟨y, ys, rfl, _, h2⟩ := h
    exact RMs.get h2 (i := i) hw
mutual
/-- .. and it is such as may be handed in: nothing of a heap within. -/
def FV : GV → AV → Prop
  | .mk k n s l m, x => ∃ L M xs ys, x = .agg [.v (.int .i64 k), .v (.int .i64 n), str s, L, M] ∧ elems L = some xs ∧ elems M = some ys ∧ slK L ∧ slK M ∧ L.bare = some L ∧ M.bare = some M ∧ L.flat = true ∧ M.flat = true ∧ s.length ≤ 9223372036854775807 ∧ l.length ≤ 9223372036854775807 ∧ m.length ≤ 9223372036854775807 ∧ FVs l xs ∧ FMs m ys
def FVs : List GV → List AV → Prop
  | [], xs => xs = []
  | v :: r, xs => ∃ y ys, xs = y :: ys ∧ FV v y ∧ FVs r ys
def FMs : List (List UInt8 × GV) → List AV → Prop
  | [], xs => xs = []
  | p :: r, xs => ∃ y ys, xs = y :: ys ∧ FMp p y ∧ FMs r ys
def FMp : List UInt8 × GV → AV → Prop
  | (k, v), y => ∃ cs, y = .agg (str k :: cs) ∧ k.length ≤ 9223372036854775807 ∧ FV v (.agg cs)
end
mutual
theorem FV.rv : ∀ {v : GV} {x : AV}, FV v x → RV v x
  | .mk k n s l m, x, h => by
    obtain ⟨L, M, xs, ys, rfl, h1, h2, _, _, _, _, _, _, _, _, _, h3, h4⟩ := h
    exact ⟨L, M, xs, ys, rfl, h1, h2, FVs.rv h3, FMs.rv h4⟩
theorem FVs.rv : ∀ {l : List GV} {xs : List AV}, FVs l xs → RVs l xs
  | [], _, h => h
  | v :: r, xs, h => by
    obtain ⟨y, ys, rfl, h1, h2⟩ := h
    exact ⟨y, ys, rfl, FV.rv h1, FVs.rv h2⟩
theorem FMs.rv : ∀ {l : List (List UInt8 × GV)} {xs : List AV}, FMs l xs → RMs l xs
  | [], _, h => h
  | v :: r, xs, h => by
    obtain ⟨y, ys, rfl, h1, h2⟩ := h
    exact ⟨y, ys, rfl, FMp.rv h1, FMs.rv h2⟩
theorem FMp.rv : ∀ {p : List UInt8 × GV} {x : AV}, FMp p x → RMp p x
  | (k, v), x, h => by
    obtain ⟨cs, rfl, _, h1⟩ := h
    exact ⟨cs, rfl, FV.rv h1⟩
end
theorem FVs.len {l : List GV} {xs : List AV} (h : FVs l xs) : xs.length = l.length := h.rv.len
theorem FMs.len {l : List (List UInt8 × GV)} {xs : List AV} (h : FMs l xs) : xs.length = l.length := h.rv.len
theorem FVs.get : ∀ {l : List GV} {xs : List AV}, FVs l xs → ∀ {i : Nat} {v : GV}, l[i]? = some v → ∃ y, xs[i]? = some y ∧ FV v y
  | [], _, _, _, _, h => by cases h
  | v :: r, xs, h, 0, w, hw => by
    obtain ⟨y, ys, rfl, h1, _⟩ := h
    injection hw with hw
    subst hw
    exact ⟨y, rfl, h1⟩
  | v :: r, xs, h, i + 1, w, hw => by
    obtain ⟨y, ys, rfl, _, h2⟩ := h
    exact FVs.get h2 (i := i) hw
theorem FMs.get : ∀ {l : List (List UInt8 × GV)} {xs : List AV}, FMs l xs → ∀ {i : Nat} {p : List UInt8 × GV}, l[i]? = some p → ∃ y, xs[i]? = some y ∧ FMp p y
  | [], _, _, _, _, h => by cases h
  | v :: r, xs, h, 0, w, hw => by
    obtain ⟨y, ys, rfl, h1, _⟩ := h
    injection hw with hw
    subst hw
    exact ⟨y, rfl, h1⟩
  | v :: r, xs, h, i + 1, w, hw => by
    obtain ⟨y, ys, rfl, _, h2⟩ := h
    exact FMs.get h2 (i := i) hw
theorem FV.shape {v : GV} {x : AV} (h : FV v x) : ∃ cs, x = .agg cs ∧ cs.length = 5 ∧ AV.bares cs = some cs ∧ cs.all AV.flat = true := by
  cases v with
  | mk k n s l m =>
    obtain ⟨L, M, xs, ys, rfl, h1, h2, k1, k2, b1, b2, f1, f2, _⟩ := h
    refine ⟨_, rfl, rfl, ?_, ?_⟩
    · simp only [AV.bares, AV.bare, b1, b2, bare_s]
    · simp only [List.all_cons, f1, f2]; rfl
theorem FV.bare {v : GV} {x : AV} (h : FV v x) : x.bare = some x := by
  obtain ⟨cs, rfl, _, hb, _⟩ := h.shape
  show (AV.bares cs).map AV.agg = _
  rw [hb]; rfl
/-- A member as the sort sees it. -/
theorem FMp.enc {k : List UInt8} {v : GV} {y : AV} (h : FMp (k, v) y) : ∃ cs, y = enc (k, cs) ∧ okE (k, cs) ∧ FV v (.agg cs) := by
  obtain ⟨cs, rfl, _, hv⟩ := h
  obtain ⟨cs', e, h1, h2, h3⟩ := hv.shape
  injection e with e
  subst e
  exact ⟨cs, rfl, ⟨h1, h2, h3⟩, hv⟩
end Go.Proofs.YtjejeijldllloaaDoor

/- Chapter 2: what a call is handed is a value. -/
namespace Go.Proofs.YtjejeijldllloaaDoor
open Go.AM
theorem fms_of {ys : List AV} (h : ∀ y ∈ ys, ∃ p, FMp p y) : ∃ l, FMs l ys := by
  induction ys with
  | nil => exact ⟨[], rfl⟩
  | cons y ys ih =>
    obtain ⟨v, hv⟩ := h y (by simp)
    obtain ⟨l, hl⟩ := ih fun z hz => h z (by simp [hz])
    exact ⟨v :: l, y, ys, rfl, hv, hl⟩
end Go.Proofs.YtjejeijldllloaaDoor

/- Chapter 2: how deep. -/
namespace Go.Proofs.YtjejeijldllloaaDoor
open Go.AM
mutual
def GV.depth : GV → Nat
  | .mk k _ _ l m => if k = 4 then GV.depths l + 1 else if k = 5 then GV.depthm m + 1 else 0
def GV.depths : List GV → Nat
  | [] => 0
  | v :: r => max v.depth (GV.depths r)
def GV.depthm : List (List UInt8 × GV) → Nat
  | [] => 0
  | p :: r => max (GV.depthp p) (GV.depthm r)
def GV.depthp : List UInt8 × GV → Nat
  | (_, v) => v.depth
end
mutual
/-- How many there are in it. -/
def GV.sz : GV → Nat
  | .mk _ _ _ l m => 1 + GV.szs l + GV.szm m
def GV.szs : List GV → Nat
  | [] => 0
  | v :: r => v.sz + GV.szs r
def GV.szm : List (List UInt8 × GV) → Nat
  | [] => 0
  | p :: r => GV.szp p + GV.szm r
def GV.szp : List UInt8 × GV → Nat
  | (_, v) => v.sz
end
theorem szs_get : ∀ {l : List GV} {i : Nat} {v : GV}, l[i]? = some v → v.sz ≤ GV.szs l
  | [], _, _, h => by cases h
  | w :: r, 0, v, h => by injection h with h; subst h; simp only [GV.szs]; omega
  | w :: r, i + 1, v, h => by have := szs_get (l := r) (i := i) h; simp only [GV.szs]; omega
theorem szm_get : ∀ {l : List (List UInt8 × GV)} {i : Nat} {k : List UInt8} {v : GV}, l[i]? = some (k, v) → v.sz ≤ GV.szm l
  | [], _, _, _, h => by cases h
  | w :: r, 0, k, v, h => by injection h with h; subst h; simp only [GV.szm, GV.szp]; omega
  | w :: r, i + 1, k, v, h => by have := szm_get (l := r) (i := i) h; simp only [GV.szm]; omega
/-! ### Fields and elements of values -/
section
variable {prim : FuncId → Option (List AV → Option AV)}
theorem gf {x : AV} {j : Nat} : (fieldAddrA (cfgP prim) 39 (.rp x j) 0 = some (.rp x (j + 0)) ∧ fieldAddrA (cfgP prim) 39 (.rp x j) 1 = some (.rp x (j + 1)) ∧ fieldAddrA (cfgP prim) 39 (.rp x j) 2 = some (.rp x (j + 2))) ∧ fieldAddrA (cfgP prim) 39 (.rp x j) 3 = some (.rp x (j + 3)) ∧ fieldAddrA (cfgP prim) 39 (.rp x j) 4 = some (.rp x (j + 4)) := by
  refine ⟨⟨?_, ?_, ?_⟩, ?_, ?_⟩ <;> kernel_rfl
theorem gf0 {x : AV} {j : Nat} : fieldAddrA (cfgP prim) 39 (.rp x j) 0 = some (.rp x (j + 0)) := gf.1.1
theorem gf1 {x : AV} {j : Nat} : fieldAddrA (cfgP prim) 39 (.rp x j) 1 = some (.rp x (j + 1)) := gf.1.2.1
theorem gf2 {x : AV} {j : Nat} : fieldAddrA (cfgP prim) 39 (.rp x j) 2 = some (.rp x (j + 2)) := gf.1.2.2
theorem gf3 {x : AV} {j : Nat} : fieldAddrA (cfgP prim) 39 (.rp x j) 3 = some (.rp x (j + 3)) := gf.2.1
theorem gf4 {x : AV} {j : Nat} : fieldAddrA (cfgP prim) 39 (.rp x j) 4 = some (.rp x (j + 4)) := gf.2.2
theorem mf1 {x : AV} {j : Nat} : fieldAddrA (cfgP prim) 48 (.rp x j) 1 = some (.rp x (j + 1)) := by kernel_rfl
theorem mf1p {b g i j : Nat} : fieldAddrA (cfgP prim) 48 (.ptr b g i j) 1 = some (.ptr b g i (j + 1)) := by kernel_rfl
theorem vp3 {cs : List AV} {j : Nat} : partA (cfgP prim) 3 cs j = cs[j]? := by kernel_rfl
theorem vp2 {cs : List AV} {j : Nat} : partA (cfgP prim) 2 cs j = cs[j]? := by kernel_rfl
theorem vp36 {cs : List AV} {j : Nat} : partA (cfgP prim) 36 cs j = cs[j]? := by kernel_rfl
theorem vp37 {cs : List AV} {j : Nat} : partA (cfgP prim) 37 cs j = cs[j]? := by kernel_rfl
theorem vp39 {cs : List AV} (h : cs.length = 5) : partA (cfgP prim) 39 cs 0 = some (.agg cs) := by
  have h1 : isAggT (cfgP prim) 39 = some true := by kernel_rfl
  have h2 : (cfgP prim).csz 39 = some 5 := by kernel_rfl
  simp only [partA, h1, h2]
  rw [if_pos (by omega), List.drop_zero, ← h, List.take_length]
theorem vp39m {k : AV} {cs : List AV} (h : cs.length = 5) : partA (cfgP prim) 39 (k :: cs) 1 = some (.agg cs) := by
  have h1 : isAggT (cfgP prim) 39 = some true := by kernel_rfl
  have h2 : (cfgP prim).csz 39 = some 5 := by kernel_rfl
  simp only [partA, h1, h2]
  rw [if_pos (by rw [List.length_cons]; omega), List.drop_succ_cons, List.drop_zero, ← h, List.take_length]
theorem len_el {t e : TypeId} {x : AV} {xs : List AV} (hu : (cfgP prim).und t = some (.slice e)) (h : elems x = some xs) : lenA (cfgP prim) #[t] [x] = some (.v (.int .i64 (xs.length : Int))) := by
  have hu' : ((#[t] : Array TypeId)[0]?).bind (cfgP prim).und = some (.slice e) := hu
  unfold lenA
  rw [hu']
  cases x with
  | ex b g es o n => cases h
  | v y => cases y <;> first | (simp only [h, Option.map_some]) | (simp only [elems] at h; cases h)
  | _ => simp only [h, Option.map_some]
theorem len36 {x : AV} {xs : List AV} (h : elems x = some xs) : lenA (cfgP prim) #[36] [x] = some (.v (.int .i64 (xs.length : Int))) := len_el (e := 39) (by kernel_rfl) h
theorem len37 {x : AV} {xs : List AV} (h : elems x = some xs) : lenA (cfgP prim) #[37] [x] = some (.v (.int .i64 (xs.length : Int))) := len_el (e := 48) (by kernel_rfl) h
theorem ix_el {t e : TypeId} {x y : AV} {xs : List AV} {i n : Nat} (hu : (cfgP prim).und t = some (.slice e)) (hc : (cfgP prim).csz e = some (n + 1)) (h : elems x = some xs) (hi : xs[i]? = some y) (hy : y.cells.length = n + 1) : indexAddrA (cfgP prim) t x (.v (.int .i64 (i : Int))) = some (.rp y 0) := by
  have h0 : (0 : Int) ≤ (i : Int) := by omega
  unfold indexAddrA
  simp only [idx, h0, if_true, hu, hc, Int.toNat_natCast]
  cases x with
  | ex b g es o n => cases h
  | _ => simp only [h, Option.bind_some, hi, hy, if_true]
theorem ix36 {x : AV} {xs cs : List AV} {i : Nat} (h : elems x = some xs) (hi : xs[i]? = some (.agg cs)) (hl : cs.length = 5) : indexAddrA (cfgP prim) 36 x (.v (.int .i64 (i : Int))) = some (.rp (.agg cs) 0) := ix_el (e := 39) (n := 4) (by kernel_rfl) (by kernel_rfl) h hi hl
theorem ix37 {x : AV} {xs cs : List AV} {i : Nat} (h : elems x = some xs) (hi : xs[i]? = some (.agg cs)) (hl : cs.length = 6) : indexAddrA (cfgP prim) 37 x (.v (.int .i64 (i : Int))) = some (.rp (.agg cs) 0) := ix_el (e := 48) (n := 5) (by kernel_rfl) (by kernel_rfl) h hi hl
end
theorem cellsA (cs : List AV) : AV.cells (.agg cs) = cs := rfl
/-- A heap of blocks alone. -/
def nH (ext : List Blk) : Hp := { toks := [], blks := ext }
section
variable {prim : FuncId → Option (List AV → Option AV)}
theorem nH_alloc39 {ext : List Blk} : allocA (cfgP prim) 39 false (nH ext) = some (.ptr ext.length 0 0 0, nH (ext ++ [⟨0, 5, [z5]⟩]), 4) := by
  have hz : zeroA (cfgP prim) 39 = some z5 := by kernel_rfl
  have hf : z5.cells.all AV.flat = true := rfl
  have hg : genOf (cfgP prim) 39 = 0 := by kernel_rfl
  simp only [allocA, hz, Option.bind_some, hf, if_true, hg, Bool.false_eq_true, if_false]
  rfl
theorem nH_alloc48 {ext : List Blk} : allocA (cfgP prim) 48 false (nH ext) = some (.ptr ext.length 0 0 0, nH (ext ++ [⟨0, 6, [z6]⟩]), 4) := by
  have hz : zeroA (cfgP prim) 48 = some z6 := by kernel_rfl
  have hf : z6.cells.all AV.flat = true := rfl
  have hg : genOf (cfgP prim) 48 = 0 := by kernel_rfl
  simp only [allocA, hz, Option.bind_some, hf, if_true, hg, Bool.false_eq_true, if_false]
  rfl
theorem nH_store39 {ext : List Blk} {cs : List AV} (hl : cs.length = 5) (hf : cs.all AV.flat = true) : storeA (cfgP prim) 39 ext.length 0 0 0 (.agg cs) (nH (ext ++ [⟨0, 5, [z5]⟩])) = some (nH (ext ++ [⟨0, 5, [.agg cs]⟩])) := by
  have hc : (cfgP prim).csz 39 = some 5 := by kernel_rfl
  have := store_all (C := cfgP prim) (t := 39) (b := ext.length) (n := 5) (x := cs) (y := [.v (.int .i64 0), .v (.int .i64 0), str [], .v (.slice none 0 0), .v (.slice none 0 0)]) (H := nH (ext ++ [⟨0, 5, [z5]⟩])) (by simp [nH, z5]) (by rw [hc, hl]) (by simp [hl]) hf
  rw [this]
  simp [nH]
theorem nH_store48 {ext : List Blk} {cs : List AV} (hl : cs.length = 6) (hf : cs.all AV.flat = true) : storeA (cfgP prim) 48 ext.length 0 0 0 (.agg cs) (nH (ext ++ [⟨0, 6, [z6]⟩])) = some (nH (ext ++ [⟨0, 6, [.agg cs]⟩])) := by
  have hc : (cfgP prim).csz 48 = some 6 := by kernel_rfl
  have := store_all (C := cfgP prim) (t := 48) (b := ext.length) (n := 6) (x := cs) (y := [str [], .v (.int .i64 0), .v (.int .i64 0), str [], .v (.slice none 0 0), .v (.slice none 0 0)]) (H := nH (ext ++ [⟨0, 6, [z6]⟩])) (by simp [nH, z6]) (by rw [hc, hl]) (by simp [hl]) hf
  rw [this]
  simp [nH]
end
theorem nH_blk {ext : List Blk} {n : Nat} {x : AV} : blkAt (nH (ext ++ [⟨0, n, [x]⟩])) ext.length 0 = some ⟨0, n, [x]⟩ := by simp [blkAt, nH]
end Go.Proofs.YtjejeijldllloaaDoor

/- Chapter 2: Depth: what both compute. -/
namespace Go.Proofs.YtjejeijldllloaaDoor
open Go.AM
mutual
/-- How deep, as it is computed. -/
def GV.dw : GV → Int
  | .mk k _ _ l m => if k = 4 then IntKind.i64.wrap (GV.dws l + 1) else if k = 5 then IntKind.i64.wrap (GV.dwm m + 1) else 0
def GV.dws : List GV → Int
  | [] => 0
  | v :: r => max v.dw (GV.dws r)
def GV.dwm : List (List UInt8 × GV) → Int
  | [] => 0
  | p :: r => max (GV.dwp p) (GV.dwm r)
def GV.dwp : List UInt8 × GV → Int
  | (_, v) => v.dw
end
theorem dws_snoc (v : GV) : ∀ l : List GV, GV.dws (l ++ [v]) = max (GV.dws l) v.dw
  | [] => by simp only [List.nil_append, GV.dws]; omega
  | w :: r => by rw [List.cons_append, GV.dws, dws_snoc v r, GV.dws]; omega
theorem dwm_snoc (p : List UInt8 × GV) : ∀ l : List (List UInt8 × GV), GV.dwm (l ++ [p]) = max (GV.dwm l) (GV.dwp p)
  | [] => by simp only [List.nil_append, GV.dwm]; omega
  | w :: r => by rw [List.cons_append, GV.dwm, dwm_snoc p r, GV.dwm]; omega
theorem dws_take (l : List GV) {i : Nat} {v : GV} (h : l[i]? = some v) : GV.dws (l.take (i + 1)) = max (GV.dws (l.take i)) v.dw := by
  rw [List.take_add_one, h]
  exact dws_snoc v _
theorem dwm_take (l : List (List UInt8 × GV)) {i : Nat} {k : List UInt8} {v : GV} (h : l[i]? = some (k, v)) : GV.dwm (l.take (i + 1)) = max (GV.dwm (l.take i)) v.dw := by
  rw [List.take_add_one, h]
  exact dwm_snoc (k, v) _
theorem max_i {P : Program} {ts : Array TypeId} {ty : TypeId} {k : IntKind} {a b : Int} : maxA P ts ty [.v (.int k a), .v (.int k b)] = some (.v (.int k (max a b))) := by
  rw [max_int, show (if b > a then b else a) = max a b from by split <;> omega]
theorem FV.bs {v : GV} {cs : List AV} (h : FV v (.agg cs)) : AV.bares cs = some cs := by
  obtain ⟨_, e, _, hb, _⟩ := h.shape
  injection e with e
  rw [e]
  exact hb
/-- What is handed in has members as they are. -/
theorem FMs.at {l : List (List UInt8 × GV)} {xs : List AV} (h : FMs l xs) {i : Nat} (hi : i < l.length) : ∃ k v cs, l[i]? = some (k, v) ∧ xs[i]? = some (.agg (str k :: cs)) ∧ cs.length = 5 ∧ FV v (.agg cs) := by
  obtain ⟨p, hp⟩ : ∃ p, l[i]? = some p := ⟨l[i], List.getElem?_eq_getElem hi⟩
  obtain ⟨k, v⟩ := p
  obtain ⟨y, hy, cs, rfl, _, hv⟩ := h.get hp
  obtain ⟨cs', e, h5, _⟩ := hv.shape
  injection e with e
  subst e
  exact ⟨k, v, cs, hp, hy, h5, hv⟩
theorem FVs.at {l : List GV} {xs : List AV} (h : FVs l xs) {i : Nat} (hi : i < l.length) : ∃ v cs, l[i]? = some v ∧ xs[i]? = some (.agg cs) ∧ cs.length = 5 ∧ FV v (.agg cs) := by
  obtain ⟨v, hp⟩ : ∃ v, l[i]? = some v := ⟨l[i], List.getElem?_eq_getElem hi⟩
  obtain ⟨y, hy, hv⟩ := h.get hp
  obtain ⟨cs, e, h5, _⟩ := hv.shape
  subst e
  exact ⟨v, cs, hp, hy, h5, hv⟩
/-- A table of what a function says of smaller values. -/
noncomputable def smP (r : GV → AV) (N : Nat) : List AV → Option AV := relP (fun p : GV × AV => FV p.1 p.2 ∧ p.1.sz < N) (fun p => [p.2]) (fun p => r p.1)
theorem smP_eq {r : GV → AV} {N : Nat} {v : GV} {x : AV} (h : FV v x) (hs : v.sz < N) : smP r N [x] = some (r v) :=
  relP_eq (X := fun p : GV × AV => FV p.1 p.2 ∧ p.1.sz < N) (a := fun p => [p.2]) (r := fun p => r p.1) (fun p q hp hq e => by
    injection e with e _
    have := hp.1.rv
    rw [e] at this
    rw [RV.uniq this hq.1.rv]) (v, x) ⟨h, hs⟩
theorem smP_ok {r : GV → AV} {N : Nat} {R : List AV → AV → Prop} (h : ∀ v x, FV v x → v.sz < N → R [x] (r v)) : ∀ xs y, smP r N xs = some y → R xs y := relP_ok fun p hp => h p.1 p.2 hp.1 hp.2
def dwA (v : GV) : AV := .v (.int .i64 v.dw)
end Go.Proofs.YtjejeijldllloaaDoor

/- Chapter 2: the program's Depth. -/
namespace Go.Proofs.YtjejeijldllloaaDoor
open Go.AM
theorem FV.fl {v : GV} {cs : List AV} (h : FV v (.agg cs)) : cs.all AV.flat = true := by
  obtain ⟨_, e, _, _, hf⟩ := h.shape
  injection e with e
  rw [e]
  exact hf
theorem FV.l5 {v : GV} {cs : List AV} (h : FV v (.agg cs)) : cs.length = 5 := by
  obtain ⟨_, e, h5, _⟩ := h.shape
  injection e with e
  rw [e]
  exact h5
theorem FV.okE {k : List UInt8} {v : GV} {cs : List AV} (h : FV v (.agg cs)) : okE (k, cs) := by
  obtain ⟨_, e, h5, hb, hf⟩ := h.shape
  injection e with e
  rw [e]
  exact ⟨h5, hb, hf⟩
noncomputable def dPt (N : Nat) : FuncId → Option (List AV → Option AV) := tab [(30, smP dwA N)]
structure DpI (L : AV) (d : Int) (c i j : Nat) (e : Env) (h : Hp) : Prop where
  len : e.length = 41
  a3 : aget e 3 = .v (.int .i64 d)
  al : aget e j = L
  an : aget e (j + 1) = .v (.int .i64 (c : Int))
  ai : aget e (j + 2) = .v (.int .i64 (i : Int))
  hp : ∃ ext, h = nH ext
set_option maxHeartbeats 4000000 in
set_option maxRecDepth 100000 in
theorem depthP_ok : ∀ (N : Nat) (v : GV) (x : AV), FV v x → v.sz < N → PureOk (cfgP fun _ => none) 30 [x] (dwA v)
  | 0, _, _, _, hs => absurd hs (by omega)
  | N + 1, .mk k n s l m, x, h, hs => by
    have ok : (cfgP (dPt N)).Ok := cfg_ok (tab_ok ⟨prim_at Tryd.func30 (by kernel_rfl) rfl (smP_ok (R := fun xs r => PureOk (cfgP fun _ => none) 30 xs r) fun v x hv hn => depthP_ok N v x hv hn), trivial⟩)
    have pf : (cfgP (dPt N)).prim 30 = some (smP dwA N) := rfl
    have hb := h.bare
    have hfl : x.cells.all AV.flat = true := by
      obtain ⟨cs, e, _, _, hf⟩ := h.shape
      rw [e]
      exact hf
    obtain ⟨L, M, xs, ys, rfl, hL, hM, _, _, _, _, _, _, _, hl, hm, hv, hw⟩ := h
    have hsz : GV.szs l < N ∧ GV.szm m < N := by simp only [GV.sz] at hs; omega
    have hxl := hv.len
    have hyl := hw.len
    have r1 : (cfgP (dPt N)).roBox 30 1 = true := rfl
    have r5 : (cfgP (dPt N)).roBox 30 5 = false := rfl
    have r7 : (cfgP (dPt N)).roBox 30 7 = false := rfl
    have h00 : ({} : Hp) = nH [] := rfl
    obtain ⟨cs, hcs⟩ : ∃ cs : List AV, cs = [.v (.int .i64 k), .v (.int .i64 n), str s, L, M] := ⟨_, rfl⟩
    rw [← hcs] at hb hfl ⊢
    have g0 : cs[0]? = some (.v (.int .i64 k)) := by rw [hcs]; rfl
    have g3 : cs[3]? = some L := by rw [hcs]; rfl
    have g4 : cs[4]? = some M := by rw [hcs]; rfl
    clear hcs
    refine pureOk_prim (prim := dPt N) ?_
    by_cases k4 : k = 4
    · have hd : dwA (.mk k n s l m) = .v (.int .i64 (IntKind.i64.wrap (GV.dws l + 1))) := by simp [dwA, GV.dw, k4]
      rw [hd]
      refine pure_of_wk (call := noCall) (fn := Tryd.f30) (rs := [.tmp 2]) ok noCall_ok (fns_cfg Tryd.func30 rfl) rfl rfl ?_
      intro env hl0 hargs
      have hn : env.length = 41 := hl0
      have h0 := hargs 0 _ rfl
      clear hargs hl0
      refine wkT_of ?_
      rw [fe_self hn]
      (try simp -dsimp (disch := omega) only [h0, r1, bxt_ro hb hfl, gf0, vp3, cellsA, g0, k4, wrap64, gf3, vp36, g3, len36 hL, hxl, AS, avals, apairs, bareP, AV.bare, AV.bares, Nat.reduceEqDiff, Nat.reduceLT, Nat.reduceAdd, ↓reduceIte, reduceCtorEq, resA, resA1, resVal, Nat.reduceLeDiff, nb_cfg, Nat.reduceBEq, AX, Int.reduceLT, Int.reduceLE, Int.reduceEq, Int.reduceAdd, Int.reduceSub, Int.reduceMul, Int.reduceNeg, Int.reduceNe])
      refine wt_loop (m := l.length) (fun m e h => ∃ i, i + m = l.length ∧ DpI L (GV.dws (l.take i)) l.length i 13 e h) ?_ ?_
      · clear hn h0
        rintro m e h ⟨i, hi, hn, h3, h13, h14, h15, ext, rfl⟩
        rw [fe_self hn]
        cases m with
        | zero =>
          obtain rfl : i = l.length := by omega
          (try simp -dsimp (disch := omega) only [h3, h13, h14, h15, AS, avals, apairs, bareP, AV.bare, AV.bares, Nat.reduceEqDiff, Nat.reduceLT, Nat.reduceAdd, ↓reduceIte, reduceCtorEq, resA, resA1, resVal, Nat.reduceLeDiff, nb_cfg, Nat.reduceBEq, AX, Int.reduceLT, Int.reduceLE, Int.reduceEq, Int.reduceAdd, Int.reduceSub, Int.reduceMul, Int.reduceNeg, Int.reduceNe])
          rw [List.take_length]
          exact ⟨1, rfl⟩
        | succ m =>
          obtain ⟨w, ws, e1, e2, e3, e4⟩ := hv.at (i := i) (by omega)
          have eb := e4.bs
          have es := smP_eq (r := dwA) (N := N) e4 (Nat.lt_of_le_of_lt (szs_get e1) hsz.1)
          have ew : (i : Int) + 1 = ((i + 1 : Nat) : Int) := by omega
          have st := nH_store39 (prim := dPt N) (ext := ext) e3 e4.fl
          (try simp -dsimp (disch := omega) only [h3, h13, h14, h15, hxl, ix36 hL e2 e3, vp39 e3, cellsA, r5, nH_alloc39, st, nH_blk, ct_prim pf, eb, es, dwA, max_i, wrap64, ew, AS, avals, apairs, bareP, AV.bare, AV.bares, Nat.reduceEqDiff, Nat.reduceLT, Nat.reduceAdd, ↓reduceIte, reduceCtorEq, resA, resA1, resVal, Nat.reduceLeDiff, nb_cfg, Nat.reduceBEq, AX, Int.reduceLT, Int.reduceLE, Int.reduceEq, Int.reduceAdd, Int.reduceSub, Int.reduceMul, Int.reduceNeg, Int.reduceNe])
          refine ⟨m, by omega, i + 1, by omega, fe_len, ?_, ?_, ?_, ?_, _, rfl⟩
          all_goals (try simp -dsimp (disch := omega) only [h3, h13, h14, h15, dws_take l e1, AS, avals, apairs, bareP, AV.bare, AV.bares, Nat.reduceEqDiff, Nat.reduceLT, Nat.reduceAdd, ↓reduceIte, reduceCtorEq, resA, resA1, resVal, Nat.reduceLeDiff, nb_cfg, Nat.reduceBEq, AX, Int.reduceLT, Int.reduceLE, Int.reduceEq, Int.reduceAdd, Int.reduceSub, Int.reduceMul, Int.reduceNeg, Int.reduceNe])
      · refine ⟨0, by omega, fe_len, ?_, ?_, ?_, ?_, [], rfl⟩
        all_goals (try simp -dsimp (disch := omega) only [h0, AS, avals, apairs, bareP, AV.bare, AV.bares, Nat.reduceEqDiff, Nat.reduceLT, Nat.reduceAdd, ↓reduceIte, reduceCtorEq, resA, resA1, resVal, Nat.reduceLeDiff, nb_cfg, Nat.reduceBEq, AX, Int.reduceLT, Int.reduceLE, Int.reduceEq, Int.reduceAdd, Int.reduceSub, Int.reduceMul, Int.reduceNeg, Int.reduceNe])
        all_goals rfl
    · by_cases k5 : k = 5
      · have hd : dwA (.mk k n s l m) = .v (.int .i64 (IntKind.i64.wrap (GV.dwm m + 1))) := by simp [dwA, GV.dw, k5]
        rw [hd]
        refine pure_of_wk (call := noCall) (fn := Tryd.f30) (rs := [.tmp 2]) ok noCall_ok (fns_cfg Tryd.func30 rfl) rfl rfl ?_
        intro env hl0 hargs
        have hn : env.length = 41 := hl0
        have h0 := hargs 0 _ rfl
        clear hargs hl0
        refine wkT_of ?_
        rw [fe_self hn]
        (try simp -dsimp (disch := omega) only [h0, r1, bxt_ro hb hfl, gf0, vp3, cellsA, g0, k5, wrap64, gf4, vp37, g4, len37 hM, hyl, AS, avals, apairs, bareP, AV.bare, AV.bares, Nat.reduceEqDiff, Nat.reduceLT, Nat.reduceAdd, ↓reduceIte, reduceCtorEq, resA, resA1, resVal, Nat.reduceLeDiff, nb_cfg, Nat.reduceBEq, AX, Int.reduceLT, Int.reduceLE, Int.reduceEq, Int.reduceAdd, Int.reduceSub, Int.reduceMul, Int.reduceNeg, Int.reduceNe])
        refine wt_loop (m := m.length) (fun q e h => ∃ i, i + q = m.length ∧ DpI M (GV.dwm (m.take i)) m.length i 27 e h) ?_ ?_
        · clear hn h0
          rintro q e h ⟨i, hi, hn, h3, h13, h14, h15, ext, rfl⟩
          rw [fe_self hn]
          cases q with
          | zero =>
            obtain rfl : i = m.length := by omega
            (try simp -dsimp (disch := omega) only [h3, h13, h14, h15, AS, avals, apairs, bareP, AV.bare, AV.bares, Nat.reduceEqDiff, Nat.reduceLT, Nat.reduceAdd, ↓reduceIte, reduceCtorEq, resA, resA1, resVal, Nat.reduceLeDiff, nb_cfg, Nat.reduceBEq, AX, Int.reduceLT, Int.reduceLE, Int.reduceEq, Int.reduceAdd, Int.reduceSub, Int.reduceMul, Int.reduceNeg, Int.reduceNe])
            rw [List.take_length]
            exact ⟨1, rfl⟩
          | succ q =>
            obtain ⟨key, w, ws, e1, e2, e3, e4⟩ := hw.at (i := i) (by omega)
            have e5 : (str key :: ws).length = 6 := by rw [List.length_cons, e3]
            have eb := e4.bs
            have es := smP_eq (r := dwA) (N := N) e4 (Nat.lt_of_le_of_lt (szm_get e1) hsz.2)
            have ew : (i : Int) + 1 = ((i + 1 : Nat) : Int) := by omega
            have hf6 : (str key :: ws).all AV.flat = true := by
              rw [List.all_cons, e4.fl]
              rfl
            have st := nH_store48 (prim := dPt N) (ext := ext) e5 hf6
            have p6 : partA (cfgP (dPt N)) 48 (str key :: ws) 0 = some (.agg (str key :: ws)) := mp48c (p := (key, ws)) e4.okE
            (try simp -dsimp (disch := omega) only [h3, h13, h14, h15, hyl, ix37 hM e2 e5, p6, cellsA, r7, nH_alloc48, st, nH_blk, mf1p, vp39m e3, ct_prim pf, eb, es, dwA, max_i, wrap64, ew, AS, avals, apairs, bareP, AV.bare, AV.bares, Nat.reduceEqDiff, Nat.reduceLT, Nat.reduceAdd, ↓reduceIte, reduceCtorEq, resA, resA1, resVal, Nat.reduceLeDiff, nb_cfg, Nat.reduceBEq, AX, Int.reduceLT, Int.reduceLE, Int.reduceEq, Int.reduceAdd, Int.reduceSub, Int.reduceMul, Int.reduceNeg, Int.reduceNe])
            refine ⟨q, by omega, i + 1, by omega, fe_len, ?_, ?_, ?_, ?_, _, rfl⟩
            all_goals (try simp -dsimp (disch := omega) only [h3, h13, h14, h15, dwm_take m e1, AS, avals, apairs, bareP, AV.bare, AV.bares, Nat.reduceEqDiff, Nat.reduceLT, Nat.reduceAdd, ↓reduceIte, reduceCtorEq, resA, resA1, resVal, Nat.reduceLeDiff, nb_cfg, Nat.reduceBEq, AX, Int.reduceLT, Int.reduceLE, Int.reduceEq, Int.reduceAdd, Int.reduceSub, Int.reduceMul, Int.reduceNeg, Int.reduceNe])
        · refine ⟨0, by omega, fe_len, ?_, ?_, ?_, ?_, [], rfl⟩
          all_goals (try simp -dsimp (disch := omega) only [h0, AS, avals, apairs, bareP, AV.bare, AV.bares, Nat.reduceEqDiff, Nat.reduceLT, Nat.reduceAdd, ↓reduceIte, reduceCtorEq, resA, resA1, resVal, Nat.reduceLeDiff, nb_cfg, Nat.reduceBEq, AX, Int.reduceLT, Int.reduceLE, Int.reduceEq, Int.reduceAdd, Int.reduceSub, Int.reduceMul, Int.reduceNeg, Int.reduceNe])
          all_goals rfl
      · have hd : dwA (.mk k n s l m) = .v (.int .i64 0) := by simp [dwA, GV.dw, k4, k5]
        rw [hd]
        refine pure_of_wk (call := noCall) (fn := Tryd.f30) (rs := [.tmp 2]) ok noCall_ok (fns_cfg Tryd.func30 rfl) rfl rfl ?_
        intro env hl0 hargs
        have hn : env.length = 41 := hl0
        have h0 := hargs 0 _ rfl
        clear hargs hl0
        refine wkT_of ?_
        rw [fe_self hn]
        (try simp -dsimp (disch := omega) only [h0, r1, bxt_ro hb hfl, gf0, vp3, cellsA, g0, k4, k5, AS, avals, apairs, bareP, AV.bare, AV.bares, Nat.reduceEqDiff, Nat.reduceLT, Nat.reduceAdd, ↓reduceIte, reduceCtorEq, resA, resA1, resVal, Nat.reduceLeDiff, nb_cfg, Nat.reduceBEq, AX, Int.reduceLT, Int.reduceLE, Int.reduceEq, Int.reduceAdd, Int.reduceSub, Int.reduceMul, Int.reduceNeg, Int.reduceNe])
        exact ⟨1, rfl⟩
end Go.Proofs.YtjejeijldllloaaDoor

/- Chapter 2: Light. -/
namespace Go.Proofs.YtjejeijldllloaaDoor
open Go.AM
mutual
/-- What a value weighs, as it is computed. -/
def GV.wt (most : Int) : Int → GV → Int
  | d, .mk _ _ s l m => if 70 < d then IntKind.i64.wrap (most + 1) else GV.wtm most (d + 1) (GV.wts most (d + 1) (IntKind.i64.wrap (1 + (s.length : Int))) l) m
def GV.wts (most : Int) : Int → Int → List GV → Int
  | _, n, [] => n
  | d, n, v :: r => if n ≤ most then GV.wts most d (IntKind.i64.wrap (n + GV.wt most d v)) r else n
def GV.wtm (most : Int) : Int → Int → List (List UInt8 × GV) → Int
  | _, n, [] => n
  | d, n, p :: r => if n ≤ most then GV.wtm most d (IntKind.i64.wrap (n + IntKind.i64.wrap ((p.1.length : Int) + GV.wtp most d p))) r else n
def GV.wtp (most : Int) : Int → List UInt8 × GV → Int
  | d, (_, v) => GV.wt most d v
end
structure WtP where
  v : GV
  x : AV
  d : Int
  most : Int
def WtP.ok (N : Nat) (p : WtP) : Prop := FV p.v p.x ∧ p.v.sz < N ∧ 0 ≤ p.d ∧ p.d ≤ 71
def WtP.args (p : WtP) : List AV := [p.x, .v (.int .i64 p.d), .v (.int .i64 p.most)]
def WtP.res (p : WtP) : AV := .v (.int .i64 (p.v.wt p.most p.d))
end Go.Proofs.YtjejeijldllloaaDoor

/- Chapter 2: what the form's reach says of values; what is light. -/
namespace Go.Proofs.YtjejeijldllloaaDoor
open Go.AM
mutual
/-- Within the reach. -/
def GV.sml : GV → Prop
  | .mk _ _ s l m => s.length ≤ 140737488355328 ∧ l.length ≤ 140737488355328 ∧ m.length ≤ 140737488355328 ∧ GV.smls l ∧ GV.smlm m
def GV.smls : List GV → Prop
  | [] => True
  | v :: r => v.sml ∧ GV.smls r
def GV.smlm : List (List UInt8 × GV) → Prop
  | [] => True
  | p :: r => GV.smlp p ∧ GV.smlm r
def GV.smlp : List UInt8 × GV → Prop
  | (k, v) => k.length ≤ 140737488355328 ∧ v.sml
end
theorem reach_le {n : Nat} (h : n ≤ reachBytes) : n ≤ 140737488355328 := Nat.le_trans h (by decide)
theorem small_str {l : List UInt8} (h : Small (str l)) : l.length ≤ 140737488355328 := by
  generalize hx : str l = x at h
  cases h with
  | str h => rw [str_inj hx]; exact reach_le h
  | val h => injection hx with hx; exact absurd hx.symm (h _)
  | _ => cases hx
theorem small_agg {xs : List AV} (h : Small (.agg xs)) : ∀ x ∈ xs, Small x := by
  generalize hx : AV.agg xs = x at h
  cases h with
  | agg h => injection hx with hx; rw [hx]; exact h
  | _ => cases hx
theorem small_ro {x : AV} {xs : List AV} (h : Small x) (k : slK x) (he : elems x = some xs) : xs.length ≤ 140737488355328 ∧ ∀ y ∈ xs, Small y := by
  cases h with
  | ro h1 h2 => injection he with he; rw [← he]; exact ⟨reach_le h1, h2⟩
  | val h => 
    rename_i v
    cases v <;> first | (cases he; done) | skip
    rename_i a b c
    rcases k with k | k
    · injection k with k
      injection k with k1 k2 k3
      subst k1 k2 k3
      injection he with he
      rw [← he]
      exact ⟨Nat.zero_le _, fun y hy => by cases hy⟩
    · exact absurd k.1 (by simp [someSl])
  | _ => cases he
mutual
theorem FV.sml : ∀ {v : GV} {x : AV}, FV v x → Small x → v.sml
  | .mk k n s l m, x, h, hs => by
    obtain ⟨L, M, xs, ys, rfl, h1, h2, k1, k2, _, _, _, _, _, _, _, h3, h4⟩ := h
    have ha := small_agg hs
    have hL := small_ro (ha L (by simp)) k1 h1
    have hM := small_ro (ha M (by simp)) k2 h2
    exact ⟨small_str (ha (str s) (by simp)), by rw [← h3.len]; exact hL.1, by rw [← h4.len]; exact hM.1, FVs.sml h3 hL.2, FMs.sml h4 hM.2⟩
theorem FVs.sml : ∀ {l : List GV} {xs : List AV}, FVs l xs → (∀ x ∈ xs, Small x) → GV.smls l
  | [], _, _, _ => trivial
  | v :: r, xs, h, hs => by
    obtain ⟨y, ys, rfl, h1, h2⟩ := h
    exact ⟨FV.sml h1 (hs y (by simp)), FVs.sml h2 fun z hz => hs z (by simp [hz])⟩
theorem FMs.sml : ∀ {l : List (List UInt8 × GV)} {xs : List AV}, FMs l xs → (∀ x ∈ xs, Small x) → GV.smlm l
  | [], _, _, _ => trivial
  | v :: r, xs, h, hs => by
    obtain ⟨y, ys, rfl, h1, h2⟩ := h
    exact ⟨FMp.sml h1 (hs y (by simp)), FMs.sml h2 fun z hz => hs z (by simp [hz])⟩
theorem FMp.sml : ∀ {p : List UInt8 × GV} {x : AV}, FMp p x → Small x → GV.smlp p
  | (k, v), x, h, hs => by
    obtain ⟨cs, rfl, _, h1⟩ := h
    have ha := small_agg hs
    exact ⟨small_str (ha (str k) (by simp)), FV.sml h1 (.agg fun z hz => ha z (by simp [hz]))⟩
end
end Go.Proofs.YtjejeijldllloaaDoor

/- Chapter 2: Light: its walk; tables over all values. -/
namespace Go.Proofs.YtjejeijldllloaaDoor
open Go.AM
/-- A table of what a function says of each value within the reach. -/
noncomputable def vP (r : GV → AV) : List AV → Option AV := relP (fun p : GV × AV => FV p.1 p.2 ∧ p.1.sml) (fun p => [p.2]) (fun p => r p.1)
theorem vP_eq {r : GV → AV} {v : GV} {x : AV} (h : FV v x) (hs : v.sml) : vP r [x] = some (r v) :=
  relP_eq (X := fun p : GV × AV => FV p.1 p.2 ∧ p.1.sml) (a := fun p => [p.2]) (r := fun p => r p.1) (fun p q hp hq e => by
    injection e with e _
    have := hp.1.rv
    rw [e] at this
    rw [RV.uniq this hq.1.rv]) (v, x) ⟨h, hs⟩
theorem vP_ok {r : GV → AV} {R : List AV → AV → Prop} (h : ∀ v x, FV v x → v.sml → R [x] (r v)) : ∀ xs y, vP r xs = some y → R xs y := relP_ok fun p hp => h p.1 p.2 hp.1 hp.2
/-- .. of each smaller one. -/
noncomputable def smS (r : GV → AV) (N : Nat) : List AV → Option AV := relP (fun p : GV × AV => FV p.1 p.2 ∧ p.1.sml ∧ p.1.sz < N) (fun p => [p.2]) (fun p => r p.1)
theorem smS_eq {r : GV → AV} {N : Nat} {v : GV} {x : AV} (h : FV v x) (hs : v.sml) (hn : v.sz < N) : smS r N [x] = some (r v) :=
  relP_eq (X := fun p : GV × AV => FV p.1 p.2 ∧ p.1.sml ∧ p.1.sz < N) (a := fun p => [p.2]) (r := fun p => r p.1) (fun p q hp hq e => by
    injection e with e _
    have := hp.1.rv
    rw [e] at this
    rw [RV.uniq this hq.1.rv]) (v, x) ⟨h, hs, hn⟩
theorem smS_ok {r : GV → AV} {N : Nat} {R : List AV → AV → Prop} (h : ∀ v x, FV v x → v.sml → v.sz < N → R [x] (r v)) : ∀ xs y, smS r N xs = some y → R xs y := relP_ok fun p hp => h p.1 p.2 hp.1 hp.2.1 hp.2.2
theorem smls_get : ∀ {l : List GV} {i : Nat} {v : GV}, GV.smls l → l[i]? = some v → v.sml
  | _ :: _, 0, _, h, e => by injection e with e; subst e; exact h.1
  | _ :: r, i + 1, _, h, e => smls_get (l := r) (i := i) h.2 e
theorem smlm_get : ∀ {l : List (List UInt8 × GV)} {i : Nat} {k : List UInt8} {v : GV}, GV.smlm l → l[i]? = some (k, v) → k.length ≤ 140737488355328 ∧ v.sml
  | _ :: _, 0, _, _, h, e => by injection e with e; subst e; exact h.1
  | _ :: r, i + 1, _, _, h, e => smlm_get (l := r) (i := i) h.2 e
theorem dwP_ok : ∀ xs y, vP dwA xs = some y → PureOk (cfgP fun _ => none) 30 xs y := vP_ok (R := fun xs y => PureOk (cfgP fun _ => none) 30 xs y) fun v x h _ => depthP_ok (v.sz + 1) v x h (Nat.lt_succ_self _)
end Go.Proofs.YtjejeijldllloaaDoor

/- Chapter 2: what a good value is: the reference's may. -/
namespace Go.Proofs.YtjejeijldllloaaDoor
open Go.AM
mutual
/-- A value that may be. -/
def GV.may : GV → Bool
  | .mk k n s l m =>
    if k = 0 then decide (n = 0) && decide (s = []) && decide ((l.length : Int) = 0) && decide ((m.length : Int) = 0)
    else if k = 1 then (decide (n = 0) || decide (n = 1)) && decide (s = []) && decide ((l.length : Int) = 0) && decide ((m.length : Int) = 0)
    else if k = 2 then decide (-9007199254740991 ≤ n) && decide (n ≤ 9007199254740991) && decide (s = []) && decide ((l.length : Int) = 0) && decide ((m.length : Int) = 0)
    else if k = 3 then decide (n = 0) && utfB s && decide ((l.length : Int) = 0) && decide ((m.length : Int) = 0)
    else if k = 4 then GV.mays l && (decide (n = 0) && decide (s = []) && decide ((m.length : Int) = 0))
    else if k = 5 then GV.maym none m && (decide (n = 0) && decide (s = []) && decide ((l.length : Int) = 0))
    else false
def GV.mays : List GV → Bool
  | [] => true
  | v :: r => v.may && GV.mays r
/-- .. and the keys rise. -/
def GV.maym : Option (List UInt8) → List (List UInt8 × GV) → Bool
  | _, [] => true
  | o, p :: r => utfB p.1 && !(match o with | some q => Op.bytesLess p.1 q || decide (p.1 = q) | none => false) && GV.mayp p && GV.maym (some p.1) r
def GV.mayp : List UInt8 × GV → Bool
  | (_, v) => v.may
end
def mayA (v : GV) : AV := .v (.bool v.may)
def prevK (m : List (List UInt8 × GV)) : Nat → Option (List UInt8)
  | 0 => none
  | i + 1 => (m[i]?).map Prod.fst
theorem maym_step {m : List (List UInt8 × GV)} {i : Nat} {k : List UInt8} {v : GV} (hv : m[i]? = some (k, v)) : GV.maym (prevK m i) (m.drop i) = (utfB k && !(match prevK m i with | some q => Op.bytesLess k q || decide (k = q) | none => false) && v.may && GV.maym (prevK m (i + 1)) (m.drop (i + 1))) := by
  obtain ⟨hi, he⟩ := List.getElem?_eq_some_iff.1 hv
  have hp : prevK m (i + 1) = some k := by show (m[i]?).map Prod.fst = _; rw [hv]; rfl
  rw [List.drop_eq_getElem_cons hi, he, hp]
  rfl
end Go.Proofs.YtjejeijldllloaaDoor

/- Chapter 2: what a good value is: the reference's may, whole; GoodValue. -/
namespace Go.Proofs.YtjejeijldllloaaDoor
open Go.AM
/-- Good: not too deep, and such as may be. -/
def GV.good (v : GV) : Bool := decide (v.dw ≤ 50) && v.may
def gdA (v : GV) : AV := .v (.bool v.good)
end Go.Proofs.YtjejeijldllloaaDoor

/- Chapter 2: plain facts about a map's members: of each key the last one; the document's way gives the same. -/
namespace Go.Proofs.YtjejeijldllloaaDoor
open Go.AM
/-- The last one of a key. -/
def lastK (key : List UInt8) (xs : List E) : Option E := (xs.filter fun a => a.1 == key).getLast?
theorem lastK_nil (key : List UInt8) : lastK key [] = none := rfl
theorem lastK_cons (key : List UInt8) (x : E) (xs : List E) : lastK key (x :: xs) = if x.1 = key then some ((lastK key xs).getD x) else lastK key xs := by
  unfold lastK
  by_cases h : x.1 = key
  · rw [List.filter_cons_of_pos (by simp [h]), List.getLast?_cons, if_pos h]
  · rw [List.filter_cons_of_neg (by simp [h]), if_neg h]
theorem lastK_append (key : List UInt8) (xs ys : List E) : lastK key (xs ++ ys) = (lastK key ys).or (lastK key xs) := by
  unfold lastK
  rw [List.filter_append, List.getLast?_append]
theorem lastK_snoc (key : List UInt8) (xs : List E) (p : E) : lastK key (xs ++ [p]) = if p.1 = key then some p else lastK key xs := by
  rw [lastK_append, lastK_cons, lastK_nil]
  by_cases h : p.1 = key
  · rw [if_pos h, if_pos h]; rfl
  · rw [if_neg h, if_neg h]; rfl
theorem lastK_sm {xs ys : List E} (h : Sm Prod.fst xs ys) (key : List UInt8) : lastK key xs = lastK key ys := by
  unfold lastK
  rw [h key]
theorem lastK_mem {xs : List E} {p : E} (h : p ∈ xs) : ∃ q, lastK p.1 xs = some q := by
  unfold lastK
  cases hq : (xs.filter fun a => a.1 == p.1).getLast? with
  | some q => exact ⟨q, rfl⟩
  | none =>
    rw [List.getLast?_eq_none_iff, List.filter_eq_nil_iff] at hq
    exact absurd (hq p h) (by simp)
/-- The keys rise. -/
def Str (xs : List E) : Prop := xs.Pairwise fun a b => bl a.1 b.1 = true
theorem Str.srt {xs : List E} (h : Str xs) : Srt Prod.fst xs := h.imp fun h => ble_of_lt h
theorem str_filter (key : List UInt8) : ∀ {xs : List E}, Str xs → (xs.filter fun a => a.1 == key) = (lastK key xs).toList
  | [], _ => rfl
  | x :: r, h => by
    obtain ⟨h1, h2⟩ := List.pairwise_cons.1 h
    rw [lastK_cons]
    by_cases hx : x.1 = key
    · have hr : (r.filter fun a => a.1 == key) = [] := by
        rw [List.filter_eq_nil_iff]
        intro y hy
        have := h1 y hy
        intro he
        have he : y.1 = key := by simpa using he
        rw [he, ← hx, bl_irrefl] at this
        cases this
      have hl : lastK key r = none := by unfold lastK; rw [hr]; rfl
      rw [List.filter_cons_of_pos (by simp [hx]), hr, if_pos hx, hl]
      rfl
    · rw [List.filter_cons_of_neg (by simp [hx]), if_neg hx, str_filter key h2]
theorem str_uniq {xs ys : List E} (h1 : Str xs) (h2 : Str ys) (h : ∀ key, lastK key xs = lastK key ys) : xs = ys :=
  srt_unique h1.srt h2.srt fun key => by
    have a := str_filter key h1
    have b := str_filter key h2
    rw [h key] at a
    exact a.trans b.symm
theorem dedup_mem : ∀ {ys : List E} {q : E}, q ∈ dedup ys → q ∈ ys
  | [], _, h => h
  | [x], _, h => h
  | x :: y :: r, q, h => by
    rw [dedup] at h
    split at h
    · exact List.mem_cons_of_mem _ (dedup_mem h)
    · rcases List.mem_cons.1 h with rfl | h
      · exact List.mem_cons_self
      · exact List.mem_cons_of_mem _ (dedup_mem h)
theorem lt_of_ne {a b : List UInt8} (h : ble a b = true) (hn : a ≠ b) : bl a b = true := by
  cases hb : bl a b with
  | true => rfl
  | false => exact absurd (bl_tri hb (by simpa [ble] using h)) hn
theorem dedup_str : ∀ {ys : List E}, Srt Prod.fst ys → Str (dedup ys)
  | [], _ => List.Pairwise.nil
  | [x], _ => List.pairwise_singleton _ _
  | x :: y :: r, h => by
    obtain ⟨h1, h2⟩ := List.pairwise_cons.1 h
    rw [dedup]
    split
    · exact dedup_str h2
    · rename_i hne
      refine List.pairwise_cons.2 ⟨fun z hz => ?_, dedup_str h2⟩
      have hxy := lt_of_ne (h1 y List.mem_cons_self) hne
      rcases List.mem_cons.1 (dedup_mem hz) with rfl | hz
      · exact hxy
      · exact lt_of_lt_le hxy ((List.pairwise_cons.1 h2).1 z hz)
theorem dedup_last (key : List UInt8) : ∀ ys : List E, lastK key (dedup ys) = lastK key ys
  | [] => rfl
  | [x] => rfl
  | x :: y :: r => by
    have ih := dedup_last key (y :: r)
    rw [dedup]
    split
    · rename_i he
      rw [ih, lastK_cons key x]
      by_cases hx : x.1 = key
      · obtain ⟨q, hq⟩ := lastK_mem (xs := y :: r) (p := y) List.mem_cons_self
        rw [if_pos hx, ← hx, he, hq]
        rfl
      · rw [if_neg hx]
    · rw [lastK_cons, lastK_cons key x, ih]
theorem mapL_str (xs : List E) : Str (mapL xs) := dedup_str (sortK_srt xs)
theorem mapL_last (key : List UInt8) (xs : List E) : lastK key (mapL xs) = lastK key xs := by
  unfold mapL
  rw [dedup_last]
  exact lastK_sm (sortK_sm xs) key
theorem mapL_uniq {xs ys : List E} (h : Str ys) (hl : ∀ key, lastK key ys = lastK key xs) : ys = mapL xs := str_uniq h (mapL_str xs) fun key => by rw [hl, mapL_last]
theorem mapL_mem {xs : List E} {p : E} (h : p ∈ mapL xs) : p ∈ xs := sortK_mem.1 (dedup_mem h)
/-- The document's way. -/
def insR (p : E) : List E → List E
  | [] => [p]
  | y :: r => if bl y.1 p.1 = true then y :: insR p r else if y.1 = p.1 then p :: r else p :: y :: r
def refL (xs : List E) : List E := xs.foldl (fun out p => insR p out) []
theorem refL_snoc (xs : List E) (p : E) : refL (xs ++ [p]) = insR p (refL xs) := by simp [refL, List.foldl_append]
theorem insR_mem {p q : E} : ∀ {out : List E}, q ∈ insR p out → q = p ∨ q ∈ out
  | [], h => by simpa [insR] using h
  | y :: r, h => by
    rw [insR] at h
    split at h
    · rcases List.mem_cons.1 h with rfl | h
      · exact .inr List.mem_cons_self
      · rcases insR_mem h with h | h
        · exact .inl h
        · exact .inr (List.mem_cons_of_mem _ h)
    · split at h
      · rcases List.mem_cons.1 h with h | h
        · exact .inl h
        · exact .inr (List.mem_cons_of_mem _ h)
      · rcases List.mem_cons.1 h with h | h
        · exact .inl h
        · exact .inr h
theorem insR_str (p : E) : ∀ {out : List E}, Str out → Str (insR p out)
  | [], _ => List.pairwise_singleton _ _
  | y :: r, h => by
    obtain ⟨h1, h2⟩ := List.pairwise_cons.1 h
    rw [insR]
    split
    · rename_i hy
      refine List.pairwise_cons.2 ⟨fun z hz => ?_, insR_str p h2⟩
      rcases insR_mem hz with rfl | hz
      · exact hy
      · exact h1 z hz
    · rename_i hy
      split
      · rename_i he
        exact List.pairwise_cons.2 ⟨fun z hz => by rw [← he]; exact h1 z hz, h2⟩
      · rename_i hne
        have hpy : bl p.1 y.1 = true := by
          cases hb : bl p.1 y.1 with
          | true => rfl
          | false => exact absurd (bl_tri (by simpa using hy) hb) hne
        refine List.pairwise_cons.2 ⟨fun z hz => ?_, h⟩
        rcases List.mem_cons.1 hz with rfl | hz
        · exact hpy
        · exact bl_trans hpy (h1 z hz)
theorem str_last_none {key : List UInt8} {xs : List E} (h : ∀ z ∈ xs, z.1 ≠ key) : lastK key xs = none := by
  unfold lastK
  rw [List.getLast?_eq_none_iff, List.filter_eq_nil_iff]
  intro z hz
  simpa using h z hz
theorem insR_last (key : List UInt8) (p : E) : ∀ {out : List E}, Str out → lastK key (insR p out) = if p.1 = key then some p else lastK key out
  | [], _ => by
    rw [insR, lastK_cons, lastK_nil]
    rfl
  | y :: r, h => by
    obtain ⟨h1, h2⟩ := List.pairwise_cons.1 h
    rw [insR]
    split
    · rename_i hy
      rw [lastK_cons, insR_last key p h2, lastK_cons]
      by_cases hp : p.1 = key
      · have hn : y.1 ≠ key := by
          intro e
          rw [e, ← hp, bl_irrefl] at hy
          cases hy
        rw [if_pos hp, if_pos hp, if_neg hn]
      · rw [if_neg hp, if_neg hp]
    · rename_i hy
      split
      · rename_i he
        rw [lastK_cons, lastK_cons, he]
        by_cases hp : p.1 = key
        · have hn : lastK key r = none := str_last_none fun z hz e => by
            have := h1 z hz
            rw [e, he, hp, bl_irrefl] at this
            cases this
          rw [if_pos hp, if_pos hp, hn]
          rfl
        · rw [if_neg hp, if_neg hp, if_neg hp]
      · rename_i hne
        rw [lastK_cons key p]
        by_cases hp : p.1 = key
        · have hpy : bl p.1 y.1 = true := by
            cases hb : bl p.1 y.1 with
            | true => rfl
            | false => exact absurd (bl_tri (by simpa using hy) hb) hne
          have hn : lastK key (y :: r) = none := str_last_none fun z hz e => by
            have hpz : bl p.1 z.1 = true := by
              rcases List.mem_cons.1 hz with rfl | hz
              · exact hpy
              · exact bl_trans hpy (h1 z hz)
            rw [e, hp, bl_irrefl] at hpz
            cases hpz
          rw [if_pos hp, if_pos hp, hn]
          rfl
        · rw [if_neg hp, if_neg hp]
theorem refL_facts : ∀ (n : Nat) (xs : List E), xs.length = n → Str (refL xs) ∧ ∀ key, lastK key (refL xs) = lastK key xs
  | 0, xs, h => by
    obtain rfl := List.eq_nil_of_length_eq_zero h
    exact ⟨List.Pairwise.nil, fun _ => rfl⟩
  | n + 1, xs, h => by
    obtain ⟨ys, p, rfl⟩ : ∃ ys p, xs = ys ++ [p] := ⟨xs.dropLast, xs.getLast (by intro e; rw [e] at h; cases h), (List.dropLast_concat_getLast _).symm⟩
    obtain ⟨a, b⟩ := refL_facts n ys (by rw [List.length_append] at h; simpa using h)
    rw [refL_snoc]
    exact ⟨insR_str p a, fun key => by rw [insR_last key p a, b, lastK_snoc]⟩
theorem refL_eq (xs : List E) : refL xs = mapL xs := mapL_uniq (refL_facts _ xs rfl).1 (refL_facts _ xs rfl).2
/-- Where it goes. -/
theorem insR_at (p : E) : ∀ (out : List E) (k : Nat), (∀ j y, j < k → out[j]? = some y → bl y.1 p.1 = true) → (k ≤ out.length) → (∀ y, out[k]? = some y → bl y.1 p.1 = false) →
    insR p out = if (out[k]?.map Prod.fst) = some p.1 then out.set k p else out.take k ++ p :: out.drop k
  | [], k, _, hk, _ => by
    obtain rfl : k = 0 := by simpa using hk
    rfl
  | y :: r, 0, _, _, h3 => by
    have hy := h3 y rfl
    rw [insR, hy]
    simp
  | y :: r, k + 1, h1, hk, h3 => by
    have hy := h1 0 y (by omega) rfl
    have ih := insR_at p r k (fun j z hj hz => h1 (j + 1) z (by omega) hz) (by simpa using hk) (fun z hz => h3 z hz)
    rw [insR, if_pos hy, ih, List.getElem?_cons_succ]
    split
    · rw [List.set_cons_succ]
    · rw [List.take_succ_cons, List.drop_succ_cons, List.cons_append]
end Go.Proofs.YtjejeijldllloaaDoor
