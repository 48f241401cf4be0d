/- An abstract machine for loaded programs: a row's last steps. -/
import Derived.Test.YtcimffpckcbdlaaAmB
import Derived.Below
import Derived.ChangeSame
import Derived.Lib.LaidTab
import Derived.ChangeArms
import Derived.ChangeBears2
import Derived.OpenShut
set_option linter.unusedSimpArgs false
set_option linter.unusedVariables false
namespace Go.AM
open Go.RowKit (Below)
section
variable {C : Cfg}

/-- All that lies there is laid for good. -/
def Gs.start (W : World) : Gs :=
  ⟨{ base := W.heap.size, im := fun b o => W.cell? ⟨b, o, none⟩, lit := fun _ => False, tok := fun _ _ => none, blk := fun _ _ => none, mp := fun _ => none }, fun _ => none⟩

theorem Sim.start {W : World} (hgl : ∀ g x, C.gl g = some x → ∃ z, x.toV = some z ∧ ∀ j v, z.cells.toList[j]? = some v → W.cell? ⟨g, j, none⟩ = some v ∧ v.oneCell' = true) : Sim C (Gs.start W) {} W :=
  ⟨Nat.le_refl _, fun _ _ _ h => h, fun _ h => h.elim, (fun _ _ h => by cases h), (fun t e tid h _ => by simp at h), fun _ _ _ => rfl, (fun b k h => by simp at h), fun _ _ _ => rfl, fun g x hx => by
    obtain ⟨z, hz, hc⟩ := hgl g x hx
    exact ⟨z, hz, fun j v hj => by
      have := hc j v hj
      simp only [Gs.start, Nat.zero_add]
      exact this⟩, (fun m es h => by simp at h), fun _ _ => rfl⟩

/-- The tables of a program, as it has them. -/
noncomputable def cfgOf (P : Program) (fns : FuncId → Bool) (gl : Nat → Option AV) (own : FuncId → Bool) (roBox : FuncId → Tmp → Bool) (prim : FuncId → Option (List AV → Option AV)) (nb : FuncId → Tmp → Bool := fun _ _ => false) (ident : FuncId → Bool := fun _ => false) (tyB : TypeId → Bool := fun _ => false) (lies : TypeId → TypeId → Bool := fun _ _ => false) (ovl : FuncId → Bool := fun _ => false) (meth : TypeId → String → Option (FuncId × Option TypeId) := fun _ _ => none) : Cfg where
  P := P
  und := P.underlying
  csz := fun t => (P.info? t).map (·.size)
  byt := fun t => (P.info? t).map (·.bytes)
  zero := fun t => (P.info? t).bind (·.zero)
  fns := fun f => if fns f then P.funcs[f]? else none
  gl := gl
  own := own
  roBox := roBox
  prim := prim
  nb := nb
  ident := ident
  tyB := tyB
  lies := lies
  ovl := ovl
  meth := meth

def funcsOk (P : Program) (fns : FuncId → Bool) : Bool := (List.range P.funcs.size).all fun f => !fns f || match P.funcs[f]? with
  | some fn => !(fn.name == "runtime.NumGoroutine") && (match fn.body with | some c => regionsOk c | none => true)
  | none => true

theorem cfgOf_ok {P : Program} {fns : FuncId → Bool} {gl : Nat → Option AV} {own : FuncId → Bool} {roBox : FuncId → Tmp → Bool} {prim : FuncId → Option (List AV → Option AV)} {nb : FuncId → Tmp → Bool} {ident : FuncId → Bool} {tyB : TypeId → Bool} {lies : TypeId → TypeId → Bool} {ovl : FuncId → Bool} {meth : TypeId → String → Option (FuncId × Option TypeId)} (hm : P.follows .mixedOrders = true) (hf : funcsOk P fns = true)
    (hp : ∀ f p, prim f = some p → PrimOk (cfgOf P fns gl own roBox prim nb ident tyB lies ovl meth) f p)
    (hi : ∀ f, ident f = true → ∀ (x : Value) (W : World), (callFunc f #[x]).run P W = .ok (.value x) W := by intro f h; exact Bool.noConfusion h) (hl : ∀ e u, lies e u = true → liesAt P P.depth e 1 0 u 1 = true := by intro e u h; exact Bool.noConfusion h)
    (ho : ∀ f, ovl f = true → ∃ fn t e n, P.funcs[f]? = some fn ∧ (fn.name == "runtime.NumGoroutine") = false ∧ fn.body.isNone = true ∧ Extern.findNext fn = none ∧ Extern.find fn = some (Extern.SlicesOverlaps.overlaps fn.params fn.resultTypes) ∧ fn.params[0]? = some t ∧ P.underlying t = some (.slice e) ∧ (P.info? e).map (·.size) = some (n + 1) := by intro f h; exact Bool.noConfusion h)
    (hme : ∀ t name f v, meth t name = some (f, v) → MethOk P t name f v := by intro t name f v h; cases h) : (cfgOf P fns gl own roBox prim nb ident tyB lies ovl meth).Ok := by
  have hfn : ∀ f fn, (cfgOf P fns gl own roBox prim nb ident tyB lies ovl meth).fns f = some fn → P.funcs[f]? = some fn ∧ (fn.name == "runtime.NumGoroutine") = false ∧ ∀ c, fn.body = some c → regionsOk c = true := by
    intro f fn h
    simp only [cfgOf] at h
    split at h
    · rename_i hff
      refine ⟨h, ?_⟩
      have hlt := (Array.getElem?_eq_some_iff.1 h).1
      unfold funcsOk at hf
      rw [List.all_eq_true] at hf
      have := hf f (List.mem_range.2 hlt)
      rw [hff, h] at this
      simp only [Bool.not_true, Bool.false_or, Bool.and_eq_true, Bool.not_eq_true'] at this
      refine ⟨this.1, fun c hc => ?_⟩
      rw [hc] at this
      exact this.2
    · cases h
  refine ⟨⟨fun t d h => h, fun t n h => ?_, fun t n h => ?_, fun t z h => ?_, fun f fn h => ⟨(hfn f fn h).1, (hfn f fn h).2.1⟩, hme⟩, hm, fun f fn c h hc => (hfn f fn h).2.2 c hc, hp, hi, hl, ho⟩
  · simp only [cfgOf, Option.map_eq_some_iff] at h
    exact h
  · simp only [cfgOf, Option.map_eq_some_iff] at h
    exact h
  · simp only [cfgOf, Option.bind_eq_some_iff] at h
    exact h
end

section
open Go.RowKit Go.WideShapes Go.ChangeShapes
variable {H : Type} {enc : TypeId × Value → H} {P : Program}
/-- The row's last step: of the world behind the call it is known that what was there is there. -/
theorem post_of_below {f : Func} {s : ChangeSpec} {apart fresh handsOn again : Bool} {W W' : World} {args : Array Value} {v : Value} {ds gs : List (DataW H)} {before pa pv : List MemPlace}
    (hW : DataW.Whole enc P f.params.toList s.vars apart W args.toList ds gs before)
    (hres : ∀ (b : Nat) (sp : Nat → Bool) (hd : Bool), DataW.TrodAll enc P W' b sp hd f.resultTypes.toList (v.resultList f.resultTypes.size) (s.fn H (ds ++ gs)).results [])
    (hargs : ∀ sp : Nat → Bool, (∀ p ∈ before, sp p.block = true) → DataW.TrodAll enc P W' 0 sp true f.params.toList args.toList (s.fn H (ds ++ gs)).args pa)
    (hvars : ∀ sp : Nat → Bool, (∀ p ∈ before, sp p.block = true) → DataW.TrodVars enc P W' sp s.vars (s.fn H (ds ++ gs)).vars pv)
    (hps : before = pa ++ pv) (hb : Below W.heap.size W W')
    (hok : ∀ (j : Nat) (t : TypeId) (r : Value), f.resultTypes[j]? = some t → (v.resultList f.resultTypes.size)[j]? = some r → Value.okWide P W' .any 0 t r) :
    s.post enc P f apart fresh handsOn again W args v W' := by
  have hlt : ∀ p ∈ before, p.block < W.heap.size := fun p hp => hW.lt p hp
  have hold : ∀ p ∈ before, (fun b => decide (b < W.heap.size)) p.block = true := fun p hp => by simpa using hlt p hp
  refine ⟨ds, gs, before, [], pa, pv, hW, hres _ _ _, hargs _ hold, hvars _ hold, World.keptBut_mono (fun p hp => ⟨hp, ?_⟩) (hb.frame (· ∈ before)), fun _ => ?_⟩
  · rw [hps, List.mem_append] at hp
    exact Or.inr hp
  · obtain ⟨_, _, _, _, _, hz, hn⟩ := hW
    refine ⟨hok, _, _, ([] ++ pa) ++ pv, ⟨[] ++ pa, pv, trodAll_append (hargs _ (fun _ _ => rfl)) (hres _ _ _), hvars _ (fun _ _ => rfl), rfl, ?_, ?_⟩, ?_⟩
    · intro b off hp
      have hin : MemPlace.cell b off ∈ before := by rw [hps]; simpa using hp
      rw [hb.frozen (hlt _ hin)]
      exact hz b off hin
    · intro ha
      have := hn ha
      rw [hps] at this
      simpa using this
    · intro p hp _
      rw [hps]
      simpa using hp
end
end Go.AM

namespace Go.AM
open Go.ChangeShapes
section
variable {H : Type} (P : Program)

def aggT (t : TypeId) : Bool := match P.underlying t with | some (.struct _) | some (.array _ _) => true | _ => false
def oneA (g : Bool) (cs : List AV) : Option AV := if g then some (.agg cs) else match cs with | [x] => some x | _ => none
def tilesB : Nat → List Field → Bool
  | _, [] => true
  | o, f :: fs => f.offset == o && tilesB (o + P.cellsOf f.type) fs
def mapA {α β : Type} (f : α → Option β) : List α → Option (List β)
  | [] => some []
  | x :: xs => match f x, mapA f xs with
    | some y, some ys => some (y :: ys)
    | _, _ => none
/-- Fields' parts, one behind the other. -/
def zipA (f : TypeId → DataW H → Option (List AV)) : List Field → List (DataW H) → Option (List AV)
  | [], [] => some []
  | g :: gs, d :: ds => match f g.type d, zipA f gs ds with
    | some x, some xs => some (x ++ xs)
    | _, _ => none
  | _, _ => none

/-- What a reading is in the abstract machine: its cells. -/
def avC : Nat → TypeId → DataW H → Option (List AV)
  | 0, _, _ => none
  | n + 1, t, d => match P.underlying t, d with
    | some .bool, .lit (.bool b) => some [.v (.bool b)]
    | some (.int _), .lit (.int k i) => some [.v (.int k i)]
    | some .string, .lit (.string s) => some [.v (.string ⟨s.toArray⟩)]
    | some (.pointer _), .nil => some [.v (.pointer none)]
    | some (.pointer e), .ptr d => if 0 < P.cellsOf e then ((avC n e d).bind (oneA (aggT P e))).map fun x => [.rp x 0] else none
    | some (.slice _), .nil => some [.v (.slice none 0 0)]
    | some (.slice e), .slice ds _ => if 0 < P.cellsOf e then (mapA (fun d => (avC n e d).bind (oneA (aggT P e))) ds).map fun xs => [.ro xs] else none
    | some (.struct fs), .agg ds => if tilesB P 0 fs.toList && (P.cellsOf t == (fs.toList.map fun f => P.cellsOf f.type).sum) then zipA (avC n) fs.toList ds else none
    | some (.array k e), .agg ds => if P.cellsOf t = k * P.cellsOf e then (mapA (avC n e) ds).map List.flatten else none
    | some (.interface _), .nil => some [.v .nilIface]
    | _, _ => none

theorem mapA_get {α β : Type} {f : α → Option β} : ∀ {xs : List α} {ys : List β}, mapA f xs = some ys → ys.length = xs.length ∧ ∀ (i : Nat) (x : α), xs[i]? = some x → ∃ y, f x = some y ∧ ys[i]? = some y
  | [], ys, h => by simp only [mapA, Option.some.injEq] at h; subst h; simp
  | x :: xs, ys, h => by
    simp only [mapA] at h
    split at h
    · rename_i y ys' h1 h2
      injection h with h; subst h
      obtain ⟨hl, hg⟩ := mapA_get h2
      refine ⟨by simp [hl], fun i z hz => ?_⟩
      cases i with
      | zero => simp at hz; subst hz; exact ⟨y, h1, rfl⟩
      | succ i => simpa using hg i z (by simpa using hz)
    · cases h
end

section
variable {H : Type} {enc : TypeId × Value → H} {P : Program} {w : World} {base : Nat} {spare : Nat → Bool} {held : Bool}

theorem Addr.add_spot {a : Addr} (h : a.spot = none) (n : Nat) : a.add n = ⟨a.block, a.off + n, none⟩ := by
  unfold Addr.add
  split
  · rename_i hn; subst hn; cases a; simp_all
  · rfl
theorem cells?_at {a : Addr} {n : Nat} {cs : List Value} (h : w.cells? base a n = some cs) (hn : 0 < n) : a.spot = none ∧ cs.length = n ∧ ∀ (j : Nat) v, cs[j]? = some v → w.cell? ⟨a.block, a.off + j, none⟩ = some v := by
  obtain ⟨_, hlen, hg⟩ := World.cells?_some h
  have hs : a.spot = none := by
    have h0 := hg 0 hn
    rw [show a.add 0 = a from rfl] at h0
    have : cs[0]? ≠ none := by
      intro hne
      have := List.getElem?_eq_none_iff.1 hne
      omega
    rw [← h0] at this
    unfold World.cell? at this
    cases hb : w.heap[a.block]? with
    | none => simp [hb] at this
    | some o => cases o <;> simp [hb] at this <;> exact this.1
  refine ⟨hs, hlen, fun j v hj => ?_⟩
  have hjl : j < n := by rw [← hlen]; exact (List.getElem?_eq_some_iff.1 hj).1
  rw [← Addr.add_spot hs, hg j hjl, hj]

/-- What is read is so in the abstract machine. -/
structure Opened (P : Program) (w : World) (t : TypeId) (xs : List AV) (cs : List Value) : Prop where
  rel : VRels (Gs.start w).g xs cs
  bare : Bares xs
  flat : xs.all AV.flat = true
  len : aggT P t = false → ∃ x c, xs = [x] ∧ cs = [c] ∧ Value.plain c = true

theorem Opened.one {t : TypeId} {x : AV} {c : Value} (hr : VRel (Gs.start w).g x c) (hb : Bare x) (hf : x.flat = true) (hc : Value.plain c = true) : Opened P w t [x] [c] :=
  ⟨VRels.one hr, ⟨hb, trivial⟩, by simp [hf], fun _ => ⟨x, c, rfl, rfl, hc⟩⟩

theorem Opened.mk1 {e : TypeId} {xs : List AV} {cs : List Value} (o : Opened P w e xs cs) {x : AV} (h : oneA (aggT P e) xs = some x) :
    ∃ z, VRel (Gs.start w).g x z ∧ Bare x ∧ z.cells.toList = cs := by
  unfold oneA at h
  split at h
  · injection h with h; subst h
    exact ⟨.agg cs.toArray, ⟨_, rfl, by simpa using o.rel⟩, o.bare, by simp [Value.cells]⟩
  · rename_i hg
    obtain ⟨y, c, rfl, rfl, hc⟩ := o.len (by simpa using hg)
    simp only [Option.some.injEq] at h
    subst h
    obtain ⟨z, zs, e, r, rs⟩ := o.rel
    injection e with e1 e2
    subst e1
    exact ⟨c, r, o.bare.1, by rw [plain_of_not_agg hc]⟩

theorem Opened.imAt {e : TypeId} {xs : List AV} {cs : List Value} (o : Opened P w e xs cs) {a : Addr} {n : Nat} (h : w.cells? base a n = some cs) (hn : 0 < n) : ImAt (Gs.start w).g a.block a.off cs := by
  obtain ⟨hs, hl, hg⟩ := cells?_at h hn
  exact fun j v hj => ⟨hg j v hj, VRels.flat o.rel o.flat v (List.mem_of_getElem? hj)⟩

theorem elems_of {G : Gh} {es b : Nat} : ∀ {xs : List AV} {o : Nat}, (∀ (i : Nat) x, xs[i]? = some x → ∃ z, VRel G x z ∧ z.cells.size = es ∧ ImAt G b (o + i * es) z.cells.toList) → Elems G es b o xs
  | [], _, _ => trivial
  | x :: xs, o, h => ⟨by simpa using h 0 x rfl, elems_of fun i y hy => by
      have := h (i + 1) y (by simpa using hy)
      rwa [Nat.succ_mul, Nat.add_comm (i * es), ← Nat.add_assoc] at this⟩

theorem zipA_rel {f : TypeId → DataW H → Option (List AV)} {g : TypeId → List Value → Option (DataW H × List MemPlace)} (hfg : ∀ t d xs cs p, f t d = some xs → g t cs = some (d, p) → Opened P w t xs cs) :
    ∀ {fs : List Field} {ds : List (DataW H)} {xs : List AV} {cs : List Value} {o : Nat} {ps : List (DataW H × List MemPlace)}, tilesB P o fs = true → zipA f fs ds = some xs → ps.map (·.1) = ds →
      cs.length = o + (fs.map fun f => P.cellsOf f.type).sum → (∀ (i : Nat) (f : Field), fs[i]? = some f → g f.type ((cs.drop f.offset).take (P.cellsOf f.type)) = ps[i]?) →
      VRels (Gs.start w).g xs (cs.drop o) ∧ Bares xs ∧ xs.all AV.flat = true
  | [], ds, xs, cs, o, ps, _, h, hp, hl, _ => by
    cases ds with
    | cons _ _ => simp [zipA] at h
    | nil =>
      simp only [zipA, Option.some.injEq] at h
      subst h
      refine ⟨?_, trivial, rfl⟩
      simp only [List.map_nil, List.sum_nil, Nat.add_zero] at hl
      exact List.drop_eq_nil_of_le (by omega)
  | f0 :: fs, ds, xs, cs, o, ps, ht, h, hp, hl, hg => by
    cases ps with
    | nil => subst hp; simp [zipA] at h
    | cons p ps =>
      subst hp
      simp only [zipA, List.map_cons] at h
      split at h
      · rename_i x xs' h1 h2
        injection h with h; subst h
        simp only [tilesB, Bool.and_eq_true, beq_iff_eq] at ht
        obtain ⟨rfl, ht⟩ := ht
        have h0 := hg 0 f0 rfl
        simp only [List.getElem?_cons_zero] at h0
        have o1 := hfg _ _ _ _ _ h1 h0
        simp only [List.map_cons, List.sum_cons] at hl
        obtain ⟨r, b, fl⟩ := zipA_rel hfg (cs := cs) ht h2 rfl (by omega) (fun i f hf => by simpa using hg (i + 1) f (by simpa using hf))
        refine ⟨?_, Bares.append o1.bare b, by rw [List.all_append, o1.flat, fl]; rfl⟩
        have := VRels.append o1.rel r
        rwa [← List.drop_drop, List.take_append_drop] at this
      · cases h

theorem flat_rel {f : DataW H → Option (List AV)} {n : Nat} {g : List Value → Option (DataW H × List MemPlace)} {e : TypeId} (hfg : ∀ d xs cs p, f d = some xs → g cs = some (d, p) → Opened P w e xs cs) :
    ∀ {k : Nat} {ds : List (DataW H)} {xss : List (List AV)} {cs : List Value} {ps : List (DataW H × List MemPlace)}, mapA f ds = some xss → ps.map (·.1) = ds → ps.length = k →
      cs.length = k * n → (∀ (i : Nat), i < k → g ((cs.drop (i * n)).take n) = ps[i]?) →
      VRels (Gs.start w).g xss.flatten cs ∧ Bares xss.flatten ∧ xss.flatten.all AV.flat = true
  | 0, ds, xss, cs, ps, h, hp, hk, hl, _ => by
    obtain rfl := List.eq_nil_of_length_eq_zero hk
    subst hp
    simp only [List.map_nil, mapA, Option.some.injEq] at h
    subst h
    refine ⟨?_, trivial, rfl⟩
    exact List.eq_nil_of_length_eq_zero (by simpa using hl)
  | k + 1, ds, xss, cs, ps, h, hp, hk, hl, hg => by
    cases ps with
    | nil => simp at hk
    | cons p ps =>
      subst hp
      simp only [mapA, List.map_cons] at h
      split at h
      · rename_i x xs' h1 h2
        injection h with h; subst h
        have h0 := hg 0 (by omega)
        simp only [List.getElem?_cons_zero, Nat.zero_mul, List.drop_zero] at h0
        have o1 := hfg _ _ _ _ h1 h0
        rw [Nat.succ_mul] at hl
        obtain ⟨r, b, fl⟩ := flat_rel hfg (k := k) (n := n) (cs := cs.drop n) h2 rfl (by simpa using hk) (by simp; omega) (fun i hi => by
          have := hg (i + 1) (by omega)
          rw [List.drop_drop]
          rw [Nat.succ_mul] at this
          rw [Nat.add_comm n]
          simpa using this)
        refine ⟨?_, Bares.append o1.bare b, by simp only [List.flatten_cons]; rw [List.all_append, o1.flat, fl]; rfl⟩
        have := VRels.append o1.rel r
        rwa [List.take_append_drop] at this
      · cases h

theorem trod_av : ∀ (n : Nat) {fuel : Nat} {t : TypeId} {cs : List Value} {d : DataW H} {ps : List MemPlace} {xs : List AV}, DataW.trod enc P w base spare held fuel t cs = some (d, ps) → avC P n t d = some xs → Opened P w t xs cs
  | 0, _, _, _, _, _, _, _, h => by simp [avC] at h
  | n + 1, fuel, t, cs, d, ps, xs, hd, h => by
    unfold avC at h
    split at h
    · rename_i hu
      obtain ⟨b, rfl, hx⟩ := DataW.trod_bool hu hd
      injection hx with h1 h2; injection h1 with h1; injection h1 with h1; subst h1
      injection h with h; subst h
      exact Opened.one ⟨rfl, rfl⟩ trivial rfl rfl
    · rename_i hu
      obtain ⟨b, rfl, hx, _⟩ := DataW.trod_int hu hd
      injection hx with h1 h2; injection h1 with h1; injection h1 with h1 h3; subst h1; subst h3
      injection h with h; subst h
      exact Opened.one ⟨rfl, rfl⟩ trivial rfl rfl
    · rename_i hu
      obtain ⟨b, rfl, hx, _⟩ := DataW.trod_string hu hd
      injection hx with h1 h2; injection h1 with h1; injection h1 with h1; subst h1
      injection h with h; subst h
      exact Opened.one ⟨by cases b; simp, rfl⟩ trivial rfl rfl
    · rename_i hu
      rcases DataW.trod_pointer hu hd with ⟨rfl, hx⟩ | ⟨a, cs', y, n', _, rfl, hx, _⟩
      · injection h with h; subst h
        exact Opened.one ⟨rfl, rfl⟩ trivial rfl rfl
      · injection hx with h1 h2; cases h1
    · rename_i e d' hu
      rcases DataW.trod_pointer hu hd with ⟨rfl, hx⟩ | ⟨a, cs', y, n', _, rfl, hx, hc, hy⟩
      · injection hx with h1 h2; cases h1
      · injection hx with h1 h2; injection h1 with h1; subst h1
        split at h
        · rename_i hpos
          simp only [Option.map_eq_some_iff, Option.bind_eq_some_iff] at h
          obtain ⟨x, ⟨ys, h1, h2⟩, rfl⟩ := h
          have o := trod_av n hy h1
          obtain ⟨z, r, hb, hz⟩ := o.mk1 h2
          obtain ⟨hs, _, _⟩ := cells?_at hc hpos
          exact Opened.one ⟨hb, a.block, a.off, z, by cases a; simp_all, r, by rw [hz]; exact o.imAt hc hpos⟩ hb rfl rfl
        · cases h
    · rename_i hu
      rcases DataW.trod_slice hu hd with ⟨rfl, hx⟩ | ⟨a, len, cap, elems, rest, n', _, rfl, hx, _⟩
      · injection h with h; subst h
        exact Opened.one ⟨rfl, rfl⟩ trivial rfl rfl
      · injection hx with h1 h2; cases h1
    · rename_i e ds _ hu
      rcases DataW.trod_slice hu hd with ⟨rfl, hx⟩ | ⟨a, len, cap, elems, rest, n', _, rfl, hx, _, hcap, _, hlen, hel, _⟩
      · injection hx with h1 h2; cases h1
      · injection hx with h1 h2; injection h1 with h1 _; subst h1
        split at h
        · rename_i hpos
          simp only [Option.map_eq_some_iff] at h
          obtain ⟨ys, h1, rfl⟩ := h
          obtain ⟨hl, hg⟩ := mapA_get h1
          simp only [List.length_map] at hl
          have key : ∀ (i : Nat) x, ys[i]? = some x → a.spot = none ∧ Bare x ∧ ∃ z, VRel (Gs.start w).g x z ∧ z.cells.size = P.cellsOf e ∧ ImAt (Gs.start w).g a.block (a.off + i * P.cellsOf e) z.cells.toList := by
            intro i x hx
            have hi : i < elems.length := by rw [← hl]; exact (List.getElem?_eq_some_iff.1 hx).1
            obtain ⟨y, hy1, hy2⟩ := hg i elems[i].1 (by simp [hi])
            rw [hx] at hy2; injection hy2 with hy2; subst hy2
            have he := hel i (by omega)
            rw [List.getElem?_eq_getElem hi] at he
            simp only [Option.bind_eq_some_iff] at he
            obtain ⟨cs', hc, hd'⟩ := he
            simp only [Option.bind_eq_some_iff] at hy1
            obtain ⟨xs, h3, h4⟩ := hy1
            have o := trod_av n (d := elems[i].1) (ps := elems[i].2) hd' h3
            obtain ⟨z, r, hb, hz⟩ := o.mk1 h4
            obtain ⟨hs, hl', _⟩ := cells?_at hc hpos
            have him := o.imAt hc hpos
            have hsp : a.spot = none := by
              by_cases h0 : i * P.cellsOf e = 0
              · rw [h0] at hs; exact hs
              · have : i ≠ 0 := by rintro rfl; simp at h0
                have he0 := hel 0 (by omega)
                rw [List.getElem?_eq_getElem (by omega : 0 < elems.length)] at he0
                simp only [Option.bind_eq_some_iff, Nat.zero_mul] at he0
                obtain ⟨_, hc0, _⟩ := he0
                exact (cells?_at hc0 hpos).1
            refine ⟨hsp, hb, z, r, ?_, ?_⟩
            · rw [← hl', ← hz]; simp
            · rw [hz]; rw [Addr.add_spot hsp] at him; exact him
          refine Opened.one ⟨Bares.of fun x hx => ?_, some a, cap, by rw [hl, hlen], by omega, ?_⟩ (Bares.of fun x hx => ?_) rfl rfl
          · obtain ⟨i, hi⟩ := List.getElem?_of_mem hx
            exact (key i x hi).2.1
          · by_cases hy : ys = []
            · exact Or.inl ⟨hy, rfl⟩
            · refine Or.inr ⟨a.block, a.off, P.cellsOf e, ?_, hpos, elems_of fun i x hx => (key i x hx).2.2⟩
              obtain ⟨y, ys', rfl⟩ := List.exists_cons_of_ne_nil hy
              have := (key 0 y rfl).1
              cases a; simp_all
          · obtain ⟨i, hi⟩ := List.getElem?_of_mem hx
            exact (key i x hi).2.1
        · cases h
    · rename_i fs ds hu
      obtain ⟨ps', m, _, hx, hl, hlen, hf⟩ := DataW.trod_struct hu hd
      injection hx with h1 h2; injection h1 with h1; subst h1
      split at h
      · rename_i ht
        simp only [Bool.and_eq_true, beq_iff_eq] at ht
        obtain ⟨r, b, fl⟩ := zipA_rel (w := w) (P := P) (g := fun t cs => DataW.trod enc P w base spare held m t cs) (fun t d xs cs p hf hg => trod_av n hg hf) ht.1 h rfl (by rw [hl, ht.2]; simp) (fun i f hi => hf i f (by simpa using hi))
        exact ⟨by simpa using r, b, fl, fun hn => by simp [aggT, hu] at hn⟩
      · cases h
    · rename_i k e ds hu
      obtain ⟨ps', m, _, hx, hl, hlen, hf⟩ := DataW.trod_array hu hd
      injection hx with h1 h2; injection h1 with h1; subst h1
      split at h
      · rename_i ht
        simp only [Option.map_eq_some_iff] at h
        obtain ⟨xss, h1, rfl⟩ := h
        obtain ⟨r, b, fl⟩ := flat_rel (w := w) (P := P) (n := P.cellsOf e) (g := fun cs => DataW.trod enc P w base spare held m e cs) (fun d xs cs p hf hg => trod_av n hg hf) h1 rfl hlen (by rw [hl, ht]) hf
        exact ⟨r, b, fl, fun hn => by simp [aggT, hu] at hn⟩
      · cases h
    · rename_i hu
      cases fuel with
      | zero => simp [DataW.trod] at hd
      | succ m =>
        unfold DataW.trod at hd
        rw [hu] at hd
        injection h with h; subst h
        split at hd
        all_goals first | (exfalso; simp_all; done) | skip
        · exact Opened.one ⟨rfl, rfl⟩ trivial rfl rfl
        · split at hd
          · cases hd
          · simp only [Option.map_eq_some_iff] at hd
            obtain ⟨_, _, hd⟩ := hd
            cases hd
          · cases hd
    · cases h

/-- One package-level variable: its number, its name, its type, what is laid, its cells. -/
structure LaidOk (P : Program) (laid : List (String × DataW Unit)) (g : Nat) (x : AV) : Prop where
  ok : ∃ nm t d n xs zs, (nm, d) ∈ laid ∧ P.globalNamed nm = some g ∧ (P.globals[g]?).map (·.type) = some t ∧ avC P n t d = some xs ∧ AV.toVs xs = some zs ∧ (x = .agg xs ∨ (xs = [x] ∧ ∃ v, x = .v v))
def LaidOks (P : Program) (laid : List (String × DataW Unit)) : List (Nat × AV) → Prop
  | [] => True
  | p :: r => LaidOk P laid p.1 p.2 ∧ LaidOks P laid r
theorem LaidOks.mem {P : Program} {laid : List (String × DataW Unit)} : ∀ {l : List (Nat × AV)}, LaidOks P laid l → ∀ p ∈ l, LaidOk P laid p.1 p.2
  | _ :: _, h, p, hp => by
    rcases List.mem_cons.1 hp with rfl | hp
    · exact h.1
    · exact LaidOks.mem h.2 p hp
def glOf : List (Nat × AV) → Nat → Option AV
  | [], _ => none
  | (k, x) :: r, g => if g = k then some x else glOf r g
end
end Go.AM
