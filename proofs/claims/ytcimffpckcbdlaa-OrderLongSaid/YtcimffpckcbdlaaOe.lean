/- Contracts of functions, and plain facts about what they compute. -/
import Derived.Test.YtcimffpckcbdlaaOd
import Derived.Test.YtcimffpckcbdlaaAmD
import Derived.Test.YtcimffpckcbdlaaAmE
import Derived.Shelf.Lay
import Derived.Shelf.LaySoft
import Derived.Shelf.Sort.Plain
import Derived.Shelf.Slices.In.SortNone
set_option linter.unusedSimpArgs false
set_option linter.unusedVariables false
/- Chapter 22: what is reached, as it is meant. No program in sight. -/
namespace Go.Proofs.Ytcimffpckcbdlaa
open Go.AM
def nds (l : List It) (t : Tx) : List Tx := match plc l t with
  | none => []
  | some i => match l[i]? with
    | none => []
    | some x => x.2
theorem nds_of {l : List It} {t : Tx} {i : Nat} {x : It} (h : plc l t = some i) (hx : l[i]? = some x) : nds l t = x.2 := by
  unfold nds
  rw [h]
  simp only [hx]
inductive Dem (l : List It) (fr : List Tx) : Tx → Prop
  | base {t : Tx} : t ∈ fr → Dem l fr t
  | step {s t : Tx} : Dem l fr s → t ∈ nds l s → Dem l fr t
def Rc (l : List It) (fr : List Tx) (t : Tx) : Prop := Dem l fr t ∧ plc l t ≠ none
/-- Rising, each once. -/
def Asc (L : List Tx) : Prop := L.Pairwise fun a b => bl a b = true
theorem asc_cons {x : Tx} {L : List Tx} : Asc (x :: L) ↔ (∀ y ∈ L, bl x y = true) ∧ Asc L := List.pairwise_cons
theorem asc_uniq : ∀ {L M : List Tx}, Asc L → Asc M → (∀ t, t ∈ L ↔ t ∈ M) → L = M
  | [], [], _, _, _ => rfl
  | [], y :: M, _, _, h => by
    have := (h y).2 (by simp)
    cases this
  | x :: L, [], _, _, h => by
    have := (h x).1 (by simp)
    cases this
  | x :: L, y :: M, h1, h2, h => by
    obtain ⟨a1, a2⟩ := asc_cons.1 h1
    obtain ⟨b1, b2⟩ := asc_cons.1 h2
    have hxy : x = y := by
      rcases List.mem_cons.1 ((h x).1 (by simp)) with e | hm
      · exact e
      · rcases List.mem_cons.1 ((h y).2 (by simp)) with e | hm'
        · exact e.symm
        · have := bl_asymm (b1 x hm)
          rw [a1 y hm'] at this
          cases this
    subst hxy
    rw [asc_uniq a2 b2 fun t => ?_]
    constructor
    · intro ht
      rcases List.mem_cons.1 ((h t).1 (List.mem_cons_of_mem _ ht)) with e | hm
      · have := a1 t ht
        rw [e, bl_irrefl] at this
        cases this
      · exact hm
    · intro ht
      rcases List.mem_cons.1 ((h t).2 (List.mem_cons_of_mem _ ht)) with e | hm
      · have := b1 t ht
        rw [e, bl_irrefl] at this
        cases this
      · exact hm
open Classical in
/-- What is reached. -/
noncomputable def reachL (l : List It) (fr : List Tx) : List Tx := if h : ∃ R, Asc R ∧ ∀ t, t ∈ R ↔ Rc l fr t then h.choose else []
theorem reachL_eq {l : List It} {fr R : List Tx} (h1 : Asc R) (h2 : ∀ t, t ∈ R ↔ Rc l fr t) : reachL l fr = R := by
  have h : ∃ R, Asc R ∧ ∀ t, t ∈ R ↔ Rc l fr t := ⟨R, h1, h2⟩
  unfold reachL
  rw [dif_pos h]
  obtain ⟨h3, h4⟩ := h.choose_spec
  exact asc_uniq h3 h1 fun t => (h4 t).trans (h2 t).symm
/-! ### Sorted -/
theorem bl_iff_lt : ∀ {a b : Tx}, bl a b = true ↔ a < b
  | [], [] => by simp [bl, Op.bytesLess]
  | [], _ :: _ => by simp [bl, Op.bytesLess]
  | _ :: _, [] => by simp [bl, Op.bytesLess]
  | x :: a, y :: b => by
    rw [bl_cons, List.cons_lt_cons_iff, ← bl_iff_lt (a := a) (b := b)]
    simp
theorem ble_iff {a b : Tx} : decide (a ≤ b) = ble a b := by
  unfold ble
  have : a ≤ b ↔ ¬ b < a := by rw [List.not_lt]
  cases h : bl b a with
  | true => simp [this, bl_iff_lt.1 h]
  | false =>
    have hn : ¬ b < a := fun e => by rw [bl_iff_lt.2 e] at h; cases h
    simp [this, hn]
theorem ble_trans {a b c : Tx} (h1 : ble a b = true) (h2 : ble b c = true) : ble a c = true := by
  unfold ble at h1 h2 ⊢
  have h1' : bl b a = false := by simpa using h1
  have h2' : bl c b = false := by simpa using h2
  rw [nlt_trans h1' h2']
  rfl
theorem ble_total (a b : Tx) : (ble a b || ble b a) = true := by
  unfold ble
  cases h : bl b a with
  | false => rfl
  | true => simp [bl_asymm h]
theorem sortT_mem {L : List Tx} {t : Tx} : t ∈ sortT L ↔ t ∈ L := (List.mergeSort_perm _ _).mem_iff
theorem sortT_asc {L : List Tx} (h : L.Nodup) : Asc (sortT L) := by
  have e : (fun x y : Tx => decide (x ≤ y)) = ble := by
    funext a b
    exact ble_iff
  unfold sortT
  rw [e]
  have h1 := List.pairwise_mergeSort (le := ble) (fun a b c => ble_trans) (fun a b => ble_total a b) L
  have h2 : (L.mergeSort ble).Nodup := (List.mergeSort_perm L ble).nodup_iff.2 h
  have h3 : (L.mergeSort ble).Pairwise fun a b => ble a b = true ∧ a ≠ b := List.pairwise_and_iff.2 ⟨h1, h2⟩
  exact h3.imp fun {a b} ⟨p, q⟩ => by
    cases hb : bl a b with
    | true => rfl
    | false =>
      have : bl b a = false := by
        unfold ble at p
        simpa using p
      exact absurd (bl_tri hb this) q
/-! ### With a stack -/
structure DI (l : List It) (fr left out : List Tx) : Prop where
  nd : out.Nodup
  so : ∀ t ∈ out, Rc l fr t
  sl : ∀ t ∈ left, Dem l fr t
  cf : ∀ t ∈ fr, t ∈ left ∨ t ∈ out ∨ plc l t = none
  cc : ∀ s ∈ out, ∀ t ∈ nds l s, t ∈ left ∨ t ∈ out ∨ plc l t = none
theorem DI.init {l : List It} {fr : List Tx} : DI l fr fr [] := ⟨List.nodup_nil, fun t h => (List.not_mem_nil h).elim, fun t h => .base h, fun t h => .inl h, fun s h => (List.not_mem_nil h).elim⟩
theorem DI.skip {l : List It} {fr left out : List Tx} {t : Tx} (h : DI l fr (left ++ [t]) out) (ht : t ∈ out ∨ plc l t = none) : DI l fr left out := by
  have hm : ∀ u, (u ∈ left ++ [t] ∨ u ∈ out ∨ plc l u = none) → u ∈ left ∨ u ∈ out ∨ plc l u = none := by
    intro u hu
    rcases hu with hu | hu
    · rcases List.mem_append.1 hu with hu | hu
      · exact .inl hu
      · simp at hu
        subst hu
        exact .inr ht
    · exact .inr hu
  exact ⟨h.nd, h.so, fun u hu => h.sl u (List.mem_append_left _ hu), fun u hu => hm u (h.cf u hu), fun s hs u hu => hm u (h.cc s hs u hu)⟩
theorem DI.visit {l : List It} {fr left out : List Tx} {t : Tx} (h : DI l fr (left ++ [t]) out) (ht : t ∉ out) (hp : plc l t ≠ none) : DI l fr (left ++ nds l t) (out ++ [t]) := by
  have hd : Dem l fr t := h.sl t (by simp)
  have hm : ∀ u, (u ∈ left ++ [t] ∨ u ∈ out ∨ plc l u = none) → u ∈ left ++ nds l t ∨ u ∈ out ++ [t] ∨ plc l u = none := by
    intro u hu
    rcases hu with hu | hu | hu
    · rcases List.mem_append.1 hu with hu | hu
      · exact .inl (List.mem_append_left _ hu)
      · exact .inr (.inl (List.mem_append_right _ hu))
    · exact .inr (.inl (List.mem_append_left _ hu))
    · exact .inr (.inr hu)
  refine ⟨?_, ?_, ?_, fun u hu => hm u (h.cf u hu), ?_⟩
  · rw [List.nodup_append]
    exact ⟨h.nd, by simp, fun a ha b hb e => by simp at hb; subst hb; subst e; exact ht ha⟩
  · intro u hu
    rcases List.mem_append.1 hu with hu | hu
    · exact h.so u hu
    · simp at hu
      subst hu
      exact ⟨hd, hp⟩
  · intro u hu
    rcases List.mem_append.1 hu with hu | hu
    · exact h.sl u (List.mem_append_left _ hu)
    · exact .step hd hu
  · intro s hs u hu
    rcases List.mem_append.1 hs with hs | hs
    · exact hm u (h.cc s hs u hu)
    · simp at hs
      subst hs
      exact .inl (List.mem_append_right _ hu)
theorem closed_rc {l : List It} {fr out : List Tx} (so : ∀ t ∈ out, Rc l fr t) (cf : ∀ t ∈ fr, t ∈ out ∨ plc l t = none) (cc : ∀ s ∈ out, ∀ t ∈ nds l s, t ∈ out ∨ plc l t = none) : ∀ t, t ∈ out ↔ Rc l fr t := by
  intro t
  refine ⟨so t, fun ⟨hd, hp⟩ => ?_⟩
  induction hd with
  | base h =>
    rcases cf _ h with h | h
    · exact h
    · exact absurd h hp
  | @step s u hs ht ih =>
    have hsp : plc l s ≠ none := by
      intro e
      unfold nds at ht
      rw [e] at ht
      cases ht
    rcases cc _ (ih ⟨hs, hsp⟩ hsp) _ ht with h | h
    · exact h
    · exact absurd h hp
theorem DI.fin {l : List It} {fr out : List Tx} (h : DI l fr [] out) : reachL l fr = sortT out := by
  refine reachL_eq (sortT_asc h.nd) fun t => sortT_mem.trans (closed_rc h.so (fun t ht => ?_) (fun s hs t ht => ?_) t)
  · rcases h.cf t ht with h | h
    · cases h
    · exact h
  · rcases h.cc s hs t ht with h | h
    · cases h
    · exact h
theorem DI.sub {l : List It} {fr left out : List Tx} (h : DI l fr left out) : out.length ≤ l.length := nodup_sub h.nd fun t ht => by
  have := (h.so t ht).2
  exact Decidable.byContradiction fun hn => this (plc_none.2 hn)
theorem Asc.nodup {L : List Tx} (h : Asc L) : L.Nodup := h.imp fun {a b} hab e => by
  rw [e, bl_irrefl] at hab
  cases hab
/-- What is still to be gone through. -/
def bud (l : List It) (out : List Tx) : Nat := ((l.filter fun x => !out.contains x.1).map fun x => x.2.length + 1).sum
theorem bud_mono {out : List Tx} {t : Tx} : ∀ (l : List It), bud l (out ++ [t]) ≤ bud l out
  | [] => Nat.le_refl _
  | x :: l => by
    have ih := bud_mono (out := out) (t := t) l
    unfold bud at ih ⊢
    simp only [List.filter_cons]
    cases h1 : out.contains x.1 with
    | true =>
      have h2 : (out ++ [t]).contains x.1 = true := by
        have : x.1 ∈ out := by simpa using h1
        simp [this]
      rw [h2]
      simpa using ih
    | false =>
      cases h2 : (out ++ [t]).contains x.1 with
      | true => simp only [Bool.not_true, Bool.false_eq_true, if_false, Bool.not_false, if_true, List.map_cons, List.sum_cons]; omega
      | false => simp only [Bool.not_false, if_true, List.map_cons, List.sum_cons]; omega
theorem bud_step {out : List Tx} : ∀ (l : List It) {x : It}, x ∈ l → x.1 ∉ out → bud l (out ++ [x.1]) + (x.2.length + 1) ≤ bud l out
  | [], x, h, _ => by cases h
  | y :: l, x, h, hx => by
    rcases List.mem_cons.1 h with rfl | h
    · have ih := bud_mono (out := out) (t := x.1) l
      unfold bud at ih ⊢
      simp only [List.filter_cons]
      have h1 : out.contains x.1 = false := by simpa using hx
      have h2 : (out ++ [x.1]).contains x.1 = true := by simp
      rw [h1, h2]
      simp only [Bool.not_true, Bool.false_eq_true, if_false, Bool.not_false, if_true, List.map_cons, List.sum_cons]
      omega
    · have ih := bud_step (out := out) l h hx
      unfold bud at ih ⊢
      simp only [List.filter_cons]
      cases h1 : out.contains y.1 with
      | true =>
        have h2 : (out ++ [x.1]).contains y.1 = true := by
          have : y.1 ∈ out := by simpa using h1
          simp [this]
        rw [h2]
        simpa using ih
      | false =>
        cases h2 : (out ++ [x.1]).contains y.1 with
        | true => simp only [Bool.not_true, Bool.false_eq_true, if_false, Bool.not_false, if_true, List.map_cons, List.sum_cons]; omega
        | false => simp only [Bool.not_false, if_true, List.map_cons, List.sum_cons]; omega
theorem bud_le {c : Nat} {out : List Tx} : ∀ (l : List It), (∀ x ∈ l, x.2.length < c) → bud l out ≤ l.length * c
  | [], _ => Nat.zero_le _
  | x :: l, h => by
    have ih := bud_le (c := c) (out := out) l fun y hy => h y (by simp [hy])
    have hx := h x (by simp)
    unfold bud at ih ⊢
    simp only [List.filter_cons]
    have : (l.length + 1) * c = l.length * c + c := Nat.succ_mul _ _
    cases h1 : out.contains x.1 with
    | true => simp only [Bool.not_true, Bool.false_eq_true, if_false, List.length_cons]; omega
    | false => simp only [Bool.not_false, if_true, List.map_cons, List.sum_cons, List.length_cons]; omega
/-! ### One by one (the document) -/
structure RI (l : List It) (fr out : List Tx) (i : Nat) : Prop where
  nd : out.Nodup
  so : ∀ t ∈ out, Rc l fr t
  cf : ∀ t ∈ fr, t ∈ out ∨ plc l t = none
  cc : ∀ j, j < i → ∀ s, out[j]? = some s → ∀ t ∈ nds l s, t ∈ out ∨ plc l t = none
theorem RI.fin {l : List It} {fr out R : List Tx} {i : Nat} (h : RI l fr out i) (hi : out.length ≤ i) (hR : Asc R) (hm : ∀ t, t ∈ R ↔ t ∈ out) : reachL l fr = R := by
  refine reachL_eq hR fun t => (hm t).trans (closed_rc h.so h.cf (fun s hs t ht => ?_) t)
  obtain ⟨j, hj⟩ := List.getElem?_of_mem hs
  exact h.cc j (by have := (List.getElem?_eq_some_iff.1 hj).1; omega) s hj t ht
theorem RI.sub {l : List It} {fr out : List Tx} (nd : out.Nodup) (so : ∀ t ∈ out, Rc l fr t) : out.length ≤ l.length := nodup_sub nd fun t ht => by
  have := (so t ht).2
  exact Decidable.byContradiction fun hn => this (plc_none.2 hn)
end Go.Proofs.Ytcimffpckcbdlaa

/- Chapter 22: slices.Sort of texts (the shelf's), slices.Clone. -/
namespace Go.Proofs
open Go.Shelf
shelf_lay Lays.n190 Nm 190 at Try as Try.lays190
end Go.Proofs
namespace Go.Proofs.Ytcimffpckcbdlaa
open Go.AM
structure Sx where
  h : Hp
  b : Nat
  g : Nat
  L : List Tx
  r : List AV
def Sx.ok (p : Sx) : Prop := p.h.blks[p.b]? = some ⟨p.g, 1, p.L.map str ++ p.r⟩ ∧ p.L.length < 1099511627776
def Sx.h' (p : Sx) : Hp := { p.h with blks := p.h.blks.set p.b ⟨p.g, 1, (sortT p.L).map str ++ p.r⟩ }
theorem sx_ok (p : Sx) (hp : p.ok) : CallOk (cfgP nP) 21 [.ex p.b p.g 1 0 p.L.length] p.h (.tup []) p.h' :=
  sort_call (C := cfgP nP) (fun blk off cap ss w h1 h2 h3 => Any.slices_Sort_string Try.lays190 blk off cap ss w h1 h2 h3) hp.1 (by have := hp.2; omega)
noncomputable def sxT := relT 21 Sx.ok (fun p => [.ex p.b p.g 1 0 p.L.length]) Sx.h (fun _ => .tup []) Sx.h'
theorem sxT_ok : CallsOk (cfgP nP) sxT := relT_ok (fns_cfg Try.func21 rfl) rfl sx_ok
theorem sxT_at (p : Sx) (hp : p.ok) : sxT 21 [.ex p.b p.g 1 0 p.L.length] p.h = some (.tup [], p.h') :=
  relT_eq (f0 := 21) (X := Sx.ok) (a := fun p => [.ex p.b p.g 1 0 p.L.length]) (h := Sx.h) (r := fun _ => .tup []) (h' := Sx.h') (fun p q hp hq ha hh => by
    obtain ⟨h, b, g, L, r⟩ := p
    obtain ⟨h', b', g', L', r'⟩ := q
    injection ha with a1 _
    injection a1 with e1 e2 _ _ e3
    simp only at hh e1 e2 e3
    subst hh e1 e2
    have h1 := hp.1
    have h2 := hq.1
    simp only at h1 h2
    rw [h1] at h2
    injection h2 with h2
    injection h2 with _ _ h2
    obtain ⟨e4, e5⟩ := strs_inj e3 h2
    subst e4 e5
    exact ⟨rfl, rfl⟩) p hp
theorem sn_ok (H : Hp) : CallOk (cfgP nP) 21 [nilS] H (.tup []) H := sort_none (C := cfgP nP) (fun p cap w => Any.slices_Sort_string_none Try.lays190 p cap w) H
noncomputable def snT := relT 21 (fun _ : Hp => True) (fun _ => [nilS]) (fun p => p) (fun _ => .tup []) (fun p => p)
theorem snT_ok : CallsOk (cfgP nP) snT := relT_ok (fns_cfg Try.func21 rfl) rfl fun p _ => sn_ok p
theorem snT_at {H : Hp} : snT 21 [nilS] H = some (.tup [], H) :=
  relT_eq (f0 := 21) (X := fun _ : Hp => True) (a := fun _ => [nilS]) (h := fun p => p) (r := fun _ => .tup []) (h' := fun p => p) (fun p q _ _ _ hh => ⟨rfl, hh⟩) H trivial
theorem sxT_nil {H : Hp} : sxT 21 [nilS] H = none := by
  unfold sxT relT
  rw [dif_neg]
  rintro ⟨_, p, _, h, _⟩
  injection h with h _
  cases h
/-! ### Clone -/
structure Clo where
  h : Hp
  x : AV
  l : List Tx
def slK (x : AV) : Prop := x = nilS ∨ (someSl x = true ∧ x.toV = none)
def Clo.ok (p : Clo) : Prop := elems p.x = some (p.l.map str) ∧ slK p.x ∧ p.l.length < 1073741824
def nilm (b : Bool) : AV := if b then .cl true [] else nilS
def Clo.v (p : Clo) : AV := match p.l with
  | [] => nilm (someSl p.x)
  | _ :: _ => .ex p.h.blks.length 0 1 0 p.l.length
def Clo.h' (p : Clo) : Hp := match p.l with
  | [] => p.h
  | _ :: _ => nbk p.h ⟨0, 1, p.l.map str⟩
section
variable {prim : FuncId → Option (List AV → Option AV)}
theorem eq_nil25 {x y : Operand} {a : AV} (h1 : someSl a = true) (h2 : a.toV = none) : binA (cfgP prim) .eql 25 x y a nilS = some (.v (.bool false)) := by
  have hu : (cfgP prim).und 25 = some (.slice 9) := by kernel_rfl
  have hn : nilEq (cfgP prim) 25 a nilS = true := by
    simp only [nilEq, hu, h1, nilSl]
    simp
  unfold binA
  rw [h2]
  simp only [hn, if_true]
theorem eq_nn25 {x y : Operand} : binA (cfgP prim) .eql 25 x y nilS nilS = some (.v (.bool true)) := by
  have hu : (cfgP prim).und 25 = some (.slice 9) := by kernel_rfl
  rfl
theorem h025 : ((#[25, 25] : Array TypeId)[0]?).bind (elemT (cfgP prim)) = some 9 := by kernel_rfl
theorem h125 : ((#[25, 25] : Array TypeId)[1]?).bind (cfgP prim).und = some (.slice 9) := by kernel_rfl
theorem z9 : zeroA (cfgP prim) 9 = some (str []) := by kernel_rfl
theorem ro9 {n : Nat} (h : n < 1099511627776) : roomOk (cfgP prim) 9 n = true := by
  have hby : (cfgP prim).byt 9 = some 16 := by kernel_rfl
  simp only [roomOk, hby, Bool.and_eq_true, decide_eq_true_eq]
  omega
theorem clo_app {x : AV} {e : Tx} {es : List Tx} {H : Hp} (hx : elems x = some ((e :: es).map str)) (hl : (e :: es).length < 1073741824) : appXA (cfgP prim) #[25, 25] [.cl true [], x] H = some (.ex H.blks.length 0 1 0 (e :: es).length, nbk H ⟨0, 1, (e :: es).map str⟩) := by
  have hel : (str e).cells.length = 0 + 1 := rfl
  have hzl : (str []).cells.length = 1 := rfl
  have hroom : roomOk (cfgP prim) 9 (es.length + 1) = true := ro9 (by simp at hl; omega)
  rw [List.map_cons] at hx
  simp only [appXA, h025, h125, z9, c9, hzl, if_true, appendX, hx, List.map_cons, hel, hroom, and_self, Nat.zero_add, List.length_cons, List.length_map]
  rfl
theorem clo_app0 {x : AV} {H : Hp} (hx : elems x = some []) : appXA (cfgP prim) #[25, 25] [.cl true [], x] H = some (.cl true [], H) := by
  have hzl : (str []).cells.length = 1 := rfl
  simp only [appXA, h025, h125, z9, c9, hzl, if_true, appendX, hx]
end
theorem clo_ok (p : Clo) (hp : p.ok) : CallOk (cfgP nP) 20 [p.x] p.h p.v p.h' := by
  obtain ⟨h, x, l⟩ := p
  obtain ⟨hx, hk, hl⟩ := hp
  simp only at hx hk hl
  have nb : nbOf (cfgP nP) 20 (some 7) = true := by rfl
  have bs : buildSliceA (cfgP nP) 25 0 [] = some (.cl true []) := by kernel_rfl
  cases l with
  | nil =>
    show CallOk (cfgP nP) 20 [x] h (nilm (someSl x)) h
    rcases hk with rfl | ⟨k1, k2⟩
    · skip
      refine call_of_wk (call := noCall) (fn := Try.f20) (rs := [.tmp 2]) nP_ok noCall_ok (fns_cfg Try.func20 rfl) rfl rfl ?_
      intro env hl0 hargs
      have hn : env.length = 8 := hl0
      have h0 := hargs 0 _ rfl
      clear hargs hl0
      refine wkT_of ?_
      rw [fe_self hn]
      (try simp -dsimp (disch := omega) only [h0, eq_nn25, AS, avals, apairs, bareP, AV.bare, AV.bares, Nat.reduceEqDiff, Nat.reduceLT, Nat.reduceAdd, ↓reduceIte, reduceCtorEq, resA, resA1, resVal, Nat.reduceLeDiff, nb_cfg, Nat.reduceBEq, AX, Int.reduceLT, Int.reduceLE, Int.reduceEq, Int.reduceAdd, Int.reduceSub, Int.reduceMul, Int.reduceNeg, Int.reduceNe])
      exact ⟨rfl, trivial⟩
    · have c := clo_app0 (prim := nP) (H := h) hx
      rw [k1]
      refine call_of_wk (call := noCall) (fn := Try.f20) (rs := [.tmp 2]) nP_ok noCall_ok (fns_cfg Try.func20 rfl) rfl rfl ?_
      intro env hl0 hargs
      have hn : env.length = 8 := hl0
      have h0 := hargs 0 _ rfl
      clear hargs hl0
      refine wkT_of ?_
      rw [fe_self hn]
      (try simp -dsimp (disch := omega) only [h0, eq_nil25 k1 k2, bs, nb, appB_t, c, AS, avals, apairs, bareP, AV.bare, AV.bares, Nat.reduceEqDiff, Nat.reduceLT, Nat.reduceAdd, ↓reduceIte, reduceCtorEq, resA, resA1, resVal, Nat.reduceLeDiff, nb_cfg, Nat.reduceBEq, AX, Int.reduceLT, Int.reduceLE, Int.reduceEq, Int.reduceAdd, Int.reduceSub, Int.reduceMul, Int.reduceNeg, Int.reduceNe])
      exact ⟨rfl, trivial⟩
  | cons e es =>
    have c := clo_app (prim := nP) (H := h) hx hl
    show CallOk (cfgP nP) 20 [x] h (.ex h.blks.length 0 1 0 (e :: es).length) (nbk h ⟨0, 1, (e :: es).map str⟩)
    obtain ⟨n, hn0⟩ : ∃ n, (e :: es).length = n := ⟨_, rfl⟩
    obtain ⟨L, hL0⟩ : ∃ L, (e :: es).map str = L := ⟨_, rfl⟩
    rw [hn0, hL0] at c ⊢
    rcases hk with rfl | ⟨k1, k2⟩
    · cases hx
    · skip
      refine call_of_wk (call := noCall) (fn := Try.f20) (rs := [.tmp 2]) nP_ok noCall_ok (fns_cfg Try.func20 rfl) rfl rfl ?_
      intro env hl0 hargs
      have hn : env.length = 8 := hl0
      have h0 := hargs 0 _ rfl
      clear hargs hl0
      refine wkT_of ?_
      rw [fe_self hn]
      (try simp -dsimp (disch := omega) only [h0, eq_nil25 k1 k2, bs, nb, appB_t, c, AS, avals, apairs, bareP, AV.bare, AV.bares, Nat.reduceEqDiff, Nat.reduceLT, Nat.reduceAdd, ↓reduceIte, reduceCtorEq, resA, resA1, resVal, Nat.reduceLeDiff, nb_cfg, Nat.reduceBEq, AX, Int.reduceLT, Int.reduceLE, Int.reduceEq, Int.reduceAdd, Int.reduceSub, Int.reduceMul, Int.reduceNeg, Int.reduceNe])
noncomputable def cloT := relT 20 Clo.ok (fun p => [p.x]) Clo.h Clo.v Clo.h'
theorem cloT_ok : CallsOk (cfgP nP) cloT := relT_ok (fns_cfg Try.func20 rfl) rfl clo_ok
theorem cloT_at (p : Clo) (hp : p.ok) : cloT 20 [p.x] p.h = some (p.v, p.h') :=
  relT_eq (f0 := 20) (X := Clo.ok) (a := fun p => [p.x]) (h := Clo.h) (r := Clo.v) (h' := Clo.h') (fun p q hp hq ha hh => by
    obtain ⟨h, x, l⟩ := p
    obtain ⟨h', x', l'⟩ := q
    injection ha with a1 _
    simp only at a1 hh
    subst a1 hh
    have h1 := hp.1
    have h2 := hq.1
    simp only at h1 h2
    rw [h1] at h2
    injection h2 with h2
    have := strs_eq h2
    subst this
    exact ⟨rfl, rfl⟩) p hp
noncomputable def rT := orT sxT (orT snT cloT)
theorem rT_ok : CallsOk (cfgP nP) rT := orT_ok sxT_ok (orT_ok snT_ok cloT_ok)
theorem r_sx (p : Sx) (hp : p.ok) : rT 21 [.ex p.b p.g 1 0 p.L.length] p.h = some (.tup [], p.h') := orT_l (sxT_at p hp)
theorem r_sn {H : Hp} : rT 21 [nilS] H = some (.tup [], H) := orT_r sxT_nil (orT_l snT_at)
theorem r_clo (p : Clo) (hp : p.ok) : rT 20 [p.x] p.h = some (p.v, p.h') := orT_r (relT_none (by decide)) (orT_r (relT_none (by decide)) (cloT_at p hp))
end Go.Proofs.Ytcimffpckcbdlaa

/- Chapter 22: order.Reach: what it hands back is what is reached. -/
namespace Go.Proofs.Ytcimffpckcbdlaa
open Go.AM
section
variable {prim : FuncId → Option (List AV → Option AV)}
theorem p4 {cs : List AV} {j : Nat} : partA (cfgP prim) 4 cs j = cs[j]? := by kernel_rfl
theorem c4 : (cfgP prim).csz 4 = some 1 := by kernel_rfl
theorem len25x {b g es o n : Nat} : lenA (cfgP prim) #[25] [.ex b g es o n] = some (.v (.int .i64 (n : Int))) := len_ex (e := 9) (by kernel_rfl)
theorem len25n {f : Bool} : lenA (cfgP prim) #[25] [nilm f] = some (.v (.int .i64 0)) := by cases f <;> kernel_rfl
theorem ix25x {b g n i : Nat} {k : IntKind} (h : i < n) : indexAddrA (cfgP prim) 25 (.ex b g 1 0 n) (.v (.int k (i : Int))) = some (.ptr b g i 0) := by
  have h0 : (0 : Int) ≤ i := by omega
  have hu : (cfgP prim).und 25 = some (.slice 9) := by kernel_rfl
  simp only [indexAddrA, idx, h0, if_true, hu, c9, Int.toNat_natCast, h, and_self, Nat.zero_add]
theorem ix48 {b n i : Nat} {k : IntKind} (h : i < n) : indexAddrA (cfgP prim) 48 (.ex b 0 1 0 n) (.v (.int k (i : Int))) = some (.ptr b 0 i 0) := by
  have h0 : (0 : Int) ≤ i := by omega
  have hu : (cfgP prim).und 48 = some (.slice 4) := by kernel_rfl
  simp only [indexAddrA, idx, h0, if_true, hu, c4, Int.toNat_natCast, h, and_self, Nat.zero_add]
theorem sl25 {b g n m : Nat} (h : m ≤ n) : sliceA (cfgP prim) 25 (.ex b g 1 0 n) none (some (.v (.int .i64 (m : Int)))) none = some (.ex b g 1 0 m) := by
  have he : elemT (cfgP prim) 25 = some 9 := by kernel_rfl
  have h0 : (0 : Int) ≤ m := by omega
  have h1 : ¬ (0 = m ∧ 0 ≠ 0) := by simp
  simp only [sliceA, he, Option.bind_some, c9, optIdx, idx, h0, if_true, Int.toNat_natCast, Nat.zero_le, h, and_self, h1, if_false, Nat.sub_zero, Nat.zero_add, ne_eq, not_true, and_false]
theorem mk48 {H : Hp} {n : Nat} (hn : n < 1073741824) : makeA (cfgP prim) 48 (.v (.int .i64 (n : Int))) (.v (.int .i64 (n : Int))) H = some (.ex H.blks.length 0 1 0 n, nbk H ⟨0, 1, List.replicate n (.v (.bool false))⟩) := by
  have he : elemT (cfgP prim) 48 = some 4 := by kernel_rfl
  have hz : zeroA (cfgP prim) 4 = some (.v (.bool false)) := by kernel_rfl
  have hby : (cfgP prim).byt 4 = some 1 := by kernel_rfl
  have h0 : (0 : Int) ≤ n := by omega
  have hr : roomOk (cfgP prim) 4 n = true := by simp only [roomOk, hby, Bool.and_eq_true, decide_eq_true_eq]; omega
  simp only [makeA, he, idx, h0, if_true, Int.toNat_natCast, hz, c4, hr, true_and]
  rfl
end
/-! ### A row of texts, whether it is nothing or lies in a block -/
def Sv (h : Hp) (v : AV) (L : List Tx) (o : Option Nat) : Prop := (L = [] ∧ (∃ f, v = nilm f) ∧ o = none) ∨ ∃ b g r, o = some b ∧ v = .ex b g 1 0 L.length ∧ h.blks[b]? = some ⟨g, 1, L.map str ++ r⟩
theorem Sv.len {prim : FuncId → Option (List AV → Option AV)} {h : Hp} {v : AV} {L : List Tx} {o : Option Nat} (S : Sv h v L o) : lenA (cfgP prim) #[25] [v] = some (.v (.int .i64 (L.length : Int))) := by
  rcases S with ⟨rfl, ⟨f, rfl⟩, rfl⟩ | ⟨b, g, r, rfl, rfl, hb⟩
  · exact len25n
  · exact len25x
theorem Sv.of {h h' : Hp} {v : AV} {L : List Tx} {o : Option Nat} (S : Sv h v L o) (hh : ∀ b, o = some b → h'.blks[b]? = h.blks[b]?) : Sv h' v L o := by
  rcases S with S | ⟨b, g, r, e, rfl, hb⟩
  · exact .inl S
  · exact .inr ⟨b, g, r, e, rfl, (hh b e).trans hb⟩
theorem Sv.lt {h : Hp} {v : AV} {L : List Tx} {o : Option Nat} (S : Sv h v L o) {b : Nat} (e : o = some b) : b < h.blks.length := by
  rcases S with ⟨_, _, rfl⟩ | ⟨b', g, r, e', rfl, hb⟩
  · cases e
  · rw [e] at e'
    injection e' with e'
    subst e'
    exact (List.getElem?_eq_some_iff.1 hb).1
/-- The last of it. -/
theorem Sv.pop {h : Hp} {v : AV} {L : List Tx} {t : Tx} {o : Option Nat} (S : Sv h v (L ++ [t]) o) : ∃ b g r, o = some b ∧ v = .ex b g 1 0 (L.length + 1) ∧ h.blks[b]? = some ⟨g, 1, L.map str ++ str t :: r⟩ ∧ Sv h (.ex b g 1 0 L.length) L o := by
  rcases S with ⟨hL, _⟩ | ⟨b, g, r, e, rfl, hb⟩
  · simp at hL
  · have hb' : h.blks[b]? = some ⟨g, 1, L.map str ++ str t :: r⟩ := by
      rw [hb]
      simp
    exact ⟨b, g, r, e, by simp, hb', .inr ⟨b, g, str t :: r, e, rfl, hb'⟩⟩
theorem appB_str {prim : FuncId → Option (List AV → Option AV)} {h : Hp} {v N : AV} {L ys : List Tx} {o : Option Nat} (S : Sv h v L o) (hN : elems N = some (ys.map str)) (hl : L.length + ys.length < 1099511627776) :
    ∃ v' h' o', appXA (cfgP prim) #[25, 25] [v, N] h = some (v', h') ∧ Sv h' v' (L ++ ys) o' ∧ (∀ c, c < h.blks.length → o ≠ some c → h'.blks[c]? = h.blks[c]?) ∧ h'.mps = h.mps ∧ h.blks.length ≤ h'.blks.length ∧ (o' = o ∨ (o = none ∧ o' = some h.blks.length)) := by
  have hzl : (str []).cells.length = 1 := rfl
  cases ys with
  | nil =>
    have hN' : elems N = some [] := hN
    refine ⟨v, h, o, ?_, by rw [List.append_nil]; exact S, fun _ _ _ => rfl, rfl, Nat.le_refl _, .inl rfl⟩
    rcases S with ⟨rfl, ⟨f, rfl⟩, rfl⟩ | ⟨b, g, r, rfl, rfl, hb⟩
    · cases f
      · simp only [appXA, h025, h125, z9, c9, hzl, if_true, appendX, hN', nilm, Bool.false_eq_true, if_false]
      · simp only [appXA, h025, h125, z9, c9, hzl, if_true, appendX, hN', nilm]
    · simp only [appXA, h025, h125, z9, c9, hzl, if_true, appendX, hN']
  | cons y ys =>
    have hel : (str y).cells.length = 0 + 1 := rfl
    have hN' : elems N = some (str y :: ys.map str) := hN
    have hlen : (str y :: ys.map str).length = ys.length + 1 := by simp
    have hr1 : roomOk (cfgP prim) 9 (ys.length + 1) = true := ro9 (by simp at hl; omega)
    rcases S with ⟨rfl, ⟨f, rfl⟩, rfl⟩ | ⟨b, g, r, rfl, rfl, hb⟩
    · refine ⟨.ex h.blks.length 0 1 0 (ys.length + 1), nbk h ⟨0, 1, (y :: ys).map str⟩, some h.blks.length, ?_, .inr ⟨_, 0, [], rfl, by simp, by rw [List.append_nil, List.nil_append]; exact nbk_new⟩, ?_, rfl, by show h.blks.length ≤ (h.blks ++ [_]).length; simp, .inr ⟨rfl, rfl⟩⟩
      · cases f
        · simp only [appXA, h025, h125, z9, c9, hzl, if_true, appendX, hN', hel, hlen, hr1, and_self, nilm, Bool.false_eq_true, if_false, Nat.zero_add]
          rfl
        · simp only [appXA, h025, h125, z9, c9, hzl, if_true, appendX, hN', hel, hlen, hr1, and_self, nilm, Nat.zero_add]
          rfl
      · intro c hc _
        show (h.blks ++ [_])[c]? = _
        rw [List.getElem?_append_left hc]
    · have hr2 : roomOk (cfgP prim) 9 (L.length + (ys.length + 1)) = true := ro9 (by simp at hl; omega)
      have hbl := (List.getElem?_eq_some_iff.1 hb).1
      refine ⟨.ex b (nextG g) 1 0 (L.length + (ys.length + 1)), { h with blks := h.blks.set b ⟨nextG g, 1, (L ++ y :: ys).map str⟩ }, some b, ?_, .inr ⟨b, nextG g, [], rfl, by simp, ?_⟩, ?_, rfl, by simp, .inl rfl⟩
      · by_cases hr : r = []
        · subst hr
          have e1 : (L.map str ++ []).length = L.length := by simp
          simp only [appXA, h025, h125, z9, c9, hzl, if_true, appendX, hN', hel, hlen, hr1, and_self, Nat.zero_add, blk_row hb, e1, hr2, List.append_nil, List.map_append, List.map_cons, List.length_map]
        · have hpos := List.length_pos_iff.2 hr
          have e1 : ¬ (L.map str ++ r).length = L.length := by simp; exact hr
          have e2 : L.length < (L.map str ++ r).length := by simp; exact hpos
          have e3 : (L.map str ++ r).take L.length = L.map str := by
            rw [List.take_append_of_le_length (by simp), List.take_of_length_le (by simp)]
          simp only [appXA, h025, h125, z9, c9, hzl, if_true, appendX, hN', hel, hlen, hr1, and_self, Nat.zero_add, blk_row hb, e1, e2, e3, hr2, if_false, false_and, and_false, List.map_append, List.map_cons]
      · show (h.blks.set b _)[b]? = _
        rw [List.getElem?_set_self hbl, List.append_nil]
      · intro c _ hc
        show (h.blks.set b _)[c]? = _
        rw [List.getElem?_set_ne (fun e => hc (by rw [e]))]
theorem thaws_str {H : Hp} : ∀ (L : List Tx) (n : Nat), L.length < n → AV.thaws H n (L.map str) = some (L.map str)
  | [], n + 1, _ => by
    show AV.thaws H (n + 1) [] = some []
    rw [AV.thaws]
  | x :: L, n + 1, h => by
    have h1 : L.length + 1 < n + 1 := h
    have ih := thaws_str (H := H) L n (by omega)
    show AV.thaws H (n + 1) (str x :: L.map str) = _
    have ht : AV.thaw H n (str x) = some (str x) := by
      cases n with
      | zero => omega
      | succ n =>
        unfold str
        rw [AV.thaw]
    rw [AV.thaws, ht, ih]
    rfl
theorem thaw_row {h : Hp} {b g : Nat} {L : List Tx} {r : List AV} (hb : h.blks[b]? = some ⟨g, 1, L.map str ++ r⟩) : AV.thaw h (L.length + 2) (.ex b g 1 0 L.length) = some (.ro (L.map str)) := by
  have e1 : 0 + L.length ≤ (L.map str ++ r).length := by simp
  have e2 : ((L.map str ++ r).drop 0).take L.length = L.map str := by
    rw [List.drop_zero, List.take_append_of_le_length (by simp), List.take_of_length_le (by simp)]
  have ht := thaws_str (H := h) L (L.length + 1) (by omega)
  rw [AV.thaw]
  simp only [blk_row hb, e1, and_self, if_true, e2, ht, Option.map_some]
/-! ### Seen -/
def bools (sv : List Bool) : List AV := sv.map fun b => AV.v (.bool b)
theorem bools_get {sv : List Bool} {i : Nat} {b : Bool} (h : sv[i]? = some b) : (bools sv)[i]? = some (.v (.bool b)) := by
  unfold bools
  rw [List.getElem?_map, h]
  rfl
def Seen (l : List It) (out : List Tx) (sv : List Bool) : Prop := sv.length = l.length ∧ ∀ t i, plc l t = some i → sv[i]? = some (out.contains t)
theorem Seen.visit {l : List It} {out : List Tx} {sv : List Bool} (S : Seen l out sv) {t : Tx} {i : Nat} (h : plc l t = some i) : Seen l (out ++ [t]) (sv.set i true) := by
  obtain ⟨x, hx, rfl⟩ := plc_some h
  have hi := (List.getElem?_eq_some_iff.1 hx).1
  refine ⟨by rw [List.length_set]; exact S.1, fun u j hu => ?_⟩
  by_cases e : i = j
  · subst e
    obtain ⟨y, hy, rfl⟩ := plc_some hu
    rw [hx] at hy
    injection hy with hy
    subst hy
    rw [List.getElem?_set_self (by rw [S.1]; exact hi)]
    simp
  · rw [List.getElem?_set_ne e, S.2 u j hu]
    have : u ≠ x.1 := by
      rintro rfl
      rw [h] at hu
      injection hu with hu
      exact e hu
    simp [this]
theorem plc_snoc_some {a : List It} {x : It} {k : Nat} (hx : plc a x.1 = some k) (t : Tx) : plc (a ++ [x]) t = plc a t := by
  unfold plc at hx ⊢
  rw [List.findIdx?_append]
  cases h : List.findIdx? (fun y => y.1 == t) a with
  | some j => simp
  | none =>
    have : (x.1 == t) = false := by
      rw [beq_eq_false_iff_ne]
      rintro rfl
      rw [hx] at h
      cases h
    simp [this]
structure W1 (X F : AV) (n i : Nat) (l : List It) (e : Env) (h : Hp) : Prop where
  len : e.length = 88
  a0 : aget e 0 = X
  a1 : aget e 1 = F
  a5 : aget e 5 = .mp 0
  a17 : aget e 17 = X
  a18 : aget e 18 = .v (.int .i64 (n : Int))
  a19 : aget e 19 = .v (.int .i64 (i : Int))
  mp : LkM h (plc (l.take i))
structure W2 (X lv ov : AV) (n bs : Nat) (l : List It) (left out : List Tx) (e : Env) (h : Hp) : Prop where
  len : e.length = 88
  a0 : aget e 0 = X
  a5 : aget e 5 = .mp 0
  a10 : aget e 10 = .ex bs 0 1 0 n
  a11 : aget e 11 = lv
  a12 : aget e 12 = ov
  mp : LkM h (plc l)
  sn : ∃ sv, h.blks[bs]? = some ⟨0, 1, bools sv⟩ ∧ Seen l out sv
  lo : ∃ o1 o2, Sv h lv left o1 ∧ Sv h ov out o2 ∧ (out = [] → ov = nilS) ∧ o1 ≠ some bs ∧ o2 ≠ some bs ∧ ∀ b, o1 = some b → o2 ≠ some b
set_option maxHeartbeats 16000000 in
set_option maxRecDepth 100000 in
theorem reach_ok (l : List It) (X : AV) (ys : List AV) (fr : List Tx) (F : AV) (hX : elems X = some ys) (hI : ItsE l ys) (hF : elems F = some (fr.map str)) (hK : slK F) (hl : l.length < 16384) (hN : ∀ x ∈ l, x.2.length < 4096) (hf : fr.length < 16384) : PureOk (cfgP nP) 12 [X, F] (slS (reachL l fr)) := by
  obtain ⟨n, hn0⟩ : ∃ n, l.length = n := ⟨_, rfl⟩
  have hyl : ys.length = n := by rw [ItsE.length hI, hn0]
  have lx := len22 (prim := nP) hX
  rw [hyl] at lx
  have r7 : (cfgP nP).roBox 12 7 = false := rfl
  have nb77 : nbOf (cfgP nP) 12 (some 77) = true := by rfl
  have nb84 : nbOf (cfgP nP) 12 (some 84) = true := by rfl
  obtain ⟨V, hV⟩ : ∃ V, slS (reachL l fr) = V := ⟨_, rfl⟩
  rw [hV]
  refine pure_of_wk (call := rT) (fn := Try.f12) (rs := [.tmp 4]) nP_ok rT_ok (fns_cfg Try.func12 rfl) rfl rfl ?_
  intro env hl0 hargs
  have hn : env.length = 88 := hl0
  have h0 := hargs 0 _ rfl
  have h1 := hargs 1 _ rfl
  clear hargs hl0
  refine wkT_of ?_
  rw [fe_self hn]
  (try simp -dsimp (disch := omega) only [h0, h1, lx, AS, avals, apairs, bareP, AV.bare, AV.bares, Nat.reduceEqDiff, Nat.reduceLT, Nat.reduceAdd, ↓reduceIte, reduceCtorEq, resA, resA1, resVal, Nat.reduceLeDiff, nb_cfg, Nat.reduceBEq, AX, Int.reduceLT, Int.reduceLE, Int.reduceEq, Int.reduceAdd, Int.reduceSub, Int.reduceMul, Int.reduceNeg, Int.reduceNe])
  refine wt_loop (m := n) (fun m e h => ∃ i, i + m = n ∧ W1 X F n i l e h) ?_ ?_
  · clear hn h0 h1
    rintro m e h ⟨i, him, hn, h0, h1, h5, h17, h18, h19, hmp⟩
    rw [fe_self hn]
    cases m with
    | succ m =>
      obtain ⟨x, hx⟩ : ∃ x, l[i]? = some x := ⟨_, List.getElem?_eq_getElem (by omega)⟩
      obtain ⟨N, hyi, hNe⟩ := ItsE.get hI hx
      obtain ⟨hNc, hNf⟩ := elems_flat hNe
      have ixx := ix22 (prim := nP) (k := .i64) hX hyi
      have s1 := st34 (prim := nP) (H := h) (a := x.1) hNf
      have bk := blk_row (H := nbk h (itB x.1 N)) (b := h.blks.length) (g := 0) (es := 2) (xs := [.agg [str x.1, N]]) nbk_new
      have hmp2 : LkM (nbk h (itB x.1 N)) (plc (l.take i)) := hmp.of rfl
      have e1 : (i : Int) + 1 = ((i + 1 : Nat) : Int) := by omega
      have dI : decide ((i : Int) < (n : Int)) = true := decide_eq_true (by omega)
      cases hp : plc (l.take i) x.1 with
      | some k =>
        have lk := lk_some (prim := nP) hmp2 hp (c := true)
        rw [if_pos rfl] at lk
        (try simp -dsimp (disch := omega) only [h0, h1, h5, h17, h18, h19, dI, ixx, cag, p34, r7, al34, s1, f0p, bk, p9, List.getElem?_cons_zero, lk, e1, wrap64, AS, avals, apairs, bareP, AV.bare, AV.bares, Nat.reduceEqDiff, Nat.reduceLT, Nat.reduceAdd, ↓reduceIte, reduceCtorEq, resA, resA1, resVal, Nat.reduceLeDiff, nb_cfg, Nat.reduceBEq, AX, Int.reduceLT, Int.reduceLE, Int.reduceEq, Int.reduceAdd, Int.reduceSub, Int.reduceMul, Int.reduceNeg, Int.reduceNe])
        refine ⟨m, by omega, i + 1, by omega, fe_len, ?_, ?_, ?_, ?_, ?_, ?_, ?_⟩
        case refine_7 =>
          have e : plc (l.take (i + 1)) = plc (l.take i) := by
            funext t
            rw [take_snoc hx, plc_snoc_some hp]
          rw [e]
          exact hmp2
        all_goals (try simp -dsimp (disch := omega) only [h0, h1, h5, h17, h18, h19, AS, avals, apairs, bareP, AV.bare, AV.bares, Nat.reduceEqDiff, Nat.reduceLT, Nat.reduceAdd, ↓reduceIte, reduceCtorEq, resA, resA1, resVal, Nat.reduceLeDiff, nb_cfg, Nat.reduceBEq, AX, Int.reduceLT, Int.reduceLE, Int.reduceEq, Int.reduceAdd, Int.reduceSub, Int.reduceMul, Int.reduceNeg, Int.reduceNe])
      | none =>
        have lk := lk_none (prim := nP) hmp2 hp (c := true)
        rw [if_pos rfl] at lk
        have um := up_map (prim := nP) hmp2 (t := x.1) (k := i)
        (try simp -dsimp (disch := omega) only [h0, h1, h5, h17, h18, h19, dI, ixx, cag, p34, r7, al34, s1, f0p, bk, p9, List.getElem?_cons_zero, lk, um, e1, wrap64, AS, avals, apairs, bareP, AV.bare, AV.bares, Nat.reduceEqDiff, Nat.reduceLT, Nat.reduceAdd, ↓reduceIte, reduceCtorEq, resA, resA1, resVal, Nat.reduceLeDiff, nb_cfg, Nat.reduceBEq, AX, Int.reduceLT, Int.reduceLE, Int.reduceEq, Int.reduceAdd, Int.reduceSub, Int.reduceMul, Int.reduceNeg, Int.reduceNe])
        refine ⟨m, by omega, i + 1, by omega, fe_len, ?_, ?_, ?_, ?_, ?_, ?_, ?_⟩
        case refine_7 =>
          refine putH_lk hmp2 fun s => ?_
          rw [take_snoc hx, plc_snoc hp]
          rw [List.length_take, Nat.min_eq_left (by omega)]
        all_goals (try simp -dsimp (disch := omega) only [h0, h1, h5, h17, h18, h19, AS, avals, apairs, bareP, AV.bare, AV.bares, Nat.reduceEqDiff, Nat.reduceLT, Nat.reduceAdd, ↓reduceIte, reduceCtorEq, resA, resA1, resVal, Nat.reduceLeDiff, nb_cfg, Nat.reduceBEq, AX, Int.reduceLT, Int.reduceLE, Int.reduceEq, Int.reduceAdd, Int.reduceSub, Int.reduceMul, Int.reduceNeg, Int.reduceNe])
    | zero =>
      have dI : decide ((i : Int) < (n : Int)) = false := decide_eq_false (by omega)
      rw [show l.take i = l from List.take_of_length_le (by omega)] at hmp
      have m1 := mk48 (prim := nP) (H := h) (n := n) (by omega)
      obtain ⟨bs, hbs⟩ : ∃ bs, h.blks.length = bs := ⟨_, rfl⟩
      obtain ⟨H1, hH1⟩ : ∃ H1, nbk h ⟨0, 1, List.replicate n (.v (.bool false))⟩ = H1 := ⟨_, rfl⟩
      have hs1 : H1.blks[bs]? = some ⟨0, 1, bools (List.replicate n false)⟩ := by
        rw [← hH1, ← hbs]
        unfold bools
        rw [List.map_replicate]
        exact nbk_new
      have hmp1 : LkM H1 (plc l) := by
        rw [← hH1]
        exact hmp.of rfl
      rw [hH1, hbs] at m1
      have rc := r_clo ⟨H1, F, fr⟩ ⟨hF, hK, by show fr.length < _; omega⟩
      obtain ⟨lv, hlv⟩ : ∃ lv, (⟨H1, F, fr⟩ : Clo).v = lv := ⟨_, rfl⟩
      obtain ⟨H2, hH2⟩ : ∃ H2, (⟨H1, F, fr⟩ : Clo).h' = H2 := ⟨_, rfl⟩
      rw [hlv, hH2] at rc
      simp only at rc
      have hs2 : H2.blks[bs]? = some ⟨0, 1, bools (List.replicate n false)⟩ ∧ LkM H2 (plc l) ∧ ∃ o1, Sv H2 lv fr o1 ∧ o1 ≠ some bs := by
        rw [← hH2, ← hlv]
        cases fr with
        | nil => exact ⟨hs1, hmp1, none, .inl ⟨rfl, ⟨_, rfl⟩, rfl⟩, by simp⟩
        | cons y ys =>
          have hbl := (List.getElem?_eq_some_iff.1 hs1).1
          refine ⟨nbk_old hs1, hmp1.of rfl, some H1.blks.length, .inr ⟨_, 0, [], rfl, rfl, by rw [List.append_nil]; exact nbk_new⟩, ?_⟩
          intro e
          injection e with e
          omega
      obtain ⟨hs2, hmp2, o1, hsv, ho1⟩ := hs2
      (try simp -dsimp (disch := omega) only [h0, h1, h5, h17, h18, h19, dI, lx, m1, ct_own (C := cfgP nP) (f := 20) rfl rfl, rc, AS, avals, apairs, bareP, AV.bare, AV.bares, Nat.reduceEqDiff, Nat.reduceLT, Nat.reduceAdd, ↓reduceIte, reduceCtorEq, resA, resA1, resVal, Nat.reduceLeDiff, nb_cfg, Nat.reduceBEq, AX, Int.reduceLT, Int.reduceLE, Int.reduceEq, Int.reduceAdd, Int.reduceSub, Int.reduceMul, Int.reduceNeg, Int.reduceNe])
      clear m1 rc hH1 hH2 hlv hbs hs1 hmp1 hmp
      obtain ⟨M0, hM0⟩ : ∃ M0, fr.length + bud l [] = M0 := ⟨_, rfl⟩
      have hMb : M0 < 1073741824 := by
        have := bud_le (c := 4096) (out := []) l hN
        omega
      refine wt_loop (m := M0) (fun m e h => ∃ left out lv ov, left.length + bud l out ≤ m ∧ m ≤ M0 ∧ DI l fr left out ∧ W2 X lv ov n bs l left out e h) ?_ ?_
      · clear hn h0 h1 h5 h17 h18 h19 hs2 hmp2 hsv ho1 o1 lv H2 dI him e h i
        rintro m e h ⟨left, out, lv, ov, hm, hmM, D, hn, h0, h5, h10, h11, h12, hmp, ⟨sv, hsb, hsn⟩, o1, o2, S1, S2, hon, d1, d2, d3⟩
        rw [fe_self hn]
        have ll := S1.len (prim := nP)
        have hol := D.sub
        rcases List.eq_nil_or_concat left with rfl | ⟨left, t, rfl⟩
        · have dL : decide ((([] : List Tx).length : Int) > 0) = false := rfl
          have hfin := D.fin
          rw [hfin] at hV
          by_cases ho : out = []
          · have hov := hon ho
            subst hov ho
            have rs := r_sn (H := h)
            (try simp -dsimp (disch := omega) only [h0, h5, h10, h11, h12, ll, dL, ct_own (C := cfgP nP) (f := 21) rfl rfl, rs, AS, avals, apairs, bareP, AV.bare, AV.bares, Nat.reduceEqDiff, Nat.reduceLT, Nat.reduceAdd, ↓reduceIte, reduceCtorEq, resA, resA1, resVal, Nat.reduceLeDiff, nb_cfg, Nat.reduceBEq, AX, Int.reduceLT, Int.reduceLE, Int.reduceEq, Int.reduceAdd, Int.reduceSub, Int.reduceMul, Int.reduceNeg, Int.reduceNe])
            refine ⟨5, ?_⟩
            rw [← hV, show sortT [] = [] from List.length_eq_zero_iff.1 (sortT_len [])]
            rfl
          · rcases S2 with ⟨e, _⟩ | ⟨b, g, r, e, rfl, hb⟩
            · exact absurd e ho
            · have rs := r_sx ⟨h, b, g, out, r⟩ ⟨hb, by show out.length < _; omega⟩
              obtain ⟨H3, hH3⟩ : ∃ H3, (⟨h, b, g, out, r⟩ : Sx).h' = H3 := ⟨_, rfl⟩
              rw [hH3] at rs
              simp only at rs
              have hb3 : H3.blks[b]? = some ⟨g, 1, (sortT out).map str ++ r⟩ := by
                rw [← hH3]
                exact List.getElem?_set_self (List.getElem?_eq_some_iff.1 hb).1
              (try simp -dsimp (disch := omega) only [h0, h5, h10, h11, h12, ll, dL, ct_own (C := cfgP nP) (f := 21) rfl rfl, rs, AS, avals, apairs, bareP, AV.bare, AV.bares, Nat.reduceEqDiff, Nat.reduceLT, Nat.reduceAdd, ↓reduceIte, reduceCtorEq, resA, resA1, resVal, Nat.reduceLeDiff, nb_cfg, Nat.reduceBEq, AX, Int.reduceLT, Int.reduceLE, Int.reduceEq, Int.reduceAdd, Int.reduceSub, Int.reduceMul, Int.reduceNeg, Int.reduceNe])
              have ht := thaw_row hb3
              rw [sortT_len] at ht
              refine ⟨_, ht.trans ?_⟩
              rw [← hV]
              unfold slS
              rw [if_neg]
              intro e
              have := sortT_len out
              rw [e] at this
              exact ho (List.length_eq_zero_iff.1 this.symm)
        · rw [List.concat_eq_append] at *
          obtain ⟨b, g, r, rfl, rfl, hb, S1'⟩ := S1.pop
          rw [List.length_append, List.length_singleton] at ll hm
          have dL : decide (((left.length + 1 : Nat) : Int) > 0) = true := decide_eq_true (by omega)
          have e1 : ((left.length + 1 : Nat) : Int) - 1 = (left.length : Int) := by omega
          have i1 := ix25x (prim := nP) (b := b) (g := g) (k := .i64) (i := left.length) (n := left.length + 1) (by omega)
          have kb := blk_row hb
          have g1 : (left.map str ++ str t :: r)[left.length]? = some (str t) := by
            rw [List.getElem?_append_right (by simp)]
            simp
          have sl := sl25 (prim := nP) (b := b) (g := g) (n := left.length + 1) (m := left.length) (by omega)
          cases hp : plc l t with
          | none =>
            have lk := lk_none (prim := nP) hmp hp (c := true)
            rw [if_pos rfl] at lk
            (try simp -dsimp (disch := omega) only [h0, h5, h10, h11, h12, ll, dL, e1, wrap64, i1, kb, g1, cst, p9, List.getElem?_cons_zero, sl, lk, AS, avals, apairs, bareP, AV.bare, AV.bares, Nat.reduceEqDiff, Nat.reduceLT, Nat.reduceAdd, ↓reduceIte, reduceCtorEq, resA, resA1, resVal, Nat.reduceLeDiff, nb_cfg, Nat.reduceBEq, AX, Int.reduceLT, Int.reduceLE, Int.reduceEq, Int.reduceAdd, Int.reduceSub, Int.reduceMul, Int.reduceNeg, Int.reduceNe])
            refine ⟨m - 1, by omega, left, out, _, ov, by omega, by omega, D.skip (.inr hp), fe_len, ?_, ?_, ?_, ?_, ?_, hmp, ⟨sv, hsb, hsn⟩, _, o2, S1', S2, hon, d1, d2, d3⟩
            all_goals (try simp -dsimp (disch := omega) only [h0, h5, h10, h11, h12, AS, avals, apairs, bareP, AV.bare, AV.bares, Nat.reduceEqDiff, Nat.reduceLT, Nat.reduceAdd, ↓reduceIte, reduceCtorEq, resA, resA1, resVal, Nat.reduceLeDiff, nb_cfg, Nat.reduceBEq, AX, Int.reduceLT, Int.reduceLE, Int.reduceEq, Int.reduceAdd, Int.reduceSub, Int.reduceMul, Int.reduceNeg, Int.reduceNe])
          | some i =>
            have lk := lk_some (prim := nP) hmp hp (c := true)
            rw [if_pos rfl] at lk
            obtain ⟨x, hx, hxt⟩ := plc_some hp
            have hin : i < n := by
              have := (List.getElem?_eq_some_iff.1 hx).1
              omega
            have i2 := ix48 (prim := nP) (b := bs) (k := .i64) hin
            have ks := blk_row hsb
            have g2 := bools_get (hsn.2 t i hp)
            by_cases hto : t ∈ out
            · have hc : out.contains t = true := by simpa using hto
              rw [hc] at g2
              (try simp -dsimp (disch := omega) only [h0, h5, h10, h11, h12, ll, dL, e1, wrap64, i1, kb, g1, cst, cva, p9, p4, List.getElem?_cons_zero, sl, lk, i2, ks, g2, AS, avals, apairs, bareP, AV.bare, AV.bares, Nat.reduceEqDiff, Nat.reduceLT, Nat.reduceAdd, ↓reduceIte, reduceCtorEq, resA, resA1, resVal, Nat.reduceLeDiff, nb_cfg, Nat.reduceBEq, AX, Int.reduceLT, Int.reduceLE, Int.reduceEq, Int.reduceAdd, Int.reduceSub, Int.reduceMul, Int.reduceNeg, Int.reduceNe])
              refine ⟨m - 1, by omega, left, out, _, ov, by omega, by omega, D.skip (.inl hto), fe_len, ?_, ?_, ?_, ?_, ?_, hmp, ⟨sv, hsb, hsn⟩, _, o2, S1', S2, hon, d1, d2, d3⟩
              all_goals (try simp -dsimp (disch := omega) only [h0, h5, h10, h11, h12, AS, avals, apairs, bareP, AV.bare, AV.bares, Nat.reduceEqDiff, Nat.reduceLT, Nat.reduceAdd, ↓reduceIte, reduceCtorEq, resA, resA1, resVal, Nat.reduceLeDiff, nb_cfg, Nat.reduceBEq, AX, Int.reduceLT, Int.reduceLE, Int.reduceEq, Int.reduceAdd, Int.reduceSub, Int.reduceMul, Int.reduceNeg, Int.reduceNe])
            · have hc : out.contains t = false := by simpa using hto
              rw [hc] at g2
              obtain ⟨N, hyi, hNe⟩ := ItsE.get hI hx
              obtain ⟨hNc, hNf⟩ := elems_flat hNe
              have hxm := List.mem_of_getElem? hx
              have ixx := ix22 (prim := nP) (k := .i64) hX hyi
              have st := store_row (C := cfgP nP) (t := 4) (x := .v (.bool true)) hsb rfl rfl c4 g2 (fun cs h => by cases h)
              have hbs := (List.getElem?_eq_some_iff.1 hsb).1
              have eb : (bools sv).set i (.v (.bool true)) = bools (sv.set i true) := by
                unfold bools
                rw [List.map_set]
              rw [eb] at st
              obtain ⟨H1, hH1⟩ : ∃ H1, { h with blks := h.blks.set bs ⟨0, 1, bools (sv.set i true)⟩ } = H1 := ⟨_, rfl⟩
              have hs1 : H1.blks[bs]? = some ⟨0, 1, bools (sv.set i true)⟩ := by
                rw [← hH1]
                exact List.getElem?_set_self hbs
              have hfr : ∀ c, c ≠ bs → H1.blks[c]? = h.blks[c]? := by
                intro c hc
                rw [← hH1]
                exact List.getElem?_set_ne (fun e => hc e.symm)
              have hl1 : H1.blks.length = h.blks.length := by
                rw [← hH1]
                exact List.length_set
              have hmp1 : LkM H1 (plc l) := by
                rw [← hH1]
                exact hmp.of rfl
              rw [hH1] at st
              have T1 : Sv H1 (.ex b g 1 0 left.length) left (some b) := S1'.of fun c hc => hfr c (fun e => d1 (by rw [hc, e]))
              have T2 : Sv H1 ov out o2 := S2.of fun c hc => hfr c (fun e => d2 (by rw [hc, e]))
              obtain ⟨ov', H2, o2', q1, U2, q2, q3, q4, q5⟩ := appB_str (prim := nP) (N := .cl true [str t]) (ys := [t]) T2 rfl (by simp; omega)
              have hs2 : H2.blks[bs]? = some ⟨0, 1, bools (sv.set i true)⟩ := (q2 bs (by rw [hl1]; exact hbs) d2).trans hs1
              have U1 : Sv H2 (.ex b g 1 0 left.length) left (some b) := T1.of fun c hc => q2 c (T1.lt hc) (d3 c hc)
              have hll : left.length ≤ M0 := by omega
              obtain ⟨lv', H3, o1', w1, V1, w2, w3, w4, w5⟩ := appB_str (prim := nP) (ys := x.2) U1 hNe (by have := hN x hxm; omega)
              have ho2' : o2' ≠ some bs := by
                rcases q5 with rfl | ⟨_, rfl⟩
                · exact d2
                · intro e
                  injection e with e
                  omega
              have d3' : (some b : Option Nat) ≠ o2' := by
                rcases q5 with rfl | ⟨_, rfl⟩
                · exact fun e => d3 b rfl e.symm
                · intro e
                  injection e with e
                  have := T1.lt rfl
                  omega
              have hs3 : H3.blks[bs]? = some ⟨0, 1, bools (sv.set i true)⟩ := (w2 bs (by have := (List.getElem?_eq_some_iff.1 hs2).1; exact this) d1).trans hs2
              have V2 : Sv H3 ov' (out ++ [t]) o2' := U2.of fun c hc => w2 c (U2.lt hc) (fun e => d3' (by rw [e, hc]))
              have ho1' : o1' = some b := by
                rcases w5 with e | ⟨e, _⟩
                · exact e
                · cases e
              subst ho1'
              have hmp3 : LkM H3 (plc l) := (hmp1.of q3).of w3
              (try simp -dsimp (disch := omega) only [h0, h5, h10, h11, h12, ll, dL, e1, wrap64, i1, kb, g1, cst, cva, cag, p9, p4, p25, List.getElem?_cons_zero, List.getElem?_cons_succ, sl, lk, i2, ks, g2, st, bare_s, b25, nb77, nb84, appB_t, q1, ixx, f1r, Nat.zero_add, w1, AS, avals, apairs, bareP, AV.bare, AV.bares, Nat.reduceEqDiff, Nat.reduceLT, Nat.reduceAdd, ↓reduceIte, reduceCtorEq, resA, resA1, resVal, Nat.reduceLeDiff, nb_cfg, Nat.reduceBEq, AX, Int.reduceLT, Int.reduceLE, Int.reduceEq, Int.reduceAdd, Int.reduceSub, Int.reduceMul, Int.reduceNeg, Int.reduceNe])
              have hbud := bud_step l hxm (out := out) (by rw [hxt]; exact hto)
              rw [hxt] at hbud
              refine ⟨m - 1, by omega, left ++ x.2, out ++ [t], lv', ov', by rw [List.length_append]; omega, by omega, ?_, fe_len, ?_, ?_, ?_, ?_, ?_, hmp3, ⟨_, hs3, hsn.visit hp⟩, _, o2', V1, V2, by simp, d1, ho2', fun c hc e => d3' (by rw [e, ← hc])⟩
              case refine_1 =>
                have := D.visit hto (by rw [hp]; simp)
                rwa [nds_of hp hx] at this
              all_goals (try simp -dsimp (disch := omega) only [h0, h5, h10, h11, h12, AS, avals, apairs, bareP, AV.bare, AV.bares, Nat.reduceEqDiff, Nat.reduceLT, Nat.reduceAdd, ↓reduceIte, reduceCtorEq, resA, resA1, resVal, Nat.reduceLeDiff, nb_cfg, Nat.reduceBEq, AX, Int.reduceLT, Int.reduceLE, Int.reduceEq, Int.reduceAdd, Int.reduceSub, Int.reduceMul, Int.reduceNeg, Int.reduceNe])
      · refine ⟨fr, [], lv, nilS, by omega, by omega, DI.init, fe_len, ?_, ?_, ?_, ?_, ?_, hmp2, ⟨_, hs2, by rw [List.length_replicate, hn0], fun t i hp => ?_⟩, o1, none, hsv, .inl ⟨rfl, ⟨false, rfl⟩, rfl⟩, fun _ => rfl, ho1, by simp, fun b _ e => by cases e⟩
        case refine_6 =>
          obtain ⟨x, hx, _⟩ := plc_some hp
          have := (List.getElem?_eq_some_iff.1 hx).1
          rw [List.getElem?_replicate, if_pos (by omega)]
          rfl
        all_goals (try simp -dsimp (disch := omega) only [h0, h5, AS, avals, apairs, bareP, AV.bare, AV.bares, Nat.reduceEqDiff, Nat.reduceLT, Nat.reduceAdd, ↓reduceIte, reduceCtorEq, resA, resA1, resVal, Nat.reduceLeDiff, nb_cfg, Nat.reduceBEq, AX, Int.reduceLT, Int.reduceLE, Int.reduceEq, Int.reduceAdd, Int.reduceSub, Int.reduceMul, Int.reduceNeg, Int.reduceNe])
  · refine ⟨0, by omega, fe_len, ?_, ?_, ?_, ?_, ?_, ?_, ?_⟩
    case refine_7 => exact ⟨[], rfl, fun t => rfl⟩
    all_goals (try simp -dsimp (disch := omega) only [h0, h1, AS, avals, apairs, bareP, AV.bare, AV.bares, Nat.reduceEqDiff, Nat.reduceLT, Nat.reduceAdd, ↓reduceIte, reduceCtorEq, resA, resA1, resVal, Nat.reduceLeDiff, nb_cfg, Nat.reduceBEq, AX, Int.reduceLT, Int.reduceLE, Int.reduceEq, Int.reduceAdd, Int.reduceSub, Int.reduceMul, Int.reduceNeg, Int.reduceNe])
    all_goals rfl
end Go.Proofs.Ytcimffpckcbdlaa
