/- Contracts of functions, and plain facts about what they compute. -/
import Derived.Test.YtjejeijldllloaaDoorWa
set_option linter.unusedSimpArgs false
set_option linter.unusedVariables false
/- Chapter 2: members in their order: two that change places, ranges that change places. -/
namespace Go.Proofs.YtjejeijldllloaaDoor
open Go.AM
def s2P (g : List UInt8 → List UInt8 → AV) : List AV → Option AV
  | [x, y] => (dS x).bind fun a => (dS y).map fun b => g a b
  | _ => none
theorem s2P_eq {g : List UInt8 → List UInt8 → AV} {a b : List UInt8} : s2P g [str a, str b] = some (g a b) := by simp only [s2P, dS_str, Option.bind_some, Option.map_some]
theorem s2P_of {g : List UInt8 → List UInt8 → AV} {X : List AV → AV → Prop} (h : ∀ a b : List UInt8, X [str a, str b] (g a b)) : ∀ xs r, s2P g xs = some r → X xs r := by
  intro xs r hx
  match xs, hx with
  | [x, y], hx =>
    obtain ⟨a, ha, hx⟩ := Option.bind_eq_some_iff.1 hx
    obtain ⟨b, hb, rfl⟩ := Option.map_eq_some_iff.1 hx
    rw [dS_iff.1 ha, dS_iff.1 hb]
    exact h a b
def lessQ := s2P fun a b => .v (.bool (bl a b))
theorem lessQ_eq {a b : List UInt8} : lessQ [str a, str b] = some (.v (.bool (bl a b))) := s2P_eq
theorem less_ok (a b : List UInt8) : PureOk (cfgP fun _ => none) 24 [str a, str b] (.v (.bool (bl a b))) := by
  refine pure_of_wk (call := noCall) (fn := Tryd.f24) (rs := [.tmp 4]) cokN noCall_ok (fns_cfg Tryd.func24 rfl) rfl rfl ?_
  intro env hl0 hargs
  have hn : env.length = 8 := hl0
  have h0 := hargs 0 _ rfl
  have h1 := hargs 1 _ rfl
  clear hargs hl0
  refine wkT_of ?_
  rw [fe_self hn]
  simp -dsimp only [fe_get, fe_put, fe_len, upd_app, h0, h1, AS, bin_and, bin_or, bin_xor, avals, apairs, bareP, AV.bare, AV.bares, Nat.reduceEqDiff, Nat.reduceLT, Nat.reduceAdd, ↓reduceIte, reduceCtorEq, resA, resA1, resVal, Nat.reduceLeDiff, nb_cfg, Nat.reduceBEq]
  exact ⟨1, rfl⟩
/-- A member: its key, its other cells. -/
abbrev E := List UInt8 × List AV
def enc (p : E) : AV := .agg (str p.1 :: p.2)
def okE (p : E) : Prop := p.2.length = 5 ∧ AV.bares p.2 = some p.2 ∧ p.2.all AV.flat = true
theorem enc_inj {p q : E} (h : enc p = enc q) : p = q := by
  injection h with h
  injection h with h1 h2
  exact Prod.ext (str_inj h1) h2
theorem enc_cells (p : E) : (enc p).cells = str p.1 :: p.2 := rfl
theorem enc_bare {p : E} (h : okE p) : (enc p).bare = some (enc p) := by
  show (AV.bares (str p.1 :: p.2)).map AV.agg = _
  simp only [AV.bares, bare_s, h.2.1, Option.map_some]
  rfl
theorem enc_flat {p : E} (h : okE p) : (enc p).cells.all AV.flat = true := by
  rw [enc_cells, List.all_cons, h.2.2]; rfl
def cmpK (a b : List UInt8) : Int := if bl a b then -1 else if bl b a then 1 else 0
theorem cmpK_lt (a b : List UInt8) : decide (cmpK a b < 0) = bl a b := by
  unfold cmpK
  cases bl a b with
  | true => rfl
  | false => cases bl b a <;> rfl
noncomputable def w1 : FuncId → Option (List AV → Option AV) := tab [(24, lessQ)]
theorem w1_ok : (cfgP w1).Ok := cfg_ok (tab_ok ⟨prim_at Tryd.func24 (by kernel_rfl) rfl ((s2P_of less_ok)), trivial⟩)
theorem w1_24 : (cfgP w1).prim 24 = some lessQ := rfl
section
variable {prim : FuncId → Option (List AV → Option AV)}
theorem mf0 {x : AV} {j : Nat} : fieldAddrA (cfgP prim) 48 (.rp x j) 0 = some (.rp x (j + 0)) := by kernel_rfl
theorem mp9 {cs : List AV} {j : Nat} : partA (cfgP prim) 9 cs j = cs[j]? := by kernel_rfl
theorem mp48 {cs : List AV} (h : cs.length = 6) : partA (cfgP prim) 48 cs 0 = some (.agg cs) := by
  have h1 : isAggT (cfgP prim) 48 = some true := by kernel_rfl
  have h2 : (cfgP prim).csz 48 = some 6 := by kernel_rfl
  simp only [partA, h1, h2]
  rw [if_pos (by omega), List.drop_zero, ← h, List.take_length]
theorem mp48e {p : E} (h : okE p) : partA (cfgP prim) 48 (enc p).cells 0 = some (enc p) := mp48 (by rw [enc_cells, List.length_cons, h.1])
/-- The place of an element of a block. -/
theorem mix {b i len : Nat} {k : IntKind} (h : i < len) : indexAddrA (cfgP prim) 37 (.ex b 0 6 0 len) (.v (.int k (i : Int))) = some (.ptr b 0 i 0) := by
  have h0 : (0 : Int) ≤ i := by omega
  have hu : (cfgP prim).und 37 = some (.slice 48) := by kernel_rfl
  have hc : (cfgP prim).csz 48 = some 6 := by kernel_rfl
  simp only [indexAddrA, idx, h0, if_true, hu, hc, Int.toNat_natCast, h, and_self, Nat.zero_add]
end
theorem key_ok (p q : E) (hp : okE p) (hq : okE q) : PureOk (cfgP w1) 74 [enc p, enc q] (.v (.int .i64 (cmpK p.1 q.1))) := by
  have r1 : (cfgP w1).roBox 74 2 = true := rfl
  have r2 : (cfgP w1).roBox 74 3 = true := rfl
  have q1 := lessQ_eq (a := p.1) (b := q.1)
  have q2 := lessQ_eq (a := q.1) (b := p.1)
  unfold cmpK
  refine pure_of_wk (call := noCall) (fn := Tryd.f74) (rs := [.tmp 4]) w1_ok noCall_ok (fns_cfg Tryd.func74 rfl) rfl rfl ?_
  intro env hl0 hargs
  have hn : env.length = 17 := hl0
  have h0 := hargs 0 _ rfl
  have h1 := hargs 1 _ rfl
  clear hargs hl0
  refine wkT_of ?_
  rw [fe_self hn]
  (try simp -dsimp (disch := omega) only [h0, h1, r1, r2, bxt_ro (enc_bare hp) (enc_flat hp), bxt_ro (enc_bare hq) (enc_flat hq), mf0, mp9, enc_cells, Nat.zero_add, ct_prim w1_24, bare_s, q1, q2, AS, avals, apairs, bareP, AV.bare, AV.bares, Nat.reduceEqDiff, Nat.reduceLT, Nat.reduceAdd, ↓reduceIte, reduceCtorEq, resA, resA1, resVal, Nat.reduceLeDiff, nb_cfg, Nat.reduceBEq, AX, Int.reduceLT, Int.reduceLE, Int.reduceEq, Int.reduceAdd, Int.reduceSub, Int.reduceMul, Int.reduceNeg, Int.reduceNe]); (try (rw [ct_eq]; refine ⟨fun hc0 => ?_, fun hc0 => ?_⟩ <;> (try simp only [decide_eq_true_eq, decide_eq_false_iff_not, Bool.not_eq_true', Bool.not_eq_false', Bool.and_eq_true, Bool.and_eq_false_iff] at hc0) <;> ((try simp -dsimp (disch := omega) only [h0, h1, r1, r2, bxt_ro (enc_bare hp) (enc_flat hp), bxt_ro (enc_bare hq) (enc_flat hq), mf0, mp9, enc_cells, Nat.zero_add, ct_prim w1_24, bare_s, q1, q2, hc0, AS, avals, apairs, bareP, AV.bare, AV.bares, Nat.reduceEqDiff, Nat.reduceLT, Nat.reduceAdd, ↓reduceIte, reduceCtorEq, resA, resA1, resVal, Nat.reduceLeDiff, nb_cfg, Nat.reduceBEq, AX, Int.reduceLT, Int.reduceLE, Int.reduceEq, Int.reduceAdd, Int.reduceSub, Int.reduceMul, Int.reduceNeg, Int.reduceNe]); (try (rw [ct_eq]; refine ⟨fun hc1 => ?_, fun hc1 => ?_⟩ <;> (try simp only [decide_eq_true_eq, decide_eq_false_iff_not, Bool.not_eq_true', Bool.not_eq_false', Bool.and_eq_true, Bool.and_eq_false_iff] at hc1) <;> ((try simp -dsimp (disch := omega) only [h0, h1, r1, r2, bxt_ro (enc_bare hp) (enc_flat hp), bxt_ro (enc_bare hq) (enc_flat hq), mf0, mp9, enc_cells, Nat.zero_add, ct_prim w1_24, bare_s, q1, q2, hc0, hc1, AS, avals, apairs, bareP, AV.bare, AV.bares, Nat.reduceEqDiff, Nat.reduceLT, Nat.reduceAdd, ↓reduceIte, reduceCtorEq, resA, resA1, resVal, Nat.reduceLeDiff, nb_cfg, Nat.reduceBEq, AX, Int.reduceLT, Int.reduceLE, Int.reduceEq, Int.reduceAdd, Int.reduceSub, Int.reduceMul, Int.reduceNeg, Int.reduceNe]); (try (rw [ct_eq]; refine ⟨fun hc2 => ?_, fun hc2 => ?_⟩ <;> (try simp only [decide_eq_true_eq, decide_eq_false_iff_not, Bool.not_eq_true', Bool.not_eq_false', Bool.and_eq_true, Bool.and_eq_false_iff] at hc2) <;> ((try simp -dsimp (disch := omega) only [h0, h1, r1, r2, bxt_ro (enc_bare hp) (enc_flat hp), bxt_ro (enc_bare hq) (enc_flat hq), mf0, mp9, enc_cells, Nat.zero_add, ct_prim w1_24, bare_s, q1, q2, hc0, hc1, hc2, AS, avals, apairs, bareP, AV.bare, AV.bares, Nat.reduceEqDiff, Nat.reduceLT, Nat.reduceAdd, ↓reduceIte, reduceCtorEq, resA, resA1, resVal, Nat.reduceLeDiff, nb_cfg, Nat.reduceBEq, AX, Int.reduceLT, Int.reduceLE, Int.reduceEq, Int.reduceAdd, Int.reduceSub, Int.reduceMul, Int.reduceNeg, Int.reduceNe]))))))))))
  all_goals exact ⟨1, rfl⟩
noncomputable def keyP := relP (fun p : E × E => okE p.1 ∧ okE p.2) (fun p => [enc p.1, enc p.2]) (fun p => .v (.int .i64 (cmpK p.1.1 p.2.1)))
theorem keyP_eq {p q : E} (hp : okE p) (hq : okE q) : keyP [enc p, enc q] = some (.v (.int .i64 (cmpK p.1 q.1))) :=
  relP_eq (X := fun p : E × E => okE p.1 ∧ okE p.2) (a := fun p => [enc p.1, enc p.2]) (r := fun p => .v (.int .i64 (cmpK p.1.1 p.2.1))) (fun p q _ _ h => by
    injection h with h1 h2
    injection h2 with h2 _
    rw [enc_inj h1, enc_inj h2]) (p, q) ⟨hp, hq⟩
noncomputable def w2 : FuncId → Option (List AV → Option AV) := tab [(74, keyP)]
theorem w2_ok : (cfgP w2).Ok := cfg_ok (tab_ok ⟨prim_at Tryd.func74 (by kernel_rfl) rfl ((relP_ok fun p h => key_ok p.1 p.2 h.1 h.2)), trivial⟩)
theorem w2_74 : (cfgP w2).prim 74 = some keyP := rfl
/-! ### A block of members -/
def okL (xs : List E) : Prop := ∀ p ∈ xs, okE p
theorem okL_append {xs ys : List E} : okL (xs ++ ys) ↔ okL xs ∧ okL ys := by
  constructor
  · intro h
    exact ⟨fun p hp => h p (List.mem_append_left _ hp), fun p hp => h p (List.mem_append_right _ hp)⟩
  · rintro ⟨h1, h2⟩ p hp
    exact (List.mem_append.1 hp).elim (h1 p) (h2 p)
theorem okL_cons {x : E} {xs : List E} : okL (x :: xs) ↔ okE x ∧ okL xs := by
  constructor
  · intro h
    exact ⟨h x (by simp), fun p hp => h p (by simp [hp])⟩
  · rintro ⟨h1, h2⟩ p hp
    rcases List.mem_cons.1 hp with rfl | hp
    · exact h1
    · exact h2 p hp
theorem okL_nil : okL [] := fun _ h => by cases h
def HB (H : Hp) (b : Nat) (xs : List E) : Hp := { H with blks := H.blks.set b ⟨0, 6, xs.map enc⟩ }
theorem HB_at {H : Hp} {b : Nat} {xs : List E} (hb : b < H.blks.length) : (HB H b xs).blks[b]? = some ⟨0, 6, xs.map enc⟩ := by
  unfold HB
  simp [hb]
theorem HB_blk {H : Hp} {b : Nat} {xs : List E} (hb : b < H.blks.length) : blkAt (HB H b xs) b 0 = some ⟨0, 6, xs.map enc⟩ := by
  simp only [blkAt, HB_at hb, if_true]
theorem HB_get {xs : List E} {i : Nat} {p : E} (h : xs[i]? = some p) : (xs.map enc)[i]? = some (enc p) := by rw [List.getElem?_map, h]; rfl
theorem HB_inj {H H' : Hp} {b : Nat} {xs ys : List E} (hb : b < H.blks.length) (hb' : b < H'.blks.length) (h : HB H b xs = HB H' b ys) : xs = ys ∧ ∀ zs, HB H b zs = HB H' b zs := by
  have h1 : (HB H b xs).blks[b]? = (HB H' b ys).blks[b]? := by rw [h]
  rw [HB_at hb, HB_at hb'] at h1
  injection h1 with h1
  injection h1 with _ _ h1
  have hx : ∀ (xs ys : List E), xs.map enc = ys.map enc → xs = ys := by
    intro xs
    induction xs with
    | nil => intro ys h; cases ys with
      | nil => rfl
      | cons y ys => cases h
    | cons x xs ih => intro ys h; cases ys with
      | nil => cases h
      | cons y ys =>
        injection h with h1 h2
        rw [enc_inj h1, ih ys h2]
  refine ⟨hx _ _ h1, fun zs => ?_⟩
  unfold HB at h ⊢
  injection h with h2 h3
  have h4 : (H.blks.set b ⟨0, 6, xs.map enc⟩).set b ⟨0, 6, zs.map enc⟩ = (H'.blks.set b ⟨0, 6, ys.map enc⟩).set b ⟨0, 6, zs.map enc⟩ := by rw [h3]
  rw [List.set_set, List.set_set] at h4
  rw [h2, h4]
section
variable {prim : FuncId → Option (List AV → Option AV)}
theorem HB_store {H : Hp} {b i : Nat} {xs : List E} {p : E} (hb : b < H.blks.length) (hp : okE p) (hx : okL xs) (hi : i < xs.length) : storeA (cfgP prim) 48 b 0 i 0 (enc p) (HB H b xs) = some (HB H b (xs.set i p)) := by
  have hq : okE xs[i] := hx _ (List.getElem_mem hi)
  have h1 : (xs.map enc)[i]? = some (enc xs[i]) := HB_get (List.getElem?_eq_getElem hi)
  have hc : (cfgP prim).csz 48 = some 6 := by kernel_rfl
  have hl : (enc p).cells.length = 6 := by rw [enc_cells, List.length_cons, hp.1]
  have hf : some (enc p).cells.length = (cfgP prim).csz 48 ∧ (enc p).cells.all AV.flat = true := ⟨by rw [hc, hl], enc_flat hp⟩
  have hs : setCells (enc xs[i]) 0 (enc p).cells = some (enc p) := by
    have hql : (str xs[i].1 :: xs[i].2).length = 6 := by rw [List.length_cons, hq.1]
    show (if 0 + (enc p).cells.length ≤ (str xs[i].1 :: xs[i].2).length then some (AV.agg ((str xs[i].1 :: xs[i].2).take 0 ++ (enc p).cells ++ (str xs[i].1 :: xs[i].2).drop (0 + (enc p).cells.length))) else none) = _
    rw [if_pos (by omega), List.take_zero, List.nil_append, List.drop_eq_nil_of_le (by omega), List.append_nil]
    rfl
  simp only [storeA, HB_blk hb, h1]
  rw [if_pos hf, hs]
  simp only [Option.map_some, HB, List.set_set, List.map_set]
end
structure Sw where
  H : Hp
  b : Nat
  P : List E
  U : List E
  M : List E
  V : List E
  Q : List E
def Sw.xs (p : Sw) : List E := p.P ++ p.U ++ p.M ++ p.V ++ p.Q
def Sw.ys (p : Sw) : List E := p.P ++ p.V ++ p.M ++ p.U ++ p.Q
def fkey : AV := .fn (.func 74) [] []
def Sw.a (p : Sw) : List AV := [.ex p.b 0 6 0 p.xs.length, .v (.int .i64 (p.P.length : Int)), .v (.int .i64 ((p.P.length + p.U.length + p.M.length : Nat) : Int)), .v (.int .i64 (p.U.length : Int)), fkey]
def Sw.ok (p : Sw) : Prop := p.b < p.H.blks.length ∧ okL p.xs ∧ p.U.length = p.V.length ∧ p.xs.length < 4611686018427387904
end Go.Proofs.YtjejeijldllloaaDoor

/- Chapter 2: a rotation. -/
namespace Go.Proofs.YtjejeijldllloaaDoor
open Go.AM
theorem Sw.inj {p q : Sw} (hp : p.ok) (hq : q.ok) (ha : p.a = q.a) (hh : HB p.H p.b p.xs = HB q.H q.b q.xs) : HB p.H p.b p.ys = HB q.H q.b q.ys := by
  unfold Sw.a at ha
  injection ha with a1 ha
  injection ha with a2 ha
  injection ha with a3 ha
  injection ha with a4 _
  injection a1 with e1 _ _ _ _
  injection a2 with a2; injection a2 with _ a2
  injection a3 with a3; injection a3 with _ a3
  injection a4 with a4; injection a4 with _ a4
  have n2 : p.P.length = q.P.length := by omega
  have n4 : p.U.length = q.U.length := by omega
  have n3 : p.M.length = q.M.length := by omega
  have n5 : p.V.length = q.V.length := by rw [← hp.2.2.1, ← hq.2.2.1, n4]
  rw [← e1] at hh ⊢
  obtain ⟨hx, hz⟩ := HB_inj hp.1 (by rw [e1]; exact hq.1) hh
  unfold Sw.xs at hx
  obtain ⟨hx, h5⟩ := List.append_inj hx (by simp only [List.length_append]; omega)
  obtain ⟨hx, h4⟩ := List.append_inj hx (by simp only [List.length_append]; omega)
  obtain ⟨hx, h3⟩ := List.append_inj hx (by simp only [List.length_append]; omega)
  obtain ⟨h1, h2⟩ := List.append_inj hx n2
  rw [hz]
  unfold Sw.ys
  rw [h1, h2, h3, h4, h5]
structure Ro where
  H : Hp
  b : Nat
  P : List E
  U : List E
  V : List E
  Q : List E
def Ro.xs (p : Ro) : List E := p.P ++ p.U ++ p.V ++ p.Q
def Ro.ys (p : Ro) : List E := p.P ++ p.V ++ p.U ++ p.Q
def Ro.a (p : Ro) : List AV := [.ex p.b 0 6 0 p.xs.length, .v (.int .i64 (p.P.length : Int)), .v (.int .i64 ((p.P.length + p.U.length : Nat) : Int)), .v (.int .i64 ((p.P.length + p.U.length + p.V.length : Nat) : Int)), fkey]
def Ro.ok (p : Ro) : Prop := p.b < p.H.blks.length ∧ okL p.xs ∧ p.U ≠ [] ∧ p.V ≠ [] ∧ p.xs.length < 4611686018427387904
end Go.Proofs.YtjejeijldllloaaDoor

/- Chapter 2: insertion sort. -/
namespace Go.Proofs.YtjejeijldllloaaDoor
open Go.AM
abbrev sE (xs : List E) : List E := sortK (fun p : E => p.1) xs
structure Is where
  H : Hp
  b : Nat
  P : List E
  S : List E
  Q : List E
def Is.xs (p : Is) : List E := p.P ++ p.S ++ p.Q
def Is.ys (p : Is) : List E := p.P ++ sE p.S ++ p.Q
def Is.a (p : Is) : List AV := [.ex p.b 0 6 0 p.xs.length, .v (.int .i64 (p.P.length : Int)), .v (.int .i64 ((p.P.length + p.S.length : Nat) : Int)), fkey]
def Is.ok (p : Is) : Prop := p.b < p.H.blks.length ∧ okL p.xs ∧ p.xs.length < 4611686018427387904
end Go.Proofs.YtjejeijldllloaaDoor

/- Chapter 2: a merge in place: where the one part is one element. -/
namespace Go.Proofs.YtjejeijldllloaaDoor
open Go.AM
section
variable {prim : FuncId → Option (List AV → Option AV)}
end
structure Sy where
  H : Hp
  b : Nat
  P : List E
  A : List E
  B : List E
  Q : List E
def Sy.xs (p : Sy) : List E := p.P ++ p.A ++ p.B ++ p.Q
def Sy.ys (p : Sy) : List E := p.P ++ sE (p.A ++ p.B) ++ p.Q
def Sy.a (p : Sy) : List AV := [.ex p.b 0 6 0 p.xs.length, .v (.int .i64 (p.P.length : Int)), .v (.int .i64 ((p.P.length + p.A.length : Nat) : Int)), .v (.int .i64 ((p.P.length + p.A.length + p.B.length : Nat) : Int)), fkey]
def Sy.ok (p : Sy) : Prop := p.b < p.H.blks.length ∧ okL p.xs ∧ Srt (fun p : E => p.1) p.A ∧ Srt (fun p : E => p.1) p.B ∧ p.A ≠ [] ∧ p.B ≠ [] ∧ p.xs.length < 1152921504606846976
end Go.Proofs.YtjejeijldllloaaDoor

/- Chapter 2: a merge in place: where the second part is one element. -/
namespace Go.Proofs.YtjejeijldllloaaDoor
open Go.AM
end Go.Proofs.YtjejeijldllloaaDoor

/- Chapter 2: a merge in place. -/
namespace Go.Proofs.YtjejeijldllloaaDoor
open Go.AM
theorem Ro.inj {p q : Ro} (hp : p.ok) (hq : q.ok) (ha : p.a = q.a) (hh : HB p.H p.b p.xs = HB q.H q.b q.xs) : HB p.H p.b p.ys = HB q.H q.b q.ys := by
  unfold Ro.a at ha
  injection ha with a1 ha
  injection ha with a2 ha
  injection ha with a3 ha
  injection ha with a4 _
  injection a1 with e1 _ _ _ _
  injection a2 with a2; injection a2 with _ a2
  injection a3 with a3; injection a3 with _ a3
  injection a4 with a4; injection a4 with _ a4
  rw [← e1] at hh ⊢
  obtain ⟨hx, hz⟩ := HB_inj hp.1 (by rw [e1]; exact hq.1) hh
  unfold Ro.xs at hx
  obtain ⟨hx, h4⟩ := List.append_inj hx (by simp only [List.length_append]; omega)
  obtain ⟨hx, h3⟩ := List.append_inj hx (by simp only [List.length_append]; omega)
  obtain ⟨h1, h2⟩ := List.append_inj hx (by omega)
  rw [hz]
  unfold Ro.ys
  rw [h1, h2, h3, h4]
theorem Sy.inj {p q : Sy} (hp : p.ok) (hq : q.ok) (ha : p.a = q.a) (hh : HB p.H p.b p.xs = HB q.H q.b q.xs) : HB p.H p.b p.ys = HB q.H q.b q.ys := by
  unfold Sy.a at ha
  injection ha with a1 ha
  injection ha with a2 ha
  injection ha with a3 ha
  injection ha with a4 _
  injection a1 with e1 _ _ _ _
  injection a2 with a2; injection a2 with _ a2
  injection a3 with a3; injection a3 with _ a3
  injection a4 with a4; injection a4 with _ a4
  rw [← e1] at hh ⊢
  obtain ⟨hx, hz⟩ := HB_inj hp.1 (by rw [e1]; exact hq.1) hh
  unfold Sy.xs at hx
  obtain ⟨hx, h4⟩ := List.append_inj hx (by simp only [List.length_append]; omega)
  obtain ⟨hx, h3⟩ := List.append_inj hx (by simp only [List.length_append]; omega)
  obtain ⟨h1, h2⟩ := List.append_inj hx (by omega)
  rw [hz]
  unfold Sy.ys
  rw [h1, h2, h3, h4]
end Go.Proofs.YtjejeijldllloaaDoor

/- Chapter 2: a merge in place: the walk of the general case. -/
namespace Go.Proofs.YtjejeijldllloaaDoor
open Go.AM
end Go.Proofs.YtjejeijldllloaaDoor

/- Chapter 2: the stable sort. -/
namespace Go.Proofs.YtjejeijldllloaaDoor
open Go.AM
theorem Is.inj {p q : Is} (hp : p.ok) (hq : q.ok) (ha : p.a = q.a) (hh : HB p.H p.b p.xs = HB q.H q.b q.xs) : HB p.H p.b p.ys = HB q.H q.b q.ys := by
  unfold Is.a at ha
  injection ha with a1 ha
  injection ha with a2 ha
  injection ha with a3 _
  injection a1 with e1 _ _ _ _
  injection a2 with a2; injection a2 with _ a2
  injection a3 with a3; injection a3 with _ a3
  rw [← e1] at hh ⊢
  obtain ⟨hx, hz⟩ := HB_inj hp.1 (by rw [e1]; exact hq.1) hh
  unfold Is.xs at hx
  obtain ⟨hx, h3⟩ := List.append_inj hx (by simp only [List.length_append]; omega)
  obtain ⟨h1, h2⟩ := List.append_inj hx (by omega)
  rw [hz]
  unfold Is.ys
  rw [h1, h2, h3]
/-- Each so many are in their order. -/
inductive Ch (s : Nat) : List E → List E → Prop
  | last (xs : List E) (h : xs.length < s) : Ch s xs (sE xs)
  | more (x r ys : List E) (h : x.length = s) (hr : Ch s r ys) : Ch s (x ++ r) (sE x ++ ys)
theorem Ch.len {s : Nat} {xs ys : List E} (h : Ch s xs ys) : ys.length = xs.length := by
  induction h with
  | last xs h => exact sortK_length xs
  | more x r ys h hr ih => rw [List.length_append, List.length_append, ih]; congr 1; exact sortK_length x
theorem Ch.mem {s : Nat} {xs ys : List E} (h : Ch s xs ys) {q : E} (hq : q ∈ ys) : q ∈ xs := by
  induction h with
  | last xs h => exact sortK_mem.1 hq
  | more x r ys h hr ih =>
    rcases List.mem_append.1 hq with hq | hq
    · exact List.mem_append_left _ (sortK_mem.1 hq)
    · exact List.mem_append_right _ (ih hq)
structure So where
  H : Hp
  b : Nat
  xs : List E
def So.ok (p : So) : Prop := p.b < p.H.blks.length ∧ okL p.xs ∧ p.xs.length < 288230376151711744
end Go.Proofs.YtjejeijldllloaaDoor

/- Chapter 2: SortStableFunc, Clone, Map. -/
namespace Go.Proofs.YtjejeijldllloaaDoor
open Go.AM
theorem So.inj {p q : So} (hp : p.ok) (hq : q.ok) (ha : [AV.ex p.b 0 6 0 p.xs.length, fkey] = [AV.ex q.b 0 6 0 q.xs.length, fkey]) (hh : HB p.H p.b p.xs = HB q.H q.b q.xs) : HB p.H p.b (sE p.xs) = HB q.H q.b (sE q.xs) := by
  injection ha with a1 _
  injection a1 with e1 _ _ _ _
  rw [← e1] at hh ⊢
  obtain ⟨hx, hz⟩ := HB_inj hp.1 (by rw [e1]; exact hq.1) hh
  rw [hz, hx]
section
variable {prim : FuncId → Option (List AV → Option AV)}
theorem len_m {b g es o n : Nat} : lenA (cfgP prim) #[37] [.ex b g es o n] = some (.v (.int .i64 (n : Int))) := len_ex (e := 48) (by kernel_rfl)
end
/-! ### What is copied -/
/-- An empty member. -/
def z6 : AV := .agg [str [], .v (.int .i64 0), .v (.int .i64 0), str [], .v (.slice none 0 0), .v (.slice none 0 0)]
theorem someSl_el {x : AV} {y : AV} {ys : List AV} (h : elems x = some (y :: ys)) : someSl x = true ∧ x.toV = none ∧ nilSl x = false := by
  unfold elems at h
  split at h
  · injection h with h; exact ⟨rfl, rfl, rfl⟩
  · rename_i f xs
    injection h with h
    subst h
    cases f <;> exact ⟨rfl, rfl, rfl⟩
  · injection h with h; exact ⟨rfl, rfl, rfl⟩
  · cases h
  · cases h
section
variable {prim : FuncId → Option (List AV → Option AV)}
theorem eq_nil {x y : Operand} {a : AV} (h1 : someSl a = true) (h2 : a.toV = none) : binA (cfgP prim) .eql 37 x y a (.v (.slice none 0 0)) = some (.v (.bool false)) := by
  have hu : (cfgP prim).und 37 = some (.slice 48) := by kernel_rfl
  have hn : nilEq (cfgP prim) 37 a (.v (.slice none 0 0)) = true := by
    simp only [nilEq, hu, h1, nilSl]
    simp
  unfold binA
  rw [h2]
  simp only [hn, if_true]
theorem clone_app {x : AV} {e : E} {es : List E} {H : Hp} (hx : elems x = some ((e :: es).map enc)) (he : okE e) (hl : (e :: es).length < 288230376151711744) (hb : (e :: es).length * 96 ≤ 140737488355328) : appXA (cfgP prim) #[37, 37] [.cl true [], x] H = some (.ex H.blks.length 0 6 0 (e :: es).length, { H with blks := H.blks ++ [⟨0, 6, (e :: es).map enc⟩] }) := by
  have h0 : ((#[37, 37] : Array TypeId)[0]?).bind (elemT (cfgP prim)) = some 48 := by kernel_rfl
  have h1 : ((#[37, 37] : Array TypeId)[1]?).bind (cfgP prim).und = some (.slice 48) := by kernel_rfl
  have hz : zeroA (cfgP prim) 48 = some z6 := by kernel_rfl
  have hzl : z6.cells.length = 6 := rfl
  have hc : (cfgP prim).csz 48 = some 6 := by kernel_rfl
  have hby : (cfgP prim).byt 48 = some 96 := by kernel_rfl
  have hel : (enc e).cells.length = 5 + 1 := by rw [enc_cells, List.length_cons, he.1]
  have hroom : roomOk (cfgP prim) 48 ((enc e :: es.map enc).length) = true := by
    simp only [roomOk, hby, Bool.and_eq_true, decide_eq_true_eq]
    simp only [List.length_cons, List.length_map] at hl hb ⊢
    omega
  rw [List.map_cons] at hx
  simp only [appXA, h0, h1, hz, hc, hzl, if_true, appendX, hx, List.map_cons]
  rw [if_pos ⟨hel, hroom⟩]
  simp
end
theorem clone_ok (x : AV) (e : E) (es : List E) (H : Hp) (hx : elems x = some ((e :: es).map enc)) (ho : okL (e :: es)) (hl : (e :: es).length < 4294967296) : CallOk (cfgP w2) 72 [x] H (.ex H.blks.length 0 6 0 (e :: es).length) { H with blks := H.blks ++ [⟨0, 6, (e :: es).map enc⟩] } := by
  obtain ⟨s1, s2, _⟩ := someSl_el hx
  have c := clone_app (prim := w2) (H := H) hx (ho e (by simp)) (by omega) (by omega)
  have nb : nbD 72 (some 7) = true := rfl
  have bs : buildSliceA (cfgP w2) 37 0 [] = some (.cl true []) := by kernel_rfl
  obtain ⟨n, hn0⟩ : ∃ n, (e :: es).length = n := ⟨_, rfl⟩
  obtain ⟨l, hl0⟩ : ∃ l, (e :: es).map enc = l := ⟨_, rfl⟩
  rw [hn0, hl0] at c ⊢
  refine call_of_wk (call := noCall) (fn := Tryd.f72) (rs := [.tmp 2]) w2_ok noCall_ok (fns_cfg Tryd.func72 rfl) rfl rfl ?_
  intro env hl0 hargs
  have hn : env.length = 8 := hl0
  have h0 := hargs 0 _ rfl
  clear hargs hl0
  refine wkT_of ?_
  rw [fe_self hn]
  (try simp -dsimp (disch := omega) only [h0, eq_nil s1 s2, bs, nb, BEq.rfl, appB_t, c, AS, avals, apairs, bareP, AV.bare, AV.bares, Nat.reduceEqDiff, Nat.reduceLT, Nat.reduceAdd, ↓reduceIte, reduceCtorEq, resA, resA1, resVal, Nat.reduceLeDiff, nb_cfg, Nat.reduceBEq, AX, Int.reduceLT, Int.reduceLE, Int.reduceEq, Int.reduceAdd, Int.reduceSub, Int.reduceMul, Int.reduceNeg, Int.reduceNe])
end Go.Proofs.YtjejeijldllloaaDoor

/- Chapter 2: Map. -/
namespace Go.Proofs.YtjejeijldllloaaDoor
open Go.AM
theorem encs_inj : ∀ {xs ys : List E}, xs.map enc = ys.map enc → xs = ys
  | [], [], _ => rfl
  | [], _ :: _, h => by cases h
  | _ :: _, [], h => by cases h
  | x :: xs, y :: ys, h => by
    injection h with h1 h2
    rw [enc_inj h1, encs_inj h2]
structure Cl where
  H : Hp
  x : AV
  e : E
  es : List E
def Cl.ok (p : Cl) : Prop := elems p.x = some ((p.e :: p.es).map enc) ∧ okL (p.e :: p.es) ∧ (p.e :: p.es).length < 4294967296
noncomputable def clT := relT 72 Cl.ok (fun p => [p.x]) (fun p => p.H) (fun p => .ex p.H.blks.length 0 6 0 (p.e :: p.es).length) (fun p => { p.H with blks := p.H.blks ++ [⟨0, 6, (p.e :: p.es).map enc⟩] })
theorem clT_ok : CallsOk (cfgP w2) clT := relT_ok (fns_cfg Tryd.func72 rfl) rfl fun p h => clone_ok p.x p.e p.es p.H h.1 h.2.1 h.2.2
theorem clT_eq (p : Cl) (hp : p.ok) : clT 72 [p.x] p.H = some (.ex p.H.blks.length 0 6 0 (p.e :: p.es).length, { p.H with blks := p.H.blks ++ [⟨0, 6, (p.e :: p.es).map enc⟩] }) :=
  relT_eq (f0 := 72) (X := Cl.ok) (a := fun p => [p.x]) (h := fun p => p.H) (r := fun p => .ex p.H.blks.length 0 6 0 (p.e :: p.es).length) (h' := fun p => { p.H with blks := p.H.blks ++ [⟨0, 6, (p.e :: p.es).map enc⟩] }) (fun p q hp hq ha hh => by
    have h1 : p.x = q.x := by injection ha
    have h2 : (p.e :: p.es).map enc = (q.e :: q.es).map enc := by
      have := hp.1
      rw [h1, hq.1] at this
      exact (Option.some.inj this).symm
    have h3 := encs_inj h2
    have hh' : p.H = q.H := hh
    rw [h3, hh']
    exact ⟨rfl, rfl⟩) p hp
/-! ### Of nothing -/
/-- Nothing: nil, or a literal without elements. -/
def nilm (b : Bool) : AV := if b then .cl true [] else .v (.slice none 0 0)
theorem nilm_len {prim : FuncId → Option (List AV → Option AV)} (b : Bool) : lenA (cfgP prim) #[37] [nilm b] = some (.v (.int .i64 0)) := by cases b <;> kernel_rfl
/-- A slice that is nil, or surely not. -/
def slK (x : AV) : Prop := x = .v (.slice none 0 0) ∨ (someSl x = true ∧ x.toV = none)
section
variable {prim : FuncId → Option (List AV → Option AV)}
theorem eq_nn {x y : Operand} : binA (cfgP prim) .eql 37 x y (.v (.slice none 0 0)) (.v (.slice none 0 0)) = some (.v (.bool true)) := by kernel_rfl
theorem clone_app0 {x : AV} {H : Hp} (hx : elems x = some []) : appXA (cfgP prim) #[37, 37] [.cl true [], x] H = some (.cl true [], H) := by
  have h0 : ((#[37, 37] : Array TypeId)[0]?).bind (elemT (cfgP prim)) = some 48 := by kernel_rfl
  have h1 : ((#[37, 37] : Array TypeId)[1]?).bind (cfgP prim).und = some (.slice 48) := by kernel_rfl
  have hz : zeroA (cfgP prim) 48 = some z6 := by kernel_rfl
  have hzl : z6.cells.length = 6 := rfl
  have hc : (cfgP prim).csz 48 = some 6 := by kernel_rfl
  simp only [appXA, h0, h1, hz, hc, hzl, if_true, appendX, hx]
end
theorem clone0_ok (x : AV) (H : Hp) (hx : elems x = some []) (hk : slK x) : CallOk (cfgP w2) 72 [x] H (nilm (someSl x)) H := by
  have nb : nbD 72 (some 7) = true := rfl
  have bs : buildSliceA (cfgP w2) 37 0 [] = some (.cl true []) := by kernel_rfl
  rcases hk with rfl | ⟨k1, k2⟩
  · show CallOk _ _ _ _ (.v (.slice none 0 0)) _
    refine call_of_wk (call := noCall) (fn := Tryd.f72) (rs := [.tmp 2]) w2_ok noCall_ok (fns_cfg Tryd.func72 rfl) rfl rfl ?_
    intro env hl0 hargs
    have hn : env.length = 8 := hl0
    have h0 := hargs 0 _ rfl
    clear hargs hl0
    refine wkT_of ?_
    rw [fe_self hn]
    (try simp -dsimp (disch := omega) only [h0, eq_nn, AS, avals, apairs, bareP, AV.bare, AV.bares, Nat.reduceEqDiff, Nat.reduceLT, Nat.reduceAdd, ↓reduceIte, reduceCtorEq, resA, resA1, resVal, Nat.reduceLeDiff, nb_cfg, Nat.reduceBEq, AX, Int.reduceLT, Int.reduceLE, Int.reduceEq, Int.reduceAdd, Int.reduceSub, Int.reduceMul, Int.reduceNeg, Int.reduceNe])
  · rw [k1]
    show CallOk _ _ _ _ (.cl true []) _
    have c := clone_app0 (prim := w2) (H := H) hx
    refine call_of_wk (call := noCall) (fn := Tryd.f72) (rs := [.tmp 2]) w2_ok noCall_ok (fns_cfg Tryd.func72 rfl) rfl rfl ?_
    intro env hl0 hargs
    have hn : env.length = 8 := hl0
    have h0 := hargs 0 _ rfl
    clear hargs hl0
    refine wkT_of ?_
    rw [fe_self hn]
    (try simp -dsimp (disch := omega) only [h0, eq_nil k1 k2, bs, nb, BEq.rfl, appB_t, c, AS, avals, apairs, bareP, AV.bare, AV.bares, Nat.reduceEqDiff, Nat.reduceLT, Nat.reduceAdd, ↓reduceIte, reduceCtorEq, resA, resA1, resVal, Nat.reduceLeDiff, nb_cfg, Nat.reduceBEq, AX, Int.reduceLT, Int.reduceLE, Int.reduceEq, Int.reduceAdd, Int.reduceSub, Int.reduceMul, Int.reduceNeg, Int.reduceNe])
noncomputable def c0T := relT 72 (fun p : AV × Hp => elems p.1 = some [] ∧ slK p.1) (fun p => [p.1]) (fun p => p.2) (fun p => nilm (someSl p.1)) (fun p => p.2)
theorem c0T_ok : CallsOk (cfgP w2) c0T := relT_ok (fns_cfg Tryd.func72 rfl) rfl fun p h => clone0_ok p.1 p.2 h.1 h.2
theorem c0T_eq {x : AV} {H : Hp} (hx : elems x = some []) (hk : slK x) : c0T 72 [x] H = some (nilm (someSl x), H) :=
  relT_eq (f0 := 72) (X := fun p : AV × Hp => elems p.1 = some [] ∧ slK p.1) (a := fun p => [p.1]) (h := fun p => p.2) (r := fun p => nilm (someSl p.1)) (h' := fun p => p.2) (fun p q _ _ ha h => by
    injection ha with ha
    rw [ha]
    exact ⟨rfl, h⟩) (x, H) ⟨hx, hk⟩
/-- Of one key the last one. -/
def dedup : List E → List E
  | [] => []
  | [x] => [x]
  | x :: y :: r => if x.1 = y.1 then dedup (y :: r) else x :: dedup (y :: r)
/-- The members of a map. -/
def mapL (xs : List E) : List E := dedup (sE xs)
/-- Members as they are handed back. -/
def msl : List E → AV
  | [] => .v (.slice none 0 0)
  | x :: xs => .ro ((x :: xs).map enc)
def mapV (ys : List E) : AV := .agg [.v (.int .i64 5), .v (.int .i64 0), str [], .v (.slice none 0 0), msl ys]
end Go.Proofs.YtjejeijldllloaaDoor

/- Chapter 2: Map: its walk. -/
namespace Go.Proofs.YtjejeijldllloaaDoor
open Go.AM
/-- An empty value. -/
def z5 : AV := .agg [.v (.int .i64 0), .v (.int .i64 0), str [], .v (.slice none 0 0), .v (.slice none 0 0)]
section
variable {prim : FuncId → Option (List AV → Option AV)}
theorem mf0p {b g i j : Nat} : fieldAddrA (cfgP prim) 48 (.ptr b g i j) 0 = some (.ptr b g i (j + 0)) := by kernel_rfl
theorem mH_new : allocA (cfgP prim) 39 false {} = some (.ptr 0 0 0 0, { toks := [], blks := [⟨0, 5, [z5]⟩] }, 2) := by kernel_rfl
theorem enc_sized (l : List E) (h : okL l) : sized 6 (l.map enc) := fun x hx => by
  obtain ⟨c, hc, rfl⟩ := List.mem_map.1 hx
  rw [enc_cells, List.length_cons, (h c hc).1]
theorem mp48c {p : E} (h : okE p) : partA (cfgP prim) 48 (str p.1 :: p.2) 0 = some (enc p) := mp48e h
theorem bsM {y : E} (h : okE y) : buildSliceA (cfgP prim) 37 1 [(0, enc y)] = some (.cl true [enc y]) := by
  obtain ⟨k, r⟩ := y
  obtain ⟨h1, h2, h3⟩ := h
  match r, h1, h3 with
  | [a, b, c, d, e], _, h3 =>
    have he : elemT (cfgP prim) 37 = some 48 := by kernel_rfl
    have hc : (cfgP prim).csz 48 = some 6 := by kernel_rfl
    have ha : isAggT (cfgP prim) 48 = some true := by kernel_rfl
    have hz : zeroA (cfgP prim) 48 = some z6 := by kernel_rfl
    have hf : (str k :: [a, b, c, d, e]).all AV.flat = true := by rw [List.all_cons, h3]; rfl
    simp only [buildSliceA, he, hc, ha, hz]
    rw [if_pos ⟨by decide, rfl, by decide, rfl⟩]
    have hfill : fillA (fun i => some (i * 6, 6)) ((List.replicate 1 z6.cells).flatten) [(0, enc (k, [a, b, c, d, e]))] = some [str k, a, b, c, d, e] := by
      show (if (AV.agg (str k :: [a, b, c, d, e])).cells.length = 6 ∧ 0 * 6 + 6 ≤ ((List.replicate 1 z6.cells).flatten).length ∧ (AV.agg (str k :: [a, b, c, d, e])).cells.all AV.flat = true then _ else none) = _
      rw [if_pos ⟨rfl, by decide, hf⟩]
      rfl
    rw [hfill]
    rfl
end
/-- The heap at the end. -/
def mHv (v : AV) (tk : List (Nat × TypeId)) (r : List Blk) : Hp := { toks := tk, blks := ⟨0, 5, [v]⟩ :: r }
def vCells (M : AV) : AV := .agg [.v (.int .i64 5), .v (.int .i64 0), str [], .v (.slice none 0 0), M]
theorem gsl_one (l : List AV) : (gsl l).cells = [gsl l] ∧ (gsl l).flat = true := by cases l <;> exact ⟨rfl, rfl⟩
section
variable {prim : FuncId → Option (List AV → Option AV)}
theorem bV {l : List AV} : buildA (cfgP prim) 39 [(0, .v (.int .i64 5)), (4, gsl l)] = some (vCells (gsl l)) := by
  cases l with
  | nil => kernel_rfl
  | cons x xs => kernel_rfl
theorem mHv_store {l : List AV} {tk : List (Nat × TypeId)} {r : List Blk} : storeA (cfgP prim) 39 0 0 0 0 (vCells (gsl l)) (mHv z5 tk r) = some (mHv (vCells (gsl l)) tk r) := by
  have hc : (cfgP prim).csz 39 = some 5 := by kernel_rfl
  have := store_all (C := cfgP prim) (t := 39) (b := 0) (n := 5) (x := [.v (.int .i64 5), .v (.int .i64 0), str [], .v (.slice none 0 0), gsl l]) (y := [.v (.int .i64 0), .v (.int .i64 0), str [], .v (.slice none 0 0), .v (.slice none 0 0)]) (H := mHv z5 tk r) rfl (by rw [hc]; rfl) rfl (by simp only [List.all_cons, (gsl_one l).2]; rfl)
  rw [show vCells (gsl l) = .agg [.v (.int .i64 5), .v (.int .i64 0), str [], .v (.slice none 0 0), gsl l] from rfl, this]
  rfl
theorem mHv_blk {v : AV} {tk : List (Nat × TypeId)} {r : List Blk} : blkAt (mHv v tk r) 0 0 = some ⟨0, 5, [v]⟩ := rfl
theorem pV {M : AV} : partA (cfgP prim) 39 (vCells M).cells 0 = some (vCells M) := by
  have h1 : isAggT (cfgP prim) 39 = some true := by kernel_rfl
  have h2 : (cfgP prim).csz 39 = some 5 := by kernel_rfl
  simp only [partA, h1, h2]
  rfl
theorem mH_new' : allocA (cfgP prim) 39 false {} = some (.ptr 0 0 0 0, mHv z5 [] [], 2) := mH_new
end
theorem mapV_thaw (H : Hp) (out : List E) : AV.thaw H 9 (vCells (gsl (out.map enc))) = some (mapV out) := by cases out <;> rfl
end Go.Proofs.YtjejeijldllloaaDoor
