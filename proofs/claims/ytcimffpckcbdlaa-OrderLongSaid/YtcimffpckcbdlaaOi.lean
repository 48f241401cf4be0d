/- Contracts of functions, and plain facts about what they compute. -/
import Derived.Test.YtcimffpckcbdlaaOh
set_option linter.unusedSimpArgs false
set_option linter.unusedVariables false
/- Chapter 22: a row of items, each of which needs the one ahead. No program in sight. -/
namespace Go.Proofs.Ytcimffpckcbdlaa
open Go.AM
def dg (n : Nat) : UInt8 := UInt8.ofNat (48 + n % 10)
theorem dg_nat (n : Nat) : (dg n).toNat = 48 + n % 10 := by
  unfold dg
  rw [UInt8.toNat_ofNat']
  omega
theorem dg_lt {m n : Nat} : dg m < dg n ↔ m % 10 < n % 10 := by
  rw [UInt8.lt_iff_toNat_lt, dg_nat, dg_nat]
  omega
theorem dg_eq {m n : Nat} : dg m = dg n ↔ m % 10 = n % 10 := by
  rw [← UInt8.toNat_inj, dg_nat, dg_nat]
  omega
/-- Four digits. -/
def nm (i : Nat) : Tx := [dg (i / 1000), dg (i / 100), dg (i / 10), dg i]
theorem nm_lt {i j : Nat} (h : i < j) (hj : j < 10000) : bl (nm i) (nm j) = true := by
  unfold nm
  simp only [bl_cons, bl_nil, Bool.or_eq_true, Bool.and_eq_true, decide_eq_true_eq, beq_iff_eq, dg_lt, dg_eq, Bool.false_eq_true, and_false, or_false]
  have e1 : i = 1000 * (i / 1000 % 10) + 100 * (i / 100 % 10) + 10 * (i / 10 % 10) + i % 10 := by omega
  have e2 : j = 1000 * (j / 1000 % 10) + 100 * (j / 100 % 10) + 10 * (j / 10 % 10) + j % 10 := by omega
  have b1 : ∀ n, n % 10 < 10 := fun n => Nat.mod_lt _ (by decide)
  have c1 := b1 (i / 100)
  have c2 := b1 (i / 10)
  have c3 := b1 i
  have c4 := b1 (j / 100)
  have c5 := b1 (j / 10)
  have c6 := b1 j
  generalize i / 1000 % 10 = a1 at *
  generalize i / 100 % 10 = a2 at *
  generalize i / 10 % 10 = a3 at *
  generalize i % 10 = a4 at *
  generalize j / 1000 % 10 = d1 at *
  generalize j / 100 % 10 = d2 at *
  generalize j / 10 % 10 = d3 at *
  generalize j % 10 = d4 at *
  omega
theorem nm_inj {i j : Nat} (hi : i < 10000) (hj : j < 10000) (h : nm i = nm j) : i = j := by
  rcases Nat.lt_trichotomy i j with h1 | h1 | h1
  · have := nm_lt h1 hj
    rw [h, bl_irrefl] at this
    cases this
  · exact h1
  · have := nm_lt h1 hi
    rw [h, bl_irrefl] at this
    cases this
def nms (k : Nat) : List Tx := (List.range k).map nm
def chI (i : Nat) : It := (nm i, match i with
  | 0 => []
  | j + 1 => [nm j])
def chL (k : Nat) : List It := (List.range k).map chI
theorem nms_len {k : Nat} : (nms k).length = k := by simp [nms]
theorem chL_len {k : Nat} : (chL k).length = k := by simp [chL]
theorem nms_get {k i : Nat} (h : i < k) : (nms k)[i]? = some (nm i) := by simp [nms, h]
theorem mem_nms {k : Nat} {t : Tx} : t ∈ nms k ↔ ∃ i, i < k ∧ nm i = t := by simp [nms]
theorem mem_chL {k : Nat} {x : It} : x ∈ chL k ↔ ∃ i, i < k ∧ chI i = x := by simp [chL]
theorem ids_chL {k : Nat} : ids (chL k) = nms k := by
  unfold ids chL nms
  rw [List.map_map]
  rfl
theorem nms_snoc {k : Nat} : nms (k + 1) = nms k ++ [nm k] := by
  unfold nms
  rw [List.range_succ, List.map_append]
  rfl
theorem nms_asc {k : Nat} (hk : k ≤ 10000) : Asc (nms k) := by
  unfold Asc
  rw [List.pairwise_iff_getElem]
  intro i j hi hj hij
  rw [nms_len] at hi hj
  have h1 := nms_get hi
  have h2 := nms_get hj
  rw [List.getElem?_eq_getElem (by rw [nms_len]; exact hi)] at h1
  rw [List.getElem?_eq_getElem (by rw [nms_len]; exact hj)] at h2
  injection h1 with h1
  injection h2 with h2
  rw [h1, h2]
  exact nm_lt hij (by omega)
theorem nm_mem {k i : Nat} (hk : k ≤ 10000) (hi : i < 10000) : nm i ∈ nms k ↔ i < k := by
  rw [mem_nms]
  constructor
  · rintro ⟨j, hj, e⟩
    rw [← nm_inj (by omega) hi e]
    exact hj
  · exact fun h => ⟨i, h, rfl⟩
theorem ch_step {k q : Nat} (hk : k ≤ 10000) (hq : q < k) : stepS (chL k) (nms q) = some (nm q) := by
  rw [stepS_some]
  refine ⟨⟨chI q, mem_chL.2 ⟨q, hq, rfl⟩, rfl, ?_⟩, ?_⟩
  · unfold rdyB
    rw [Bool.and_eq_true]
    constructor
    · have : nm q ∉ nms q := by
        rw [nm_mem (by omega) (by omega)]
        omega
      simpa [chI] using this
    · cases q with
      | zero => rfl
      | succ j =>
        have : nm j ∈ nms (j + 1) := (nm_mem (by omega) (by omega)).2 (by omega)
        simpa [chI] using this
  · intro x hx hr
    obtain ⟨i, hi, rfl⟩ := mem_chL.1 hx
    unfold rdyB at hr
    rw [Bool.and_eq_true] at hr
    have h1 : nm i ∉ nms q := by simpa [chI] using hr.1
    rw [nm_mem (by omega) (by omega)] at h1
    have h2 : i ≤ q := by
      cases i with
      | zero => omega
      | succ j =>
        have h2 : nm j ∈ nms q := by simpa [chI] using hr.2
        rw [nm_mem (by omega) (by omega)] at h2
        omega
    have : i = q := by omega
    rw [this]
    exact bl_irrefl _
theorem ch_run {k : Nat} (hk : k ≤ 10000) : ∀ m q, q + m = k → runS (chL k) m (nms q) = nms k
  | 0, q, h => by
    have : q = k := by omega
    rw [this]
    rfl
  | m + 1, q, h => by
    unfold runS
    rw [ch_step hk (by omega)]
    show runS (chL k) m (nms q ++ [nm q]) = nms k
    rw [← nms_snoc]
    exact ch_run hk m (q + 1) (by omega)
theorem ch_all {k : Nat} (hk : k ≤ 10000) : allS (chL k) = (nms k, 0) := by
  unfold allS
  have h1 : (ids (chL k)).Nodup := by
    rw [ids_chL]
    exact (nms_asc hk).nodup
  have h2 : ((chL k).all fun x => x.2.all (ids (chL k)).contains) = true := by
    rw [ids_chL, List.all_eq_true]
    intro x hx
    obtain ⟨i, hi, rfl⟩ := mem_chL.1 hx
    rw [List.all_eq_true]
    intro t ht
    cases i with
    | zero => cases ht
    | succ j =>
      have : t = nm j := by simpa [chI] using ht
      rw [this, List.contains_iff_mem]
      exact (nm_mem hk (by omega)).2 (by omega)
  have h3 : runS (chL k) (chL k).length [] = nms k := by
    rw [chL_len]
    exact ch_run hk k 0 (by omega)
  rw [if_pos h1, if_pos h2, h3, if_neg (by rw [nms_len, chL_len]; omega)]
theorem ch_reach {k : Nat} (hk : k ≤ 10000) (hk0 : 0 < k) {l : List It} (hp : l.Perm (chL k)) : reachL l [nm (k - 1)] = nms k := by
  have hid : ∀ t, plc l t ≠ none ↔ t ∈ nms k := by
    intro t
    rw [Ne, plc_none, Decidable.not_not, ← ids_chL]
    exact (hp.map Prod.fst).mem_iff
  have hnd : ∀ j, j + 1 < k → nm j ∈ nds l (nm (j + 1)) := by
    intro j hj
    have h1 := (hid (nm (j + 1))).2 ((nm_mem hk (by omega)).2 hj)
    obtain ⟨p, hp'⟩ : ∃ p, plc l (nm (j + 1)) = some p := Option.ne_none_iff_exists'.1 h1
    obtain ⟨x, hx, hxt⟩ := plc_some hp'
    obtain ⟨i, hi, rfl⟩ := mem_chL.1 (hp.mem_iff.1 (List.mem_of_getElem? hx))
    have : i = j + 1 := nm_inj (by omega) (by omega) hxt
    subst this
    rw [nds_of hp' hx]
    simp [chI]
  refine reachL_eq (nms_asc hk) fun t => ?_
  constructor
  · intro ht
    refine ⟨?_, (hid t).2 ht⟩
    obtain ⟨i, hi, rfl⟩ := mem_nms.1 ht
    have : ∀ m i, i + m + 1 = k → Dem l [nm (k - 1)] (nm i) := by
      intro m
      induction m with
      | zero =>
        intro i h
        have : i = k - 1 := by omega
        rw [this]
        exact .base (by simp)
      | succ m ih =>
        intro i h
        exact .step (ih (i + 1) (by omega)) (hnd i (by omega))
    exact this (k - 1 - i) i (by omega)
  · rintro ⟨_, h⟩
    exact (hid t).1 h
end Go.Proofs.Ytcimffpckcbdlaa

/- Chapter 22: the law's names of four digits. -/
namespace Go.Proofs.Ytcimffpckcbdlaa
open Go.AM
section
variable {prim : FuncId → Option (List AV → Option AV)}
theorem quoN {k i : Nat} (hk : 0 < k) (hi : i < 1073741824) {x y : Operand} : binA (cfgP prim) .quo 3 x y (.v (.int .i64 (i : Int))) (.v (.int .i64 (k : Int))) = some (.v (.int .i64 ((i / k : Nat) : Int))) := by
  have h1 : i / k ≤ i := Nat.div_le_self i k
  rw [bin_quo (by omega)]
  have e : ((i : Int).tdiv (k : Int)) = ((i / k : Nat) : Int) := by
    rw [Int.tdiv_eq_ediv_of_nonneg (by omega)]
    simp
  rw [e]
  clear e
  generalize i / k = q at *
  rw [wrap64 (by omega) (by omega)]
theorem remN {k i : Nat} (hk : 0 < k) {x y : Operand} : binA (cfgP prim) .rem 3 x y (.v (.int .i64 (i : Int))) (.v (.int .i64 (k : Int))) = some (.v (.int .i64 ((i % k : Nat) : Int))) := by
  rw [bin_rem (by omega)]
  have e : ((i : Int).tmod (k : Int)) = ((i % k : Nat) : Int) := by
    rw [Int.tmod_eq_emod_of_nonneg (by omega)]
    simp
  rw [e]
theorem cv8 {i : Nat} : convA (cfgP prim) 3 5 (.v (.int .i64 ((i % 10 : Nat) : Int))) = some (.v (.int .u8 ((i % 10 : Nat) : Int))) := by
  rw [conv_int (k' := .u8) (j := .i64) (by kernel_rfl) (by kernel_rfl) (by kernel_rfl) (by kernel_rfl), wrap8 (by omega) (by omega)]
theorem add8 {i : Nat} {x y : Operand} : binA (cfgP prim) .add 5 x y (.v (.int .u8 48)) (.v (.int .u8 ((i % 10 : Nat) : Int))) = some (byt (dg i)) := by
  rw [bin_add, wrap8 (by omega) (by omega)]
  unfold byt
  rw [dg_nat]
  rfl
theorem bs53 {a b c d : UInt8} : buildSliceA (cfgP prim) 53 4 [(0, byt a), (1, byt b), (2, byt c), (3, byt d)] = some (.cl true [byt a, byt b, byt c, byt d]) := by kernel_rfl
theorem cv53 {a b c d : UInt8} : convA (cfgP prim) 53 9 (.cl true [byt a, byt b, byt c, byt d]) = some (str [a, b, c, d]) := conv_str (e := 5) (by kernel_rfl) (by kernel_rfl) (by kernel_rfl) rfl
theorem bare_b (c : UInt8) : AV.bare (byt c) = some (byt c) := rfl
end
theorem name_ok (i : Nat) (hi : i < 10000) : PureOk (cfgP nP) 15 [.v (.int .i64 (i : Int))] (str (nm i)) := by
  have q1 : ∀ {x y : Operand}, binA (cfgP nP) .quo 3 x y (.v (.int .i64 (i : Int))) (.v (.int .i64 1000)) = some (.v (.int .i64 ((i / 1000 : Nat) : Int))) := fun {x y} => quoN (k := 1000) (by omega) (by omega)
  have q2 : ∀ {x y : Operand}, binA (cfgP nP) .quo 3 x y (.v (.int .i64 (i : Int))) (.v (.int .i64 100)) = some (.v (.int .i64 ((i / 100 : Nat) : Int))) := fun {x y} => quoN (k := 100) (by omega) (by omega)
  have q3 : ∀ {x y : Operand}, binA (cfgP nP) .quo 3 x y (.v (.int .i64 (i : Int))) (.v (.int .i64 10)) = some (.v (.int .i64 ((i / 10 : Nat) : Int))) := fun {x y} => quoN (k := 10) (by omega) (by omega)
  have r : ∀ (n : Nat) {x y : Operand}, binA (cfgP nP) .rem 3 x y (.v (.int .i64 (n : Int))) (.v (.int .i64 10)) = some (.v (.int .i64 ((n % 10 : Nat) : Int))) := fun n {x y} => remN (k := 10) (by omega)
  have nb : ∀ d, nbOf (cfgP nP) 15 d = false := fun d => nb_cfg (by rfl)
  obtain ⟨a, ha⟩ : ∃ a, i / 1000 = a := ⟨_, rfl⟩
  obtain ⟨b, hb⟩ : ∃ b, i / 100 = b := ⟨_, rfl⟩
  obtain ⟨c, hc⟩ : ∃ c, i / 10 = c := ⟨_, rfl⟩
  unfold nm
  rw [ha] at q1 ⊢
  rw [hb] at q2 ⊢
  rw [hc] at q3 ⊢
  have ra := @r a
  have rb := @r b
  have rc := @r c
  have rd := @r i
  clear r
  have ca := cv8 (prim := nP) (i := a)
  have cb := cv8 (prim := nP) (i := b)
  have cc := cv8 (prim := nP) (i := c)
  have cd := cv8 (prim := nP) (i := i)
  have aa := @add8 nP a
  have ab := @add8 nP b
  have ac := @add8 nP c
  have ad := @add8 nP i
  obtain ⟨a', ha'⟩ : ∃ a', ((a % 10 : Nat) : Int) = a' := ⟨_, rfl⟩
  obtain ⟨b', hb'⟩ : ∃ a', ((b % 10 : Nat) : Int) = a' := ⟨_, rfl⟩
  obtain ⟨c', hc'⟩ : ∃ a', ((c % 10 : Nat) : Int) = a' := ⟨_, rfl⟩
  obtain ⟨d', hd'⟩ : ∃ a', ((i % 10 : Nat) : Int) = a' := ⟨_, rfl⟩
  rw [ha'] at ra ca aa
  rw [hb'] at rb cb ab
  rw [hc'] at rc cc ac
  rw [hd'] at rd cd ad
  refine pure_of_wk (call := noCall) (fn := Try.f15) (rs := [.tmp 2]) nP_ok noCall_ok (fns_cfg Try.func15 rfl) rfl rfl ?_
  intro env hl0 hargs
  have hn : env.length = 24 := hl0
  have h0 := hargs 0 _ rfl
  clear hargs hl0
  refine wkT_of ?_
  rw [fe_self hn]
  (try simp -dsimp (disch := omega) only [h0, q1, q2, q3, ra, rb, rc, rd, ca, cb, cc, cd, aa, ab, ac, ad, nb, bare_b, bs53, cv53, AS, avals, apairs, bareP, AV.bare, AV.bares, Nat.reduceEqDiff, Nat.reduceLT, Nat.reduceAdd, ↓reduceIte, reduceCtorEq, resA, resA1, resVal, Nat.reduceLeDiff, nb_cfg, Nat.reduceBEq, AX, Int.reduceLT, Int.reduceLE, Int.reduceEq, Int.reduceAdd, Int.reduceSub, Int.reduceMul, Int.reduceNeg, Int.reduceNe])
  exact ⟨5, rfl⟩
structure Na where
  i : Nat
noncomputable def nameQ := relP (fun p : Na => p.i < 10000) (fun p => [.v (.int .i64 (p.i : Int))]) (fun p => str (nm p.i))
theorem nameQ_eq {i : Nat} (hi : i < 10000) : nameQ [.v (.int .i64 (i : Int))] = some (str (nm i)) :=
  relP_eq (X := fun p : Na => p.i < 10000) (a := fun p => [.v (.int .i64 (p.i : Int))]) (r := fun p => str (nm p.i)) (fun p q hp hq e => by
    injection e with e _
    injection e with e
    injection e with _ e
    have : p.i = q.i := by omega
    rw [this]) ⟨i⟩ hi
theorem nameQ_ok : ∀ xs y, nameQ xs = some y → PureOk (cfgP nP) 15 xs y := relP_ok (R := fun xs y => PureOk (cfgP nP) 15 xs y) fun p hp => name_ok p.i hp
noncomputable def ow4 : FuncId → Option (List AV → Option AV) := tab [(10, allQ), (12, reachQ), (15, nameQ), (8, oawakeP)]
theorem ow4_ok : (cfgP ow4).Ok := cfg_ok (tab_ok ⟨prim_at Try.func10 (by kernel_rfl) rfl (allQ_ok), prim_at Try.func12 (by kernel_rfl) rfl (reachQ_ok), prim_at Try.func15 (by kernel_rfl) rfl (nameQ_ok), prim_at Try.func8 (by kernel_rfl) rfl (oawake_ok), trivial⟩)
theorem ow4_10 : (cfgP ow4).prim 10 = some allQ := rfl
theorem ow4_12 : (cfgP ow4).prim 12 = some reachQ := rfl
theorem ow4_15 : (cfgP ow4).prim 15 = some nameQ := rfl
theorem ow4_8 : (cfgP ow4).prim 8 = some oawakeP := rfl
end Go.Proofs.Ytcimffpckcbdlaa

/- Chapter 22: OrderLong. -/
namespace Go.Proofs.Ytcimffpckcbdlaa
open Go.AM
def iav (j : Nat) : AV := .agg [str (nm j), match j with
  | 0 => nilS
  | m + 1 => .cl false [str (nm m)]]
def iavs (i : Nat) : List AV := (List.range i).map iav
theorem iavs_len {i : Nat} : (iavs i).length = i := by simp [iavs]
theorem iavs_snoc {i : Nat} : iavs (i + 1) = iavs i ++ [iav i] := by
  unfold iavs
  rw [List.range_succ, List.map_append]
  rfl
theorem iav_cells {i : Nat} : ∀ y ∈ iavs i, y.cells.length = 2 := by
  intro y hy
  obtain ⟨j, _, rfl⟩ := List.mem_map.1 hy
  rfl
theorem itsE_map : ∀ L : List Nat, ItsE (L.map chI) (L.map iav)
  | [] => rfl
  | j :: L => by
    refine ⟨iav j, L.map iav, rfl, ?_, itsE_map L⟩
    cases j with
    | zero => exact ⟨nilS, rfl, rfl⟩
    | succ m => exact ⟨.cl false [str (nm m)], rfl, rfl⟩
theorem itsE_ch {k : Nat} : ItsE (chL k) (iavs k) := itsE_map _
section
variable {prim : FuncId → Option (List AV → Option AV)}
theorem bd34 {x : Tx} : buildA (cfgP prim) 34 [(0, str x)] = some (.agg [str x, nilS]) := by kernel_rfl
theorem bs221 {x : Tx} : buildSliceA (cfgP prim) 22 1 [(0, .agg [str x, nilS])] = some (.cl true [.agg [str x, nilS]]) := by kernel_rfl
theorem bs222 {x y : Tx} : buildSliceA (cfgP prim) 22 1 [(0, .agg [str x, .cl false [str y]])] = some (.cl true [.agg [str x, .cl false [str y]]]) := by kernel_rfl
theorem st25 {H : Hp} {a : Tx} {N : AV} (hN : N.flat = true) (hc : N.cells = [N]) : storeA (cfgP prim) 25 H.blks.length 0 0 (0 + 1) N (nbk H (itB a nilS)) = some (nbk H (itB a N)) := by
  have hb : blkAt (nbk H (itB a nilS)) H.blks.length 0 = some ⟨0, 2, [.agg [str a, nilS]]⟩ := blk_row nbk_new
  have hs : setCells (.agg [str a, nilS]) (0 + 1) [N] = some (.agg [str a, N]) := rfl
  simp only [storeA, hb, List.getElem?_cons_zero, hc, List.length_singleton, c25, List.all_cons, hN, List.all_nil, Bool.and_self, and_self, if_true, hs, Option.map_some]
  show some { nbk H (itB a nilS) with blks := (H.blks ++ [itB a nilS]).set H.blks.length (itB a N) } = _
  have : (H.blks ++ [itB a nilS]).set H.blks.length (itB a N) = H.blks ++ [itB a N] := by
    rw [List.set_append_right _ _ (Nat.le_refl _), Nat.sub_self]
    rfl
  rw [this]
  rfl
theorem h022 : ((#[22, 22] : Array TypeId)[0]?).bind (elemT (cfgP prim)) = some 34 := by kernel_rfl
theorem h122 : ((#[22, 22] : Array TypeId)[1]?).bind (cfgP prim).und = some (.slice 34) := by kernel_rfl
theorem z34 : zeroA (cfgP prim) 34 = some (.agg [str [], nilS]) := by kernel_rfl
theorem c34 : (cfgP prim).csz 34 = some (1 + 1) := by kernel_rfl
theorem ro34 {n : Nat} (h : n < 1073741824) : roomOk (cfgP prim) 34 n = true := by
  have hby : (cfgP prim).byt 34 = some 40 := by kernel_rfl
  simp only [roomOk, hby, Bool.and_eq_true, decide_eq_true_eq]
  omega
theorem el34 : elemT (cfgP prim) 22 = some 34 := by kernel_rfl
/-- The items so far. -/
def VL (h : Hp) (v : AV) (i : Nat) : Prop := (i = 0 ∧ v = nilS ∧ h.toks = []) ∨ (0 < i ∧ v = .ap 0 (iavs i) ∧ h.toks = [(i, 34)])
theorem ap22 {h : Hp} {v : AV} {i : Nat} (V : VL h v i) (hi : i < 10000) : ∃ h', appA (cfgP prim) #[22, 22] [v, .cl true [iav i]] h = some (.ap 0 (iavs (i + 1)), h') ∧ h'.toks = [(i + 1, 34)] := by
  have hzl : (AV.agg [str [], nilS]).cells.length = 1 + 1 := rfl
  have hil : (iav i).cells.length = 1 + 1 := rfl
  rcases V with ⟨rfl, rfl, ht⟩ | ⟨h0, rfl, ht⟩
  · have hr : roomOk (cfgP prim) 34 1 = true := ro34 (by omega)
    refine ⟨{ h with toks := [(1, 34)] }, ?_, rfl⟩
    simp only [appA, h022, h122, z34, c34, hzl, if_true, appendA, srcA, elems, hil, ne_eq, not_true, if_false, hr, List.length_singleton, ht, List.length_nil, List.nil_append]
    rfl
  · have hs : szOk (iavs i) (1 + 1) = true := szOk_sized (n := 2) iav_cells
    have hr : roomOk (cfgP prim) 34 (i + 1) = true := ro34 (by omega)
    refine ⟨{ h with toks := [(i + 1, 34)] }, ?_, rfl⟩
    have ht0 : h.toks[0]? = some (i, 34) := by rw [ht]; rfl
    simp only [appA, h022, h122, z34, c34, hzl, if_true, appendA, srcA, elems, hil, ne_eq, not_true, if_false, ht0, iavs_len, hs, hr, and_self, List.length_singleton]
    rw [iavs_snoc, ht]
    rfl
/-- Cut and put together the other way round. -/
theorem turn22 {h : Hp} {ys : List AV} {n k : Nat} (hn : ys.length = n) (hk : k < n) (hb : n ≤ 10000) (hc : ∀ y ∈ ys, y.cells.length = 2) (ht : h.toks = [(n, 34)]) :
    ∃ S1 S2 H1 H2, sliceA (cfgP prim) 22 (.ap 0 ys) (some (.v (.int .i64 (k : Int)))) none none = some S1 ∧ appA (cfgP prim) #[22, 22] [.cl true [], S1] h = some (.ap 1 (ys.drop k), H1) ∧
      sliceA (cfgP prim) 22 (.ap 0 ys) none (some (.v (.int .i64 (k : Int)))) none = some S2 ∧ appA (cfgP prim) #[22, 22] [.ap 1 (ys.drop k), S2] H1 = some (.ap 1 (ys.drop k ++ ys.take k), H2) := by
  have h0 : (0 : Int) ≤ k := by omega
  have hs : szOk ys 2 = true := szOk_sized (n := 2) hc
  have h2 : (0 : Nat) < 2 := by omega
  have hkl : k ≤ ys.length := by omega
  have hc2 : (cfgP prim).csz 34 = some 2 := c34
  have hzl : (AV.agg [str [], nilS]).cells.length = 1 + 1 := rfl
  have hlo : ∃ S1, sliceA (cfgP prim) 22 (.ap 0 ys) (some (.v (.int .i64 (k : Int)))) none none = some S1 ∧ srcA (cfgP prim) 34 S1 = some (ys.drop k) := by
    simp only [sliceA, el34, Option.bind_some, hc2, elems, optIdx, idx, h0, if_true, Int.toNat_natCast, hkl, Nat.le_refl, hs, h2, and_self, and_true]
    by_cases hk0 : k = 0
    · subst hk0
      exact ⟨_, rfl, rfl⟩
    · rw [if_neg hk0, List.take_of_length_le (by rw [List.length_drop]; omega)]
      exact ⟨_, rfl, rfl⟩
  have hhi : sliceA (cfgP prim) 22 (.ap 0 ys) none (some (.v (.int .i64 (k : Int)))) none = some (.ro (ys.take k)) := by
    simp only [sliceA, el34, Option.bind_some, hc2, elems, optIdx, idx, h0, if_true, Int.toNat_natCast, hkl, Nat.zero_le, hs, h2, and_self, true_and, List.drop_zero, Nat.sub_zero]
    rw [if_neg (by omega)]
  obtain ⟨S1, hs1, hs2⟩ := hlo
  obtain ⟨y, D, hD⟩ : ∃ y D, ys.drop k = y :: D := by
    cases hd : ys.drop k with
    | nil =>
      have := congrArg List.length hd
      rw [List.length_drop] at this
      simp at this
      omega
    | cons y D => exact ⟨y, D, rfl⟩
  have hDl : (y :: D).length = n - k := by rw [← hD, List.length_drop, hn]
  have hcd : ∀ z ∈ y :: D, z.cells.length = 2 := by
    rw [← hD]
    exact fun z hz => hc z (List.mem_of_mem_drop hz)
  have hyl : y.cells.length = 1 + 1 := hcd y (by simp)
  have hsd : szOk (y :: D) (1 + 1) = true := szOk_sized (n := 2) hcd
  have hsn : szOk [] (1 + 1) = true := rfl
  have hr1 : roomOk (cfgP prim) 34 (([] : List AV).length + (y :: D).length) = true := ro34 (by rw [hDl]; simp; omega)
  rw [hD] at hs2 ⊢
  have p1 : appA (cfgP prim) #[22, 22] [.cl true [], S1] h = some (.ap 1 (y :: D), { h with toks := [(n, 34), (n - k, 34)] }) := by
    simp only [appA, h022, h122, z34, c34, hzl, if_true, appendA, hs2, hyl, ne_eq, not_true, if_false, hsn, hr1, and_self, ht, List.nil_append, List.length_singleton]
    rw [show ([] : List AV).length + (y :: D).length = n - k by rw [hDl]; simp]
    rfl
  refine ⟨S1, _, _, { h with toks := [(n, 34), (n, 34)] }, hs1, p1, hhi, ?_⟩
  cases hT : ys.take k with
  | nil =>
    have hk0 : k = 0 := by
      have : min k ys.length = 0 := by
        rw [← List.length_take, hT]
        rfl
      omega
    simp only [appA, h022, h122, z34, c34, hzl, if_true, appendA, srcA, elems, List.append_nil]
    rw [hk0]
    rfl
  | cons z T =>
    have hTl : (z :: T).length = k := by rw [← hT, List.length_take]; omega
    have hzc : z.cells.length = 1 + 1 := hc z (List.mem_of_mem_take (by rw [hT]; simp))
    have hr2 : roomOk (cfgP prim) 34 ((y :: D).length + (z :: T).length) = true := ro34 (by rw [hDl, hTl]; omega)
    have ht1 : ([(n, 34), (n - k, 34)] : List (Nat × TypeId))[1]? = some ((y :: D).length, 34) := by rw [hDl]; rfl
    simp only [appA, h022, h122, z34, c34, hzl, if_true, appendA, srcA, elems, hzc, ne_eq, not_true, if_false, ht1, hsd, hr2, and_self]
    rw [hDl, hTl, show n - k + k = n by omega]
    rfl
end
structure L1 (T : Int) (k i : Nat) (v : AV) (e : Env) (h : Hp) : Prop where
  len : e.length = 101
  a1 : aget e 1 = .v (.int .i64 T)
  a5 : aget e 5 = .v (.int .i64 (k : Int))
  a6 : aget e 6 = v
  a7 : aget e 7 = .v (.int .i64 (i : Int))
structure L2 (A : AV) (k i : Nat) (e : Env) (h : Hp) : Prop where
  len : e.length = 101
  a5 : aget e 5 = .v (.int .i64 (k : Int))
  a10 : aget e 10 = A
  a12 : aget e 12 = A
  a13 : aget e 13 = .v (.int .i64 (i : Int))
set_option maxHeartbeats 16000000 in
set_option maxRecDepth 100000 in
theorem long_core (S T : Int) : PureOk (cfgP ow4) 7 [.v (.int .i64 S), .v (.int .i64 T)] (.v (.bool true)) := by
  have qa : oawakeP [] = some (.v (.bool true)) := rfl
  have w8 := ow4_8
  have w15 := ow4_15
  have w10 := ow4_10
  have w12 := ow4_12
  have nbf : ∀ d, nbOf (cfgP ow4) 7 d = false := fun d => nb_cfg (by rfl)
  have r8 : (cfgP ow4).roBox 7 8 = false := rfl
  obtain ⟨u, hu, hrm⟩ := turn_rem (prim := ow4) S (n := 10000) (by omega) (by omega)
  have hrm' : ∀ {x y : Operand}, binA (cfgP ow4) .rem 29 x y (.v (.int .u64 (IntKind.u64.wrap S))) (.v (.int .u64 10000)) = some (.v (.int .u64 (u : Int))) := fun {x y} => hrm
  obtain ⟨t, htk, hrt⟩ := turn_rem (prim := ow4) T (n := u + 1) (by omega) (by omega)
  have ki : IntKind.i64.wrap (u : Int) = (u : Int) := wrap64 (by omega) (by omega)
  have kt : IntKind.i64.wrap (t : Int) = (t : Int) := wrap64 (by omega) (by omega)
  have hun : IntKind.u64.wrap ((u + 1 : Nat) : Int) = ((u + 1 : Nat) : Int) := wrapUN (by omega)
  have eu : (1 : Int) + (u : Int) = ((u + 1 : Nat) : Int) := by omega
  have eu1 : ((u + 1 : Nat) : Int) - 1 = (u : Int) := by omega
  obtain ⟨k, hk⟩ : ∃ k, u + 1 = k := ⟨_, rfl⟩
  rw [hk] at hrt hun eu eu1 htk
  have hk1 : k ≤ 10000 := by omega
  have hk0 : 0 < k := by omega
  have huk : u = k - 1 := by omega
  -- what All and Reach answer
  have hperm := rot_perm (chL k) t
  have hIz : ItsE ((chL k).drop t ++ (chL k).take t) ((iavs k).drop t ++ (iavs k).take t) := ItsE.append (ItsE.drop t itsE_ch) (ItsE.take t itsE_ch)
  have hlen : ((chL k).drop t ++ (chL k).take t).length < 16384 := by rw [hperm.length_eq, chL_len]; omega
  have hN : ∀ x ∈ (chL k).drop t ++ (chL k).take t, x.2.length < 4096 := fun x hx => by
    obtain ⟨i, _, rfl⟩ := mem_chL.1 (hperm.mem_iff.1 hx)
    cases i with
    | zero => exact (by decide : (0 : Nat) < 4096)
    | succ j => exact (by decide : (1 : Nat) < 4096)
  have ql := allQ_eq (X := .ro ((iavs k).drop t ++ (iavs k).take t)) rfl hIz hlen hN
  have qr := reachQ_eq (X := .ro ((iavs k).drop t ++ (iavs k).take t)) (F := .cl false [str (nm u)]) (fr := [nm u]) rfl hIz rfl (.inr ⟨rfl, rfl⟩) hlen hN (by simp)
  unfold allV at ql
  rw [allS_perm hperm, ch_all hk1] at ql
  rw [huk, ch_reach hk1 hk0 hperm, ← huk] at qr
  simp only at ql
  have hAe := slS_el (a := nms k)
  obtain ⟨A, hA⟩ : ∃ A, slS (nms k) = A := ⟨_, rfl⟩
  rw [hA] at ql qr hAe
  have la := len25 (prim := ow4) hAe
  rw [List.length_map, nms_len] at la
  obtain ⟨zs, hzs⟩ : ∃ zs, (iavs k).drop t ++ (iavs k).take t = zs := ⟨_, rfl⟩
  rw [hzs] at ql qr
  have dk : decide ((k : Int) = (k : Int)) = true := decide_eq_true rfl
  have qu := nameQ_eq (i := u) (by omega)
  refine pure_of_wk (call := noCall) (fn := Try.f7) (rs := [.tmp 4]) ow4_ok noCall_ok (fns_cfg Try.func7 rfl) rfl rfl ?_
  intro env hl0 hargs
  have hn : env.length = 101 := hl0
  have h0 := hargs 0 _ rfl
  have h1 := hargs 1 _ rfl
  clear hargs hl0
  refine wkT_of ?_
  rw [fe_self hn]
  (try simp -dsimp (disch := omega) only [h0, h1, ct_prim w8, qa, nbf, cv329, hrm', cv293, ki, eu, wrap64, AS, avals, apairs, bareP, AV.bare, AV.bares, Nat.reduceEqDiff, Nat.reduceLT, Nat.reduceAdd, ↓reduceIte, reduceCtorEq, resA, resA1, resVal, Nat.reduceLeDiff, nb_cfg, Nat.reduceBEq, AX, Int.reduceLT, Int.reduceLE, Int.reduceEq, Int.reduceAdd, Int.reduceSub, Int.reduceMul, Int.reduceNeg, Int.reduceNe])
  refine wt_loop (m := k) (fun m e h => ∃ i v, i + m = k ∧ VL h v i ∧ L1 T k i v e h) ?_ ?_
  · clear hn h0 h1
    rintro m e h ⟨i, v, him, hV, hn, h1, h5, h6, h7⟩
    rw [fe_self hn]
    cases m with
    | succ m =>
      have dI : decide ((i : Int) < (k : Int)) = true := decide_eq_true (by omega)
      have e1 : (i : Int) + 1 = ((i + 1 : Nat) : Int) := by omega
      have qi := nameQ_eq (i := i) (by omega)
      have s1 := st34 (prim := ow4) (H := h) (a := nm i) (N := nilS) rfl
      cases i with
      | zero =>
        have bk := blk_row (H := nbk h (itB (nm 0) nilS)) (b := h.blks.length) (g := 0) (es := 2) (xs := [.agg [str (nm 0), nilS]]) nbk_new
        have V' : VL (nbk h (itB (nm 0) nilS)) v 0 := hV
        obtain ⟨h', q1, q2⟩ := ap22 (prim := ow4) V' (by omega)
        have q1' : appA (cfgP ow4) #[22, 22] [v, .cl true [.agg [str (nm 0), nilS]]] (nbk h (itB (nm 0) nilS)) = some (.ap 0 (iavs (0 + 1)), h') := q1
        (try simp -dsimp (disch := omega) only [h1, h5, h6, h7, dI, ct_prim w15, qi, bd34, r8, al34, s1, bk, cag, p34, List.getElem?_cons_zero, bare_s, bs221, nbf, q1', e1, wrap64, AS, avals, apairs, bareP, AV.bare, AV.bares, Nat.reduceEqDiff, Nat.reduceLT, Nat.reduceAdd, ↓reduceIte, reduceCtorEq, resA, resA1, resVal, Nat.reduceLeDiff, nb_cfg, Nat.reduceBEq, AX, Int.reduceLT, Int.reduceLE, Int.reduceEq, Int.reduceAdd, Int.reduceSub, Int.reduceMul, Int.reduceNeg, Int.reduceNe])
        refine ⟨m, by omega, 0 + 1, _, by omega, .inr ⟨by omega, rfl, q2⟩, fe_len, ?_, ?_, ?_, ?_⟩
        all_goals (try simp -dsimp (disch := omega) only [h1, h5, AS, avals, apairs, bareP, AV.bare, AV.bares, Nat.reduceEqDiff, Nat.reduceLT, Nat.reduceAdd, ↓reduceIte, reduceCtorEq, resA, resA1, resVal, Nat.reduceLeDiff, nb_cfg, Nat.reduceBEq, AX, Int.reduceLT, Int.reduceLE, Int.reduceEq, Int.reduceAdd, Int.reduceSub, Int.reduceMul, Int.reduceNeg, Int.reduceNe])
        all_goals rfl
      | succ j =>
        have d0 : decide (((j + 1 : Nat) : Int) > 0) = true := decide_eq_true (by omega)
        have ej : ((j + 1 : Nat) : Int) - 1 = (j : Int) := by omega
        have qj := nameQ_eq (i := j) (by omega)
        have s2 := st25 (prim := ow4) (H := h) (a := nm (j + 1)) (N := .cl true [str (nm j)]) rfl rfl
        have bk := blk_row (H := nbk h (itB (nm (j + 1)) (.cl true [str (nm j)]))) (b := h.blks.length) (g := 0) (es := 2) (xs := [.agg [str (nm (j + 1)), .cl true [str (nm j)]]]) nbk_new
        have V' : VL (nbk h (itB (nm (j + 1)) (.cl true [str (nm j)]))) v (j + 1) := hV
        obtain ⟨h', q1, q2⟩ := ap22 (prim := ow4) V' (by omega)
        have q1' : appA (cfgP ow4) #[22, 22] [v, .cl true [.agg [str (nm (j + 1)), .cl false [str (nm j)]]]] (nbk h (itB (nm (j + 1)) (.cl true [str (nm j)]))) = some (.ap 0 (iavs (j + 1 + 1)), h') := q1
        (try simp -dsimp (disch := omega) only [h1, h5, h6, h7, dI, ct_prim w15, qi, bd34, r8, al34, s1, d0, ej, qj, bare_s, b25, f1p, s2, bk, cag, p34, List.getElem?_cons_zero, bs222, nbf, q1', e1, wrap64, AS, avals, apairs, bareP, AV.bare, AV.bares, Nat.reduceEqDiff, Nat.reduceLT, Nat.reduceAdd, ↓reduceIte, reduceCtorEq, resA, resA1, resVal, Nat.reduceLeDiff, nb_cfg, Nat.reduceBEq, AX, Int.reduceLT, Int.reduceLE, Int.reduceEq, Int.reduceAdd, Int.reduceSub, Int.reduceMul, Int.reduceNeg, Int.reduceNe])
        refine ⟨m, by omega, j + 1 + 1, _, by omega, .inr ⟨by omega, rfl, q2⟩, fe_len, ?_, ?_, ?_, ?_⟩
        all_goals (try simp -dsimp (disch := omega) only [h1, h5, AS, avals, apairs, bareP, AV.bare, AV.bares, Nat.reduceEqDiff, Nat.reduceLT, Nat.reduceAdd, ↓reduceIte, reduceCtorEq, resA, resA1, resVal, Nat.reduceLeDiff, nb_cfg, Nat.reduceBEq, AX, Int.reduceLT, Int.reduceLE, Int.reduceEq, Int.reduceAdd, Int.reduceSub, Int.reduceMul, Int.reduceNeg, Int.reduceNe])
    | zero =>
      have dI : decide ((i : Int) < (k : Int)) = false := decide_eq_false (by omega)
      have hik : i = k := by omega
      subst hik
      rcases hV with ⟨e, _⟩ | ⟨_, rfl, htk'⟩
      · omega
      obtain ⟨S1, S2, H1, H2, s1, p1, s2, p2⟩ := turn22 (prim := ow4) iavs_len htk hk1 iav_cells htk'
      rw [hzs] at p2
      (try simp -dsimp (disch := omega) only [h1, h5, h6, h7, dI, cv329, hun, hrt, cv293, kt, bs22, s1, nbf, p1, s2, p2, ct_prim w10, ql, eu1, wrap64, ct_prim w15, qu, bare_s, b25, ct_prim w12, qr, la, dk, AS, avals, apairs, bareP, AV.bare, AV.bares, Nat.reduceEqDiff, Nat.reduceLT, Nat.reduceAdd, ↓reduceIte, reduceCtorEq, resA, resA1, resVal, Nat.reduceLeDiff, nb_cfg, Nat.reduceBEq, AX, Int.reduceLT, Int.reduceLE, Int.reduceEq, Int.reduceAdd, Int.reduceSub, Int.reduceMul, Int.reduceNeg, Int.reduceNe])
      refine ⟨by kernel_rfl, ?_⟩
      clear s1 p1 s2 p2 qr ql
      refine wt_loop (m := i) (fun m e h => ∃ j, j + m = i ∧ L2 A i j e h) ?_ ?_
      · clear hn h1 h5 h6 h7 htk' dI e h H1 H2 S1 S2
        rintro m e h ⟨j, hjm, hn, h5, h10, h12, h13⟩
        rw [fe_self hn]
        cases m with
        | zero =>
          have dJ : decide ((j : Int) < (i : Int)) = false := decide_eq_false (by omega)
          (try simp -dsimp (disch := omega) only [h5, h10, h12, h13, dJ, AS, avals, apairs, bareP, AV.bare, AV.bares, Nat.reduceEqDiff, Nat.reduceLT, Nat.reduceAdd, ↓reduceIte, reduceCtorEq, resA, resA1, resVal, Nat.reduceLeDiff, nb_cfg, Nat.reduceBEq, AX, Int.reduceLT, Int.reduceLE, Int.reduceEq, Int.reduceAdd, Int.reduceSub, Int.reduceMul, Int.reduceNeg, Int.reduceNe])
          exact ⟨5, rfl⟩
        | succ m =>
          have dJ : decide ((j : Int) < (i : Int)) = true := decide_eq_true (by omega)
          have ej : (j : Int) + 1 = ((j + 1 : Nat) : Int) := by omega
          have ij := ix25 (prim := ow4) (k := .i64) hAe (tx_get (nms_get (k := i) (i := j) (by omega))) rfl
          have qj := nameQ_eq (i := j) (by omega)
          have dn : decide (nm j = nm j) = true := decide_eq_true rfl
          (try simp -dsimp (disch := omega) only [h5, h10, h12, h13, dJ, ij, cst, p9, List.getElem?_cons_zero, ct_prim w15, qj, dn, ej, wrap64, AS, avals, apairs, bareP, AV.bare, AV.bares, Nat.reduceEqDiff, Nat.reduceLT, Nat.reduceAdd, ↓reduceIte, reduceCtorEq, resA, resA1, resVal, Nat.reduceLeDiff, nb_cfg, Nat.reduceBEq, AX, Int.reduceLT, Int.reduceLE, Int.reduceEq, Int.reduceAdd, Int.reduceSub, Int.reduceMul, Int.reduceNeg, Int.reduceNe])
          refine ⟨by kernel_rfl, m, by omega, j + 1, by omega, fe_len, ?_, ?_, ?_, ?_⟩
          all_goals (try simp -dsimp (disch := omega) only [h5, h10, h12, AS, avals, apairs, bareP, AV.bare, AV.bares, Nat.reduceEqDiff, Nat.reduceLT, Nat.reduceAdd, ↓reduceIte, reduceCtorEq, resA, resA1, resVal, Nat.reduceLeDiff, nb_cfg, Nat.reduceBEq, AX, Int.reduceLT, Int.reduceLE, Int.reduceEq, Int.reduceAdd, Int.reduceSub, Int.reduceMul, Int.reduceNeg, Int.reduceNe])
      · refine ⟨0, by omega, fe_len, ?_, ?_, ?_, ?_⟩
        all_goals (try simp -dsimp (disch := omega) only [h5, AS, avals, apairs, bareP, AV.bare, AV.bares, Nat.reduceEqDiff, Nat.reduceLT, Nat.reduceAdd, ↓reduceIte, reduceCtorEq, resA, resA1, resVal, Nat.reduceLeDiff, nb_cfg, Nat.reduceBEq, AX, Int.reduceLT, Int.reduceLE, Int.reduceEq, Int.reduceAdd, Int.reduceSub, Int.reduceMul, Int.reduceNeg, Int.reduceNe])
        all_goals rfl
  · refine ⟨0, nilS, by omega, .inl ⟨rfl, rfl, rfl⟩, fe_len, ?_, ?_, ?_, ?_⟩
    all_goals (try simp -dsimp (disch := omega) only [h0, h1, AS, avals, apairs, bareP, AV.bare, AV.bares, Nat.reduceEqDiff, Nat.reduceLT, Nat.reduceAdd, ↓reduceIte, reduceCtorEq, resA, resA1, resVal, Nat.reduceLeDiff, nb_cfg, Nat.reduceBEq, AX, Int.reduceLT, Int.reduceLE, Int.reduceEq, Int.reduceAdd, Int.reduceSub, Int.reduceMul, Int.reduceNeg, Int.reduceNe])
    all_goals rfl
end Go.Proofs.Ytcimffpckcbdlaa
