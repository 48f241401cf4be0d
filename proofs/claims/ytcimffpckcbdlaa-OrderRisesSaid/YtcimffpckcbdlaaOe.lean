/- Contracts of functions, and plain facts about what they compute. -/
import Derived.Test.YtcimffpckcbdlaaOd
set_option linter.unusedSimpArgs false
set_option linter.unusedVariables false
/- Chapter 22: OrderRises. -/
namespace Go.Proofs.Ytcimffpckcbdlaa
open Go.AM
theorem slS_bare {a : List Tx} : (slS a).bare = some (slS a) := by
  unfold slS
  split <;> rfl
theorem slS_el {a : List Tx} : elems (slS a) = some (a.map str) := by
  unfold slS
  split
  · rename_i h
    rw [h]
    rfl
  · rfl
theorem ItsE.cells : ∀ {l : List It} {ys : List AV}, ItsE l ys → ∀ y ∈ ys, y.cells.length = 2
  | [], ys, h, y, hy => by
    have h' : ys = [] := h
    rw [h'] at hy
    cases hy
  | p :: r, ys, h, y, hy => by
    obtain ⟨z, zs, rfl, ⟨N, rfl, _⟩, h2⟩ := h
    rcases List.mem_cons.1 hy with rfl | hy
    · rfl
    · exact ItsE.cells (l := r) h2 y hy
theorem ItsE.append : ∀ {l m : List It} {ys zs : List AV}, ItsE l ys → ItsE m zs → ItsE (l ++ m) (ys ++ zs)
  | [], m, ys, zs, h1, h2 => by
    have h' : ys = [] := h1
    rw [h']
    exact h2
  | p :: r, m, ys, zs, h1, h2 => by
    obtain ⟨y, ys', rfl, a1, a2⟩ := h1
    exact ⟨y, ys' ++ zs, rfl, a1, ItsE.append a2 h2⟩
theorem ItsE.drop : ∀ {l : List It} {ys : List AV} (k : Nat), ItsE l ys → ItsE (l.drop k) (ys.drop k)
  | l, ys, 0, h => h
  | [], ys, k + 1, h => by
    have h' : ys = [] := h
    rw [h']
    rfl
  | p :: r, ys, k + 1, h => by
    obtain ⟨y, ys', rfl, _, a2⟩ := h
    exact ItsE.drop k a2
theorem ItsE.take : ∀ {l : List It} {ys : List AV} (k : Nat), ItsE l ys → ItsE (l.take k) (ys.take k)
  | l, ys, 0, h => rfl
  | [], ys, k + 1, h => by
    have h' : ys = [] := h
    rw [h']
    rfl
  | p :: r, ys, k + 1, h => by
    obtain ⟨y, ys', rfl, a1, a2⟩ := h
    exact ⟨y, ys'.take k, rfl, a1, ItsE.take k a2⟩
section
variable {prim : FuncId → Option (List AV → Option AV)}
theorem sl22_lo {ys : List AV} {k : Nat} (hc : ∀ y ∈ ys, y.cells.length = 2) (hk : k ≤ ys.length) : sliceA (cfgP prim) 22 (.ro ys) (some (.v (.int .i64 (k : Int)))) none none = some (.ro (ys.drop k)) := by
  have he : elemT (cfgP prim) 22 = some 34 := by kernel_rfl
  have hz : (cfgP prim).csz 34 = some 2 := by kernel_rfl
  have h0 : (0 : Int) ≤ k := by omega
  have hs : szOk ys 2 = true := szOk_sized (n := 2) hc
  have h2 : (0 : Nat) < 2 := by omega
  simp only [sliceA, he, Option.bind_some, hz, elems, optIdx, idx, h0, if_true, Int.toNat_natCast, hk, Nat.le_refl, hs, h2, and_self, and_true]
  by_cases hk0 : k = 0
  · subst hk0
    simp
  · rw [if_neg hk0, List.take_of_length_le (by rw [List.length_drop]; omega)]
theorem sl22_hi {ys : List AV} {k : Nat} (hc : ∀ y ∈ ys, y.cells.length = 2) (hk : k ≤ ys.length) : sliceA (cfgP prim) 22 (.ro ys) none (some (.v (.int .i64 (k : Int)))) none = some (.ro (ys.take k)) := by
  have he : elemT (cfgP prim) 22 = some 34 := by kernel_rfl
  have hz : (cfgP prim).csz 34 = some 2 := by kernel_rfl
  have h0 : (0 : Int) ≤ k := by omega
  have hs : szOk ys 2 = true := szOk_sized (n := 2) hc
  have h2 : (0 : Nat) < 2 := by omega
  simp only [sliceA, he, Option.bind_some, hz, elems, optIdx, idx, h0, if_true, Int.toNat_natCast, hk, Nat.zero_le, hs, h2, and_self, true_and, List.drop_zero, Nat.sub_zero]
  by_cases hk0 : k = ys.length
  · rw [if_pos hk0, hk0, List.take_length]
  · rw [if_neg hk0]
def hT1 (n : Nat) : Hp := { toks := [(n, 34)] }
theorem app22 {ys : List AV} (hc : ∀ y ∈ ys, y.cells.length = 2) (hne : ys ≠ []) (hn : ys.length < 1073741824) : appA (cfgP prim) #[22, 22] [.cl true [], .ro ys] {} = some (.ap 0 ys, hT1 ys.length) := by
  have h0 : ((#[22, 22] : Array TypeId)[0]?).bind (elemT (cfgP prim)) = some 34 := by kernel_rfl
  have h1 : ((#[22, 22] : Array TypeId)[1]?).bind (cfgP prim).und = some (.slice 34) := by kernel_rfl
  have hz : zeroA (cfgP prim) 34 = some (.agg [str [], nilS]) := by kernel_rfl
  have hby : (cfgP prim).byt 34 = some 40 := by kernel_rfl
  rw [appA_new h0 h1 hz (n := 1) (k := 40) (by kernel_rfl) rfl hby rfl hne hc ⟨by omega, by omega⟩]
  rfl
theorem app22' {xs ys : List AV} (hx : ∀ y ∈ xs, y.cells.length = 2) (hc : ∀ y ∈ ys, y.cells.length = 2) (hn : xs.length + ys.length < 1073741824) : appA (cfgP prim) #[22, 22] [.ap 0 xs, .ro ys] (hT1 xs.length) = some (.ap 0 (xs ++ ys), hT1 (xs ++ ys).length) := by
  have h0 : ((#[22, 22] : Array TypeId)[0]?).bind (elemT (cfgP prim)) = some 34 := by kernel_rfl
  have h1 : ((#[22, 22] : Array TypeId)[1]?).bind (cfgP prim).und = some (.slice 34) := by kernel_rfl
  have hz : zeroA (cfgP prim) 34 = some (.agg [str [], nilS]) := by kernel_rfl
  have hcz : (cfgP prim).csz 34 = some (1 + 1) := by kernel_rfl
  have hby : (cfgP prim).byt 34 = some 40 := by kernel_rfl
  have hzl : (AV.agg [str [], nilS]).cells.length = 1 + 1 := rfl
  have hs : szOk xs (1 + 1) = true := szOk_sized (n := 2) hx
  cases ys with
  | nil => simp only [appA, h0, h1, hz, hcz, hzl, if_true, appendA, srcA, elems, List.append_nil]
  | cons y ys =>
    have hy : y.cells.length = 1 + 1 := hc y (by simp)
    have hr : roomOk (cfgP prim) 34 (xs.length + (y :: ys).length) = true := by simp only [roomOk, hby, Bool.and_eq_true, decide_eq_true_eq]; omega
    have ht : (hT1 xs.length).toks[0]? = some (xs.length, 34) := rfl
    simp only [appA, h0, h1, hz, hcz, hzl, if_true, appendA, srcA, elems, hy, ne_eq, not_true, if_false, ht, hs, hr, and_self]
    rw [List.length_append]
    rfl
theorem bs22 : buildSliceA (cfgP prim) 22 0 [] = some (.cl true []) := by kernel_rfl
theorem cv329 {T : Int} : convA (cfgP prim) 3 29 (.v (.int .i64 T)) = some (.v (.int .u64 (IntKind.u64.wrap T))) := by kernel_rfl
theorem cv293 {T : Int} : convA (cfgP prim) 29 3 (.v (.int .u64 T)) = some (.v (.int .i64 (IntKind.i64.wrap T))) := by kernel_rfl
end
theorem wrapU {T : Int} : 0 ≤ IntKind.u64.wrap T ∧ IntKind.u64.wrap T < 18446744073709551616 := by
  simp only [IntKind.wrap, IntKind.bits, IntKind.signed]
  constructor
  · exact Int.emod_nonneg _ (by decide)
  · exact Int.emod_lt_of_pos _ (by decide)
theorem wrapUN {n : Nat} (h : n < 18446744073709551616) : IntKind.u64.wrap (n : Int) = n := by
  simp [IntKind.wrap, IntKind.bits, IntKind.signed]
  omega
/-- uint(turn) % uint(n) -/
theorem turn_rem {prim : FuncId → Option (List AV → Option AV)} (T : Int) {n : Nat} (h0 : 0 < n) (h1 : n < 1073741824) : ∃ k : Nat, k < n ∧ ∀ {x y : Operand}, binA (cfgP prim) .rem 29 x y (.v (.int .u64 (IntKind.u64.wrap T))) (.v (.int .u64 (n : Int))) = some (.v (.int .u64 (k : Int))) := by
  obtain ⟨hU1, hU2⟩ := wrapU (T := T)
  obtain ⟨k, hk⟩ : ∃ k : Nat, Int.tmod (IntKind.u64.wrap T) (n : Int) = (k : Int) := by
    rw [Int.tmod_eq_emod_of_nonneg hU1]
    exact ⟨(IntKind.u64.wrap T % (n : Int)).toNat, by rw [Int.toNat_of_nonneg (Int.emod_nonneg _ (by omega))]⟩
  refine ⟨k, ?_, fun {x y} => ?_⟩
  · have := Int.emod_lt_of_pos (IntKind.u64.wrap T) (show (0 : Int) < (n : Int) by omega)
    rw [← Int.tmod_eq_emod_of_nonneg hU1, hk] at this
    omega
  · rw [bin_rem (by omega), hk]
structure R1 (X A : AV) (i : Nat) (a : List Tx) (e : Env) (h : Hp) : Prop where
  len : e.length = 179
  a0 : aget e 0 = X
  a5 : aget e 5 = A
  a10 : aget e 10 = .mp 0
  a11 : aget e 11 = .v (.int .i64 (i : Int))
  mp : LkM h (plc (asI (a.take i)))
structure R2 (X A : AV) (i : Nat) (a : List Tx) (e : Env) (h : Hp) : Prop where
  len : e.length = 179
  a0 : aget e 0 = X
  a5 : aget e 5 = A
  a10 : aget e 10 = .mp 0
  a14 : aget e 14 = .v (.int .i64 (i : Int))
  mp : LkM h (plc (asI a))
structure R3 (X A : AV) (i p f m : Nat) (a : List Tx) (e : Env) (h : Hp) : Prop where
  len : e.length = 179
  a0 : aget e 0 = X
  a5 : aget e 5 = A
  a10 : aget e 10 = .mp 0
  a14 : aget e 14 = .v (.int .i64 (i : Int))
  a15 : aget e 15 = .v (.int .i64 (p : Int))
  a17 : aget e 17 = .v (.int .i64 (f : Int))
  a18 : aget e 18 = .v (.int .i64 (m : Int))
  mp : LkM h (plc (asI a))
structure R4 (X A : AV) (i p q : Nat) (a : List Tx) (e : Env) (h : Hp) : Prop where
  len : e.length = 179
  a0 : aget e 0 = X
  a5 : aget e 5 = A
  a10 : aget e 10 = .mp 0
  a14 : aget e 14 = .v (.int .i64 (i : Int))
  a15 : aget e 15 = .v (.int .i64 (p : Int))
  a21 : aget e 21 = .v (.int .i64 (q : Int))
  mp : LkM h (plc (asI a))
set_option maxHeartbeats 16000000 in
set_option maxRecDepth 100000 in
theorem rises_core (l : List It) (X : AV) (ys : List AV) (T : Int) (hXX : (X = nilS ∧ ys = []) ∨ X = .ro ys) (hI : ItsE l ys) (hl : l.length ≤ 9223372036854775807) (hN : ∀ x ∈ l, x.2.length ≤ 9223372036854775807) :
    PureOk (cfgP ow1) 3 [X, .v (.int .i64 T)] (.v (.bool true)) := by
  have hX : elems X = some ys := by
    rcases hXX with ⟨rfl, rfl⟩ | rfl <;> rfl
  have hXb : X.bare = some X := by
    rcases hXX with ⟨rfl, rfl⟩ | rfl <;> rfl
  have qf := fewQ_eq hX hI hl hN
  have qa : oawakeP [] = some (.v (.bool true)) := rfl
  have lx := len22 (prim := ow1) hX
  rw [ItsE.length hI] at lx
  have w8 := ow1_8
  have w9 := ow1_9
  have w10 := ow1_10
  have w11 := ow1_11
  cases hf : fewB l with
  | false =>
    rw [hf] at qf
    refine pure_of_wk (call := noCall) (fn := Try.f3) (rs := [.tmp 4]) ow1_ok noCall_ok (fns_cfg Try.func3 rfl) rfl rfl ?_
    intro env hl0 hargs
    have hn : env.length = 179 := hl0
    have h0 := hargs 0 _ rfl
    have h1 := hargs 1 _ rfl
    clear hargs hl0
    refine wkT_of ?_
    rw [fe_self hn]
    (try simp -dsimp (disch := omega) only [h0, h1, ct_prim w8, qa, ct_prim w9, hXb, qf, AS, avals, apairs, bareP, AV.bare, AV.bares, Nat.reduceEqDiff, Nat.reduceLT, Nat.reduceAdd, ↓reduceIte, reduceCtorEq, resA, resA1, resVal, Nat.reduceLeDiff, nb_cfg, Nat.reduceBEq, AX, Int.reduceLT, Int.reduceLE, Int.reduceEq, Int.reduceAdd, Int.reduceSub, Int.reduceMul, Int.reduceNeg, Int.reduceNe])
    exact ⟨5, rfl⟩
  | true =>
  rw [hf] at qf
  by_cases hl1 : l.length < 1
  · have d1 : decide ((l.length : Int) < 1) = true := decide_eq_true (by omega)
    refine pure_of_wk (call := noCall) (fn := Try.f3) (rs := [.tmp 4]) ow1_ok noCall_ok (fns_cfg Try.func3 rfl) rfl rfl ?_
    intro env hl0 hargs
    have hn : env.length = 179 := hl0
    have h0 := hargs 0 _ rfl
    have h1 := hargs 1 _ rfl
    clear hargs hl0
    refine wkT_of ?_
    rw [fe_self hn]
    (try simp -dsimp (disch := omega) only [h0, h1, ct_prim w8, qa, ct_prim w9, hXb, qf, lx, d1, AS, avals, apairs, bareP, AV.bare, AV.bares, Nat.reduceEqDiff, Nat.reduceLT, Nat.reduceAdd, ↓reduceIte, reduceCtorEq, resA, resA1, resVal, Nat.reduceLeDiff, nb_cfg, Nat.reduceBEq, AX, Int.reduceLT, Int.reduceLE, Int.reduceEq, Int.reduceAdd, Int.reduceSub, Int.reduceMul, Int.reduceNeg, Int.reduceNe])
    exact ⟨5, rfl⟩
  have d1 : decide ((l.length : Int) < 1) = false := decide_eq_false (by omega)
  have hXr : X = .ro ys := by
    rcases hXX with ⟨rfl, rfl⟩ | h
    · have := ItsE.length hI
      simp at this
      omega
    · exact h
  subst hXr
  unfold fewB at hf
  rw [Bool.and_eq_true, decide_eq_true_eq, List.all_eq_true] at hf
  have hl40 := hf.1
  have hN20 : ∀ x ∈ l, x.2.length ≤ 20 := fun x hx => by simpa using hf.2 x hx
  obtain ⟨n, hn0⟩ : ∃ n, l.length = n := ⟨_, rfl⟩
  have hyl : ys.length = n := by rw [ItsE.length hI, hn0]
  rw [hn0] at lx d1 hl40 hl1
  have ql := allQ_eq hX hI (by omega) (fun x hx => by have := hN20 x hx; omega)
  obtain ⟨k, hkn, hrm⟩ := turn_rem (prim := ow1) T (n := n) (by omega) (by omega)
  have hun : IntKind.u64.wrap (n : Int) = n := wrapUN (by omega)
  have hc2 := ItsE.cells hI
  have hcd : ∀ y ∈ ys.drop k, y.cells.length = 2 := fun y hy => hc2 y (List.mem_of_mem_drop hy)
  have hct : ∀ y ∈ ys.take k, y.cells.length = 2 := fun y hy => hc2 y (List.mem_of_mem_take hy)
  have s1 := sl22_lo (prim := ow1) (k := k) hc2 (by omega)
  have s2 := sl22_hi (prim := ow1) (k := k) hc2 (by omega)
  have p1 := app22 (prim := ow1) hcd (by
    intro e
    have := congrArg List.length e
    rw [List.length_drop] at this
    simp at this
    omega) (by rw [List.length_drop]; omega)
  have p2 := app22' (prim := ow1) hcd hct (by rw [List.length_drop, List.length_take]; omega)
  obtain ⟨zs, hzs⟩ : ∃ zs, ys.drop k ++ ys.take k = zs := ⟨_, rfl⟩
  have hIz : ItsE (l.drop k ++ l.take k) zs := by
    rw [← hzs]
    exact ItsE.append (ItsE.drop k hI) (ItsE.take k hI)
  rw [hzs] at p2
  have ql2 := allQ_eq (X := .ro zs) rfl hIz (by rw [(rot_perm l k).length_eq]; omega) (fun x hx => by
    have := hN20 x ((rot_perm l k).mem_iff.1 hx)
    omega)
  have hav : allV (l.drop k ++ l.take k) = allV l := by
    unfold allV
    rw [allS_perm (rot_perm l k)]
  rw [hav] at ql2
  have nb3 : ∀ d, nbOf (cfgP ow1) 3 d = false := fun d => nb_cfg (by rfl)
  have bap : ∀ t xs, AV.bare (.ap t xs) = some (.ro xs) := fun _ _ => rfl
  have bro : ∀ xs, AV.bare (.ro xs) = some (.ro xs) := fun _ => rfl
  have ht1 : ∀ n, (hT1 n).mps = [] := fun _ => rfl
  have ki : IntKind.i64.wrap (k : Int) = (k : Int) := wrap64 (by omega) (by omega)
  have l0 := len25 (prim := ow1) (X := nilS) (ys := []) rfl
  have err : ∀ c : Int, (c = 4 ∨ c = 13 ∨ c = 14) → allV l = .tup [nilS, .v (.int .i64 c)] → PureOk (cfgP ow1) 3 [.ro ys, .v (.int .i64 T)] (.v (.bool true)) := by
    intro c hc hv
    rw [hv] at ql ql2
    have qt := textsQ_eq (a := []) (b := []) (A := nilS) (B := nilS) rfl rfl (by simp)
    have bnil : AV.bare nilS = some nilS := rfl
    rcases hc with rfl | rfl | rfl
    all_goals
      refine pure_of_wk (call := noCall) (fn := Try.f3) (rs := [.tmp 4]) ow1_ok noCall_ok (fns_cfg Try.func3 rfl) rfl rfl ?_
      intro env hl0 hargs
      have hn : env.length = 179 := hl0
      have h0 := hargs 0 _ rfl
      have h1 := hargs 1 _ rfl
      clear hargs hl0
      refine wkT_of ?_
      rw [fe_self hn]
      (try simp -dsimp (disch := omega) only [h0, h1, ct_prim w8, qa, ct_prim w9, bro, qf, lx, d1, ct_prim w10, ql, cv329, cv293, hun, hrm, ki, bs22, s1, s2, nb3, p1, p2, bap, ql2, ct_prim w11, bnil, qt, l0, List.length_nil, Int.natCast_zero, AS, avals, apairs, bareP, AV.bare, AV.bares, Nat.reduceEqDiff, Nat.reduceLT, Nat.reduceAdd, ↓reduceIte, reduceCtorEq, resA, resA1, resVal, Nat.reduceLeDiff, nb_cfg, Nat.reduceBEq, AX, Int.reduceLT, Int.reduceLE, Int.reduceEq, Int.reduceAdd, Int.reduceSub, Int.reduceMul, Int.reduceNeg, Int.reduceNe])
      refine ⟨by kernel_rfl, ?_⟩
      exact ⟨5, rfl⟩
  rcases allS_cases l with hs | hs | hs | ⟨a, hs, R⟩
  · exact err 4 (.inl rfl) (by unfold allV; rw [hs]; rfl)
  · exact err 13 (.inr (.inl rfl)) (by unfold allV; rw [hs]; rfl)
  · exact err 14 (.inr (.inr rfl)) (by unfold allV; rw [hs]; rfl)
  · have hv : allV l = .tup [slS a, .v (.int .i64 0)] := by
      unfold allV
      rw [hs]
      rfl
    rw [hv] at ql ql2
    have hal : a.length = n := by rw [R.len, hn0]
    have hA : elems (slS a) = some (a.map str) := slS_el
    have hAb : (slS a).bare = some (slS a) := slS_bare
    obtain ⟨A, hAe⟩ : ∃ A, slS a = A := ⟨_, rfl⟩
    rw [hAe] at ql ql2 hA hAb
    have qt := textsQ_eq hA hA (by omega)
    have la := len25 (prim := ow1) hA
    rw [List.length_map, hal] at la
    rw [decide_eq_true rfl] at qt
    refine pure_of_wk (call := noCall) (fn := Try.f3) (rs := [.tmp 4]) ow1_ok noCall_ok (fns_cfg Try.func3 rfl) rfl rfl ?_
    intro env hl0 hargs
    have hn : env.length = 179 := hl0
    have h0 := hargs 0 _ rfl
    have h1 := hargs 1 _ rfl
    clear hargs hl0
    refine wkT_of ?_
    rw [fe_self hn]
    (try simp -dsimp (disch := omega) only [h0, h1, ct_prim w8, qa, ct_prim w9, bro, qf, lx, d1, ct_prim w10, ql, cv329, cv293, hun, hrm, ki, bs22, s1, s2, nb3, p1, p2, bap, ql2, ct_prim w11, hAb, qt, la, ht1, List.length_nil, AS, avals, apairs, bareP, AV.bare, AV.bares, Nat.reduceEqDiff, Nat.reduceLT, Nat.reduceAdd, ↓reduceIte, reduceCtorEq, resA, resA1, resVal, Nat.reduceLeDiff, nb_cfg, Nat.reduceBEq, AX, Int.reduceLT, Int.reduceLE, Int.reduceEq, Int.reduceAdd, Int.reduceSub, Int.reduceMul, Int.reduceNeg, Int.reduceNe])
    refine ⟨by kernel_rfl, ?_⟩
    refine wt_loop (m := n) (fun m e h => ∃ i, i + m = n ∧ R1 (.ro ys) A i a e h) ?_ ?_
    · clear hn h0 h1
      rintro m e h ⟨i, him, hn, h0, h5, h10, h11, hmp⟩
      rw [fe_self hn]
      cases m with
      | succ m =>
        obtain ⟨t, ht⟩ : ∃ t, a[i]? = some t := ⟨_, List.getElem?_eq_getElem (by omega)⟩
        have ixa := ix25 (prim := ow1) (k := .i64) hA (tx_get ht) rfl
        have hpn : plc (asI (a.take i)) t = none := pos_none.2 (nd_take R.nd ht)
        have lk := lk_none (prim := ow1) hmp hpn (c := true)
        rw [if_pos rfl] at lk
        have um := up_map (prim := ow1) hmp (t := t) (k := i)
        have dI : decide ((i : Int) < (n : Int)) = true := decide_eq_true (by omega)
        have e1 : (i : Int) + 1 = ((i + 1 : Nat) : Int) := by omega
        (try simp -dsimp (disch := omega) only [h0, h5, h10, h11, la, dI, ixa, cst, p9, List.getElem?_cons_zero, lk, um, e1, wrap64, AS, avals, apairs, bareP, AV.bare, AV.bares, Nat.reduceEqDiff, Nat.reduceLT, Nat.reduceAdd, ↓reduceIte, reduceCtorEq, resA, resA1, resVal, Nat.reduceLeDiff, nb_cfg, Nat.reduceBEq, AX, Int.reduceLT, Int.reduceLE, Int.reduceEq, Int.reduceAdd, Int.reduceSub, Int.reduceMul, Int.reduceNeg, Int.reduceNe])
        refine ⟨m, by omega, i + 1, by omega, fe_len, ?_, ?_, ?_, ?_, ?_⟩
        case refine_5 =>
          refine putH_lk hmp fun s => ?_
          rw [asI_take, take_snoc (asI_get ht), ← asI_take]
          rw [plc_snoc (x := (t, [])) hpn]
          rw [show (asI (a.take i)).length = i by unfold asI; rw [List.length_map, List.length_take]; omega]
        all_goals (try simp -dsimp (disch := omega) only [h0, h5, h10, AS, avals, apairs, bareP, AV.bare, AV.bares, Nat.reduceEqDiff, Nat.reduceLT, Nat.reduceAdd, ↓reduceIte, reduceCtorEq, resA, resA1, resVal, Nat.reduceLeDiff, nb_cfg, Nat.reduceBEq, AX, Int.reduceLT, Int.reduceLE, Int.reduceEq, Int.reduceAdd, Int.reduceSub, Int.reduceMul, Int.reduceNeg, Int.reduceNe])
      | zero =>
        have dI : decide ((i : Int) < (n : Int)) = false := decide_eq_false (by omega)
        rw [List.take_of_length_le (by omega)] at hmp
        (try simp -dsimp (disch := omega) only [h0, h5, h10, h11, la, dI, AS, avals, apairs, bareP, AV.bare, AV.bares, Nat.reduceEqDiff, Nat.reduceLT, Nat.reduceAdd, ↓reduceIte, reduceCtorEq, resA, resA1, resVal, Nat.reduceLeDiff, nb_cfg, Nat.reduceBEq, AX, Int.reduceLT, Int.reduceLE, Int.reduceEq, Int.reduceAdd, Int.reduceSub, Int.reduceMul, Int.reduceNeg, Int.reduceNe])
        refine wt_loop (m := n) (fun m e h => ∃ i, i + m = n ∧ R2 (.ro ys) A i a e h) ?_ ?_
        · clear hn h0 h5 h10 h11 hmp dI him
          clear e h i
          rintro m e h ⟨i, him, hn, h0, h5, h10, h14, hmp⟩
          rw [fe_self hn]
          cases m with
          | zero =>
            have dI : decide ((i : Int) < (n : Int)) = false := decide_eq_false (by omega)
            (try simp -dsimp (disch := omega) only [h0, h5, h10, h14, lx, la, dI, AS, avals, apairs, bareP, AV.bare, AV.bares, Nat.reduceEqDiff, Nat.reduceLT, Nat.reduceAdd, ↓reduceIte, reduceCtorEq, resA, resA1, resVal, Nat.reduceLeDiff, nb_cfg, Nat.reduceBEq, AX, Int.reduceLT, Int.reduceLE, Int.reduceEq, Int.reduceAdd, Int.reduceSub, Int.reduceMul, Int.reduceNeg, Int.reduceNe])
            exact ⟨5, rfl⟩
          | succ m =>
            obtain ⟨x, hx⟩ : ∃ x, l[i]? = some x := ⟨_, List.getElem?_eq_getElem (by omega)⟩
            have hxm := List.mem_of_getElem? hx
            obtain ⟨N, hyi, hNe⟩ := ItsE.get hI hx
            have ixx := ix22 (prim := ow1) (k := .i64) hX hyi
            have lN := len25 (prim := ow1) hNe
            rw [List.length_map] at lN
            have hx20 := hN20 x hxm
            obtain ⟨p, hp⟩ := List.getElem?_of_mem (R.all x hxm)
            have hpn : p < n := by
              have := (List.getElem?_eq_some_iff.1 hp).1
              omega
            have lk := lk_some (prim := ow1) hmp (pos_get R.nd hp) (c := true)
            rw [if_pos rfl] at lk
            have dI : decide ((i : Int) < (n : Int)) = true := decide_eq_true (by omega)
            have e1 : (i : Int) + 1 = ((i + 1 : Nat) : Int) := by omega
            have hrd := R.rdy hxm hp
            (try simp -dsimp (disch := omega) only [h0, h5, h10, h14, lx, dI, ixx, f0r, cag, p9, List.getElem?_cons_zero, lk, AS, avals, apairs, bareP, AV.bare, AV.bares, Nat.reduceEqDiff, Nat.reduceLT, Nat.reduceAdd, ↓reduceIte, reduceCtorEq, resA, resA1, resVal, Nat.reduceLeDiff, nb_cfg, Nat.reduceBEq, AX, Int.reduceLT, Int.reduceLE, Int.reduceEq, Int.reduceAdd, Int.reduceSub, Int.reduceMul, Int.reduceNeg, Int.reduceNe])
            refine wt_loop (m := x.2.length) (fun m1 e h => ∃ m' f, m' + m1 = x.2.length ∧ f ≤ p ∧ (∀ t ∈ x.2.take m', t ∈ a.take f) ∧ R3 (.ro ys) A i p f m' a e h) ?_ ?_
            · clear hn h0 h5 h10 h14 hmp lk
              clear e h
              rintro m1 e h ⟨m', f, hmm, hfp, hin, hn, h0, h5, h10, h14, h15, h17, h18, hmp⟩
              rw [fe_self hn]
              cases m1 with
              | succ m1 =>
                have dM : decide ((m' : Int) < (x.2.length : Int)) = true := decide_eq_true (by omega)
                obtain ⟨t, ht⟩ : ∃ t, x.2[m']? = some t := ⟨_, List.getElem?_eq_getElem (by omega)⟩
                have ixn := ix25 (prim := ow1) (k := .i64) hNe (tx_get ht) rfl
                have htp := hrd t (List.mem_of_getElem? ht)
                obtain ⟨y, hy⟩ := List.getElem?_of_mem htp
                have hyp : y < p := by
                  have := (List.getElem?_eq_some_iff.1 hy).1
                  rw [List.length_take] at this
                  omega
                rw [List.getElem?_take_of_lt hyp] at hy
                have lk := lk_some (prim := ow1) hmp (pos_get R.nd hy) (c := true)
                rw [if_pos rfl] at lk
                have dY : decide ((y : Int) ≥ (p : Int)) = false := decide_eq_false (by omega)
                have e2 : (m' : Int) + 1 = ((m' + 1 : Nat) : Int) := by omega
                have e3 : (y : Int) + 1 = ((y + 1 : Nat) : Int) := by omega
                have e4 : (if ((y + 1 : Nat) : Int) > (f : Int) then ((y + 1 : Nat) : Int) else (f : Int)) = ((max f (y + 1) : Nat) : Int) := by
                  split <;> omega
                (try simp -dsimp (disch := omega) only [h0, h5, h10, h14, h15, h17, h18, ixx, f1r, cag, cst, p25, p9, Nat.zero_add, List.getElem?_cons_zero, List.getElem?_cons_succ, lN, dM, ixn, lk, dY, e2, e3, max_int, e4, wrap64, AS, avals, apairs, bareP, AV.bare, AV.bares, Nat.reduceEqDiff, Nat.reduceLT, Nat.reduceAdd, ↓reduceIte, reduceCtorEq, resA, resA1, resVal, Nat.reduceLeDiff, nb_cfg, Nat.reduceBEq, AX, Int.reduceLT, Int.reduceLE, Int.reduceEq, Int.reduceAdd, Int.reduceSub, Int.reduceMul, Int.reduceNeg, Int.reduceNe])
                refine ⟨m1, by omega, m' + 1, max f (y + 1), by omega, by omega, ?_, fe_len, ?_, ?_, ?_, ?_, ?_, ?_, ?_, hmp⟩
                case refine_1 =>
                  intro s hs
                  rw [List.take_add_one, ht] at hs
                  rcases List.mem_append.1 hs with hs | hs
                  · have h1 := hin s hs
                    obtain ⟨j, hj⟩ := List.getElem?_of_mem h1
                    have hjf : j < f := by
                      have := (List.getElem?_eq_some_iff.1 hj).1
                      rw [List.length_take] at this
                      omega
                    rw [List.getElem?_take_of_lt hjf] at hj
                    exact List.mem_of_getElem? (i := j) (by rw [List.getElem?_take_of_lt (by omega)]; exact hj)
                  · simp at hs
                    subst hs
                    exact List.mem_of_getElem? (i := y) (by rw [List.getElem?_take_of_lt (by omega)]; exact hy)
                all_goals (try simp -dsimp (disch := omega) only [h0, h5, h10, h14, h15, AS, avals, apairs, bareP, AV.bare, AV.bares, Nat.reduceEqDiff, Nat.reduceLT, Nat.reduceAdd, ↓reduceIte, reduceCtorEq, resA, resA1, resVal, Nat.reduceLeDiff, nb_cfg, Nat.reduceBEq, AX, Int.reduceLT, Int.reduceLE, Int.reduceEq, Int.reduceAdd, Int.reduceSub, Int.reduceMul, Int.reduceNeg, Int.reduceNe])
              | zero =>
                have dM : decide ((m' : Int) < (x.2.length : Int)) = false := decide_eq_false (by omega)
                rw [List.take_of_length_le (by omega)] at hin
                (try simp -dsimp (disch := omega) only [h0, h5, h10, h14, h15, h17, h18, ixx, f1r, cag, cst, p25, p9, Nat.zero_add, List.getElem?_cons_zero, List.getElem?_cons_succ, lN, dM, AS, avals, apairs, bareP, AV.bare, AV.bares, Nat.reduceEqDiff, Nat.reduceLT, Nat.reduceAdd, ↓reduceIte, reduceCtorEq, resA, resA1, resVal, Nat.reduceLeDiff, nb_cfg, Nat.reduceBEq, AX, Int.reduceLT, Int.reduceLE, Int.reduceEq, Int.reduceAdd, Int.reduceSub, Int.reduceMul, Int.reduceNeg, Int.reduceNe])
                refine wt_loop (m := p - f) (fun m2 e h => ∃ q, f ≤ q ∧ q ≤ p ∧ q + m2 = p ∧ R4 (.ro ys) A i p q a e h) ?_ ?_
                · clear hn h0 h5 h10 h14 h15 h17 h18 hmp dM
                  clear e h
                  rintro m2 e h ⟨q, hfq, hqp, hqm, hn, h0, h5, h10, h14, h15, h21, hmp⟩
                  rw [fe_self hn]
                  cases m2 with
                  | zero =>
                    have dQ : decide ((q : Int) < (p : Int)) = false := decide_eq_false (by omega)
                    (try simp -dsimp (disch := omega) only [h0, h5, h10, h14, h15, h21, dQ, e1, wrap64, AS, avals, apairs, bareP, AV.bare, AV.bares, Nat.reduceEqDiff, Nat.reduceLT, Nat.reduceAdd, ↓reduceIte, reduceCtorEq, resA, resA1, resVal, Nat.reduceLeDiff, nb_cfg, Nat.reduceBEq, AX, Int.reduceLT, Int.reduceLE, Int.reduceEq, Int.reduceAdd, Int.reduceSub, Int.reduceMul, Int.reduceNeg, Int.reduceNe])
                    refine ⟨m, by omega, i + 1, by omega, fe_len, ?_, ?_, ?_, ?_, hmp⟩
                    all_goals (try simp -dsimp (disch := omega) only [h0, h5, h10, AS, avals, apairs, bareP, AV.bare, AV.bares, Nat.reduceEqDiff, Nat.reduceLT, Nat.reduceAdd, ↓reduceIte, reduceCtorEq, resA, resA1, resVal, Nat.reduceLeDiff, nb_cfg, Nat.reduceBEq, AX, Int.reduceLT, Int.reduceLE, Int.reduceEq, Int.reduceAdd, Int.reduceSub, Int.reduceMul, Int.reduceNeg, Int.reduceNe])
                  | succ m2 =>
                    have dQ : decide ((q : Int) < (p : Int)) = true := decide_eq_true (by omega)
                    obtain ⟨z, hz⟩ : ∃ z, a[q]? = some z := ⟨_, List.getElem?_eq_getElem (by omega)⟩
                    have ixz := ix25 (prim := ow1) (k := .i64) hA (tx_get hz) rfl
                    have hlt := R.least hxm hp (by omega) (fun t ht => by
                      have h1 := hin t ht
                      obtain ⟨j, hj⟩ := List.getElem?_of_mem h1
                      have hjf : j < f := by
                        have := (List.getElem?_eq_some_iff.1 hj).1
                        rw [List.length_take] at this
                        omega
                      rw [List.getElem?_take_of_lt hjf] at hj
                      exact List.mem_of_getElem? (i := j) (by rw [List.getElem?_take_of_lt (by omega)]; exact hj)) hz
                    have e5 : (q : Int) + 1 = ((q + 1 : Nat) : Int) := by omega
                    (try simp -dsimp (disch := omega) only [h0, h5, h10, h14, h15, h21, dQ, ixz, ixx, f0r, cag, cst, p9, List.getElem?_cons_zero, hlt, e5, wrap64, AS, avals, apairs, bareP, AV.bare, AV.bares, Nat.reduceEqDiff, Nat.reduceLT, Nat.reduceAdd, ↓reduceIte, reduceCtorEq, resA, resA1, resVal, Nat.reduceLeDiff, nb_cfg, Nat.reduceBEq, AX, Int.reduceLT, Int.reduceLE, Int.reduceEq, Int.reduceAdd, Int.reduceSub, Int.reduceMul, Int.reduceNeg, Int.reduceNe])
                    refine ⟨by kernel_rfl, m2, by omega, q + 1, by omega, by omega, by omega, fe_len, ?_, ?_, ?_, ?_, ?_, ?_, hmp⟩
                    all_goals (try simp -dsimp (disch := omega) only [h0, h5, h10, h14, h15, AS, avals, apairs, bareP, AV.bare, AV.bares, Nat.reduceEqDiff, Nat.reduceLT, Nat.reduceAdd, ↓reduceIte, reduceCtorEq, resA, resA1, resVal, Nat.reduceLeDiff, nb_cfg, Nat.reduceBEq, AX, Int.reduceLT, Int.reduceLE, Int.reduceEq, Int.reduceAdd, Int.reduceSub, Int.reduceMul, Int.reduceNeg, Int.reduceNe])
                · refine ⟨f, Nat.le_refl _, hfp, by omega, fe_len, ?_, ?_, ?_, ?_, ?_, ?_, hmp⟩
                  all_goals (try simp -dsimp (disch := omega) only [h0, h5, h10, h14, h15, h17, AS, avals, apairs, bareP, AV.bare, AV.bares, Nat.reduceEqDiff, Nat.reduceLT, Nat.reduceAdd, ↓reduceIte, reduceCtorEq, resA, resA1, resVal, Nat.reduceLeDiff, nb_cfg, Nat.reduceBEq, AX, Int.reduceLT, Int.reduceLE, Int.reduceEq, Int.reduceAdd, Int.reduceSub, Int.reduceMul, Int.reduceNeg, Int.reduceNe])
            · refine ⟨0, 0, by omega, Nat.zero_le _, fun t ht => by simp at ht, fe_len, ?_, ?_, ?_, ?_, ?_, ?_, ?_, hmp⟩
              all_goals (try simp -dsimp (disch := omega) only [h0, h5, h10, h14, AS, avals, apairs, bareP, AV.bare, AV.bares, Nat.reduceEqDiff, Nat.reduceLT, Nat.reduceAdd, ↓reduceIte, reduceCtorEq, resA, resA1, resVal, Nat.reduceLeDiff, nb_cfg, Nat.reduceBEq, AX, Int.reduceLT, Int.reduceLE, Int.reduceEq, Int.reduceAdd, Int.reduceSub, Int.reduceMul, Int.reduceNeg, Int.reduceNe])
              all_goals rfl
        · refine ⟨0, by omega, fe_len, ?_, ?_, ?_, ?_, hmp⟩
          all_goals (try simp -dsimp (disch := omega) only [h0, h5, h10, AS, avals, apairs, bareP, AV.bare, AV.bares, Nat.reduceEqDiff, Nat.reduceLT, Nat.reduceAdd, ↓reduceIte, reduceCtorEq, resA, resA1, resVal, Nat.reduceLeDiff, nb_cfg, Nat.reduceBEq, AX, Int.reduceLT, Int.reduceLE, Int.reduceEq, Int.reduceAdd, Int.reduceSub, Int.reduceMul, Int.reduceNeg, Int.reduceNe])
          all_goals rfl
    · refine ⟨0, by omega, fe_len, ?_, ?_, ?_, ?_, ?_⟩
      case refine_5 => exact ⟨[], rfl, fun t => rfl⟩
      all_goals (try simp -dsimp (disch := omega) only [h0, AS, avals, apairs, bareP, AV.bare, AV.bares, Nat.reduceEqDiff, Nat.reduceLT, Nat.reduceAdd, ↓reduceIte, reduceCtorEq, resA, resA1, resVal, Nat.reduceLeDiff, nb_cfg, Nat.reduceBEq, AX, Int.reduceLT, Int.reduceLE, Int.reduceEq, Int.reduceAdd, Int.reduceSub, Int.reduceMul, Int.reduceNeg, Int.reduceNe])
      all_goals rfl
end Go.Proofs.Ytcimffpckcbdlaa
