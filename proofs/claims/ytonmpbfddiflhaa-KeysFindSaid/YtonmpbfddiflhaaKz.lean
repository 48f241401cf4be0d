/- Contracts of functions, and plain facts about what they compute. -/
import Derived.Test.YtonmpbfddiflhaaKy
set_option linter.unusedSimpArgs false
set_option linter.unusedVariables false
/- Keys: plain facts; what a ring is that a call is handed. -/
namespace Go.Proofs.Ytonmpbfddiflhaa
open Go.AM
abbrev KL := KeyA × List UInt8
def apart (a b : KL) : Prop := clashB a.1 b.1 = false
theorem clash_symm (a b : KeyA) : clashB a b = clashB b a := by
  unfold clashB
  rw [Bool.or_comm (a.has b.f)]
  congr 1
  rw [show decide (a.sv = b.sv) = decide (b.sv = a.sv) from by rw [decide_eq_decide]; exact eq_comm, show decide (a.id = b.id) = decide (b.id = a.id) from by rw [decide_eq_decide]; exact eq_comm]
theorem apart_symm {a b : KL} (h : apart a b) : apart b a := by unfold apart at *; rw [clash_symm]; exact h
theorem mayB_iff (L : List KL) : mayB L = true ↔ (∀ p ∈ L, goodB p.1 p.2 = true) ∧ L.Pairwise apart := by
  rw [List.pairwise_iff_getElem]
  unfold mayB
  rw [List.all_eq_true]
  constructor
  · intro h
    have key : ∀ i (hi : i < L.length), goodB L[i].1 L[i].2 = true ∧ ((L.take i).any fun q => clashB q.1 L[i].1) = false := by
      intro i hi
      have := h i (List.mem_range.2 hi)
      rw [List.getElem?_eq_getElem hi] at this
      simpa using this
    refine ⟨fun p hp => ?_, fun i j hi hj hij => ?_⟩
    · obtain ⟨i, hi, rfl⟩ := List.mem_iff_getElem.1 hp
      exact (key i hi).1
    · have h2 := (key j hj).2
      rw [List.any_eq_false] at h2
      have := h2 L[i] (List.mem_take_iff_getElem.2 ⟨i, by omega, rfl⟩)
      unfold apart
      simpa using this
  · rintro ⟨h1, h2⟩ i hi
    have hi := List.mem_range.1 hi
    rw [List.getElem?_eq_getElem hi]
    simp only [h1 L[i] (List.getElem_mem hi), Bool.true_and, Bool.not_eq_true']
    rw [List.any_eq_false]
    intro q hq
    obtain ⟨j, hj, rfl⟩ := List.mem_take_iff_getElem.1 hq
    have := h2 j i (by omega) hi (by omega)
    unfold apart at this
    simp [this]
theorem found_clash {p q : KL} {s i : List UInt8} {ts : Int} (hp : foundB p.1 p.2 s i ts = true) (hq : foundB q.1 q.2 s i ts = true) : clashB p.1 q.1 = true := by
  unfold foundB KeyA.has at hp hq
  simp only [Bool.and_eq_true, decide_eq_true_eq] at hp hq
  obtain ⟨⟨⟨_, h1⟩, h2⟩, h3, h4⟩ := hp
  obtain ⟨⟨⟨_, g1⟩, g2⟩, g3, g4⟩ := hq
  unfold clashB KeyA.has
  rw [h1, g1, h2, g2]
  simp only [decide_true, Bool.true_and, Bool.or_eq_true, Bool.and_eq_true, decide_eq_true_eq]
  omega
/-- In what may be, at most one is found. -/
theorem found_one {L : List KL} (h : L.Pairwise apart) {s i : List UInt8} {ts : Int} : ∀ p ∈ L, ∀ q ∈ L, foundB p.1 p.2 s i ts = true → foundB q.1 q.2 s i ts = true → p = q := by
  intro p hp q hq h1 h2
  obtain ⟨a, ha, rfl⟩ := List.mem_iff_getElem.1 hp
  obtain ⟨b, hb, rfl⟩ := List.mem_iff_getElem.1 hq
  rw [List.pairwise_iff_getElem] at h
  rcases Nat.lt_trichotomy a b with hab | hab | hab
  · have := h a b ha hb hab
    unfold apart at this
    rw [found_clash h1 h2] at this
    cases this
  · subst hab; rfl
  · have := h b a hb ha hab
    unfold apart at this
    rw [found_clash h2 h1] at this
    cases this
theorem findO_of {L : List KL} (h : L.Pairwise apart) {s i : List UInt8} {ts : Int} {p : KL} (hp : p ∈ L) (hf : foundB p.1 p.2 s i ts = true) : findO L s i ts = some p.2 := by
  unfold findO
  cases hq : L.find? fun p => foundB p.1 p.2 s i ts with
  | none =>
    rw [List.find?_eq_none] at hq
    exact absurd hf (hq p hp)
  | some q =>
    have h1 := List.mem_of_find?_eq_some hq
    have h2 := List.find?_some hq
    rw [found_one h p hp q h1 hf h2]
    rfl
theorem findO_perm {L M : List KL} (hp : L.Perm M) (h : L.Pairwise apart) {s i : List UInt8} {ts : Int} : findO M s i ts = findO L s i ts := by
  have h' : M.Pairwise apart := (hp.pairwise_iff apart_symm).1 h
  cases hq : L.find? fun p => foundB p.1 p.2 s i ts with
  | none =>
    have : M.find? (fun p => foundB p.1 p.2 s i ts) = none := by
      rw [List.find?_eq_none] at hq ⊢
      exact fun p hpm => hq p (hp.mem_iff.2 hpm)
    unfold findO
    rw [hq, this]
  | some q =>
    have h1 := List.mem_of_find?_eq_some hq
    have h2 := List.find?_some hq
    rw [findO_of h h1 h2, findO_of h' (hp.mem_iff.1 h1) h2]
theorem mayB_perm {L M : List KL} (hp : L.Perm M) (h : mayB L = true) : mayB M = true := by
  rw [mayB_iff] at *
  exact ⟨fun p hpm => h.1 p (hp.mem_iff.2 hpm), (hp.pairwise_iff apart_symm).1 h.2⟩
/-- A ring turned. -/
def turned (L : List KL) (k : Nat) : List KL := L.drop k ++ L.take k
theorem turned_perm (L : List KL) (k : Nat) : L.Perm (turned L k) := by
  have : (L.take k ++ L.drop k).Perm (L.drop k ++ L.take k) := List.perm_append_comm
  rw [List.take_append_drop] at this
  exact this
theorem turned_get (L : List KL) (k i : Nat) (hk : k < L.length) (hi : i < L.length) : (turned L k)[i]? = L[(i + k) % L.length]? := by
  unfold turned
  by_cases h : i + k < L.length
  · rw [List.getElem?_append_left (by rw [List.length_drop]; omega), List.getElem?_drop, Nat.mod_eq_of_lt h, Nat.add_comm]
  · rw [List.getElem?_append_right (by rw [List.length_drop]; omega), List.length_drop, List.getElem?_take, if_pos (by omega)]
    congr 1
    rw [show i + k = (i + k - L.length) + L.length by omega, Nat.add_mod_right, Nat.mod_eq_of_lt (by omega)]
    omega
/-- What a call is handed. -/
theorem maxLen_eq : maxLen = 2 ^ 63 - 1 := rfl
structure Kr where
  k : KeyA
  l : List UInt8
  h : pubOf k.p = some l
  a : k.sv.length < 2 ^ 63
  b : k.id.length < 2 ^ 63
section
variable {P : Program}
theorem argC_str {n : Nat} {t : TypeId} {a : List AV} (hu : P.underlying t = some .string) (h : ArgC P n t a) : ∃ l, a = [str l] ∧ l.length ≤ maxLen := by
  cases n with
  | zero => exact h.elim
  | succ n => unfold ArgC at h; rw [hu] at h; exact h
theorem argC_int {n : Nat} {t : TypeId} {k : IntKind} {a : List AV} (hu : P.underlying t = some (.int k)) (h : ArgC P n t a) : ∃ i, a = [.v (.int k i)] ∧ (Lit.int k i).wf = true := by
  cases n with
  | zero => exact h.elim
  | succ n => unfold ArgC at h; rw [hu] at h; exact h
theorem argC_bytes {n : Nat} {t e : TypeId} {a : List AV} (hu : P.underlying t = some (.slice e)) (he : P.underlying e = some (.int .u8)) (h : ArgC P n t a) : ∃ x l, a = [x] ∧ pubOf x = some l := by
  cases n with
  | zero => exact h.elim
  | succ n =>
    unfold ArgC at h
    rw [hu] at h
    rcases h with h | ⟨ys, h1, h2, h3⟩
    · exact ⟨_, [], h, rfl⟩
    · have h4 : ∀ y ∈ ys, ∃ c, y = byt c := fun y hy => arg_byte he ⟨n, (h3 y hy).choose, (h3 y hy).choose_spec⟩
      have : ∃ l, decL decByte ys = some l := by
        clear h1 h2 h3
        induction ys with
        | nil => exact ⟨[], rfl⟩
        | cons y ys ih =>
          obtain ⟨c, rfl⟩ := h4 y (by simp)
          obtain ⟨l, hl⟩ := ih fun z hz => h4 z (by simp [hz])
          exact ⟨c :: l, by simp only [decL, dec_byt, hl]⟩
      obtain ⟨l, hl⟩ := this
      exact ⟨_, l, h1, hl⟩
end
theorem arg_key {y : AV} (h : Arg Try.prog 28 y) : ∃ c : Kr, y = c.k.av := by
  obtain ⟨n, cs, h1, h2⟩ := h
  have ha : aggT Try.prog 28 = true := by simp only [aggT, Try.underlying28]
  unfold oneA at h2
  rw [ha] at h2
  simp only [if_true, Option.some.injEq] at h2
  subst h2
  cases n with
  | zero => exact h1.elim
  | succ n =>
    unfold ArgC at h1
    rw [Try.underlying28] at h1
    obtain ⟨a1, r1, rfl, g1, a2, r2, rfl, g2, a3, r3, rfl, g3, a4, r4, rfl, g4, a5, r5, rfl, g5, rfl⟩ := h1
    obtain ⟨sv, rfl, l1⟩ := argC_str (by kernel_rfl) g1
    obtain ⟨id, rfl, l2⟩ := argC_str (by kernel_rfl) g2
    obtain ⟨x, l, rfl, hx⟩ := argC_bytes (e := 5) (by kernel_rfl) (by kernel_rfl) g3
    obtain ⟨f, rfl, w1⟩ := argC_int (k := .i64) (by kernel_rfl) g4
    obtain ⟨u, rfl, w2⟩ := argC_int (k := .i64) (by kernel_rfl) g5
    rw [maxLen_eq] at l1 l2
    exact ⟨⟨⟨sv, id, x, f, u⟩, l, hx, by show sv.length < 2 ^ 63; omega, by show id.length < 2 ^ 63; omega⟩, rfl⟩
/-- A ring that a call is handed. -/
theorem arg_ring {x : AV} (h : Arg Try.prog 22 x) : ∃ L : List KL, Ring x L ∧ AV.bare x = some x ∧ ∀ p ∈ L, p.1.sv.length < 2 ^ 63 ∧ p.1.id.length < 2 ^ 63 := by
  obtain ⟨l, h1, h2, h3, _⟩ := arg_slice (e := 28) (g := fun c : Kr => c.k.av) (by kernel_rfl) (fun y hy => arg_key hy) h
  refine ⟨l.map fun c => (c.k, c.l), ⟨by rw [h1, List.map_map]; rfl, fun p hp => ?_⟩, h2, fun p hp => ?_⟩
  · obtain ⟨c, _, rfl⟩ := List.mem_map.1 hp
    exact c.h
  · obtain ⟨c, _, rfl⟩ := List.mem_map.1 hp
    exact ⟨c.a, c.b⟩
end Go.Proofs.Ytonmpbfddiflhaa

/- KeysFind: the walk. -/
namespace Go.Proofs.Ytonmpbfddiflhaa
open Go.AM
theorem kawake_run : (callA (cfgP ky0) 2000 7 [] {}).map (·.1) = some (.v (.bool true)) := by kernel_rfl
def awkP : List AV → Option AV
  | [] => some (.v (.bool true))
  | _ => none
theorem awkP_ok : ∀ xs r, awkP xs = some r → PureOk (cfgP ky0) 7 xs r := by
  intro xs r h
  unfold awkP at h
  split at h
  · injection h with h; subst h
    obtain ⟨⟨x, H⟩, hr, hx⟩ := Option.map_eq_some_iff.1 kawake_run
    cases hx
    exact pureOk_of (n := 1) (((callA_ok ky0_ok 2000).ok _ _ _ _ _ hr).2) rfl
  · cases h
/-- Small enough. -/
def smallR (r : AV) (L : List KL) : Prop := AV.bare r = some r ∧ L.length < 2 ^ 62 ∧ ∀ p ∈ L, p.1.sv.length < 2 ^ 63 ∧ p.1.id.length < 2 ^ 63
open Classical in
noncomputable def mayP : List AV → Option AV
  | [r] => match decR r with
    | some L => if smallR r L then some (.v (.bool (mayB L))) else none
    | none => none
  | _ => none
theorem mayP_eq {r : AV} {L : List KL} (h : Ring r L) (hs : smallR r L) : mayP [r] = some (.v (.bool (mayB L))) := by
  simp only [mayP, decR_eq h]
  rw [if_pos hs]
theorem mayP_ok : ∀ xs r, mayP xs = some r → PureOk (cfgP ky2) 8 xs r := by
  intro xs r hx
  unfold mayP at hx
  split at hx
  · split at hx
    · rename_i L h1
      split at hx
      · rename_i hs
        injection hx with hx; subst hx
        exact may_ok _ L (decR_ok h1) hs.1 (by have := hs.2.1; omega) hs.2.2
      · cases hx
    · cases hx
  · cases hx
open Classical in
noncomputable def fndP : List AV → Option AV
  | [r, s, i, .v (.int .i64 ts)] => match decR r, dS s, dS i with
    | some L, some s, some i => if smallR r L then some (findV (findO L s i ts)) else none
    | _, _, _ => none
  | _ => none
theorem fndP_eq {r : AV} {L : List KL} {s i : List UInt8} {ts : Int} (h : Ring r L) (hs : smallR r L) : fndP [r, str s, str i, .v (.int .i64 ts)] = some (findV (findO L s i ts)) := by
  simp only [fndP, decR_eq h, dS_str]
  rw [if_pos hs]
theorem fndP_ok : ∀ xs r, fndP xs = some r → PureOk (cfgP ky4) 9 xs r := by
  intro xs r hx
  unfold fndP at hx
  split at hx
  · split at hx
    · rename_i L s i h1 h2 h3
      split at hx
      · rename_i hs
        injection hx with hx; subst hx
        rw [dS_iff] at h2 h3
        subst h2 h3
        exact find_ok _ L _ _ _ (decR_ok h1) hs.1 (by have := hs.2.1; omega) hs.2.2
      · cases hx
    · cases hx
  · cases hx
noncomputable section
def ky5 : FuncId → Option (List AV → Option AV) := tab [(7, awkP), (8, mayP), (9, fndP)]
theorem ky5_ok : (cfgP ky5).Ok := cfgOf_ok mixed fok (tab_ok ⟨prim_at Try.func7 (by kernel_rfl) rfl (awkP_ok), prim_at Try.func8 (by kernel_rfl) rfl (mayP_ok), prim_at Try.func9 (by kernel_rfl) rfl (fndP_ok), trivial⟩)
theorem ky5_7 : (cfgP ky5).prim 7 = some awkP := rfl
theorem ky5_8 : (cfgP ky5).prim 8 = some mayP := rfl
theorem ky5_9 : (cfgP ky5).prim 9 = some fndP := rfl
end
section
variable {prim : FuncId → Option (List AV → Option AV)}
theorem appKs {xs : List AV} {f : Bool} {x : AV} (hx : x.cells.length = 5) (hs : sized 5 xs) (hr : xs.length < 1000000000000) : appA (cfgP prim) #[22, 22] [gsl xs, .cl f [x]] (ghp 28 xs) = some (gsl (xs ++ [x]), ghp 28 (xs ++ [x])) :=
  appA_gsl (n := 4) (k := 72) (t1 := 28) (z := zeroK) (by kernel_rfl) (by kernel_rfl) (by kernel_rfl) (by kernel_rfl) rfl (by kernel_rfl) hx hs (by omega)
theorem bsK {k : KeyA} (hf : k.av.cells.all AV.flat = true) : buildSliceA (cfgP prim) 22 1 [(0, k.av)] = some (.cl true [k.av]) := by
  have he : elemT (cfgP prim) 22 = some 28 := by kernel_rfl
  have hc : (cfgP prim).csz 28 = some 5 := by kernel_rfl
  have hg : isAggT (cfgP prim) 28 = some true := by kernel_rfl
  have hz : zeroA (cfgP prim) 28 = some zeroK := by kernel_rfl
  simp only [buildSliceA, he, hc, hg, hz]
  rw [if_pos (by decide +kernel)]
  simp only [fillA, hf]
  rfl
end
theorem u64w (x : Int) : IntKind.u64.wrap x = x % 2 ^ 64 := by
  simp [IntKind.wrap, IntKind.bits, IntKind.signed]
end Go.Proofs.Ytonmpbfddiflhaa

/- KeysFind: the walk. -/
namespace Go.Proofs.Ytonmpbfddiflhaa
open Go.AM
section
variable {prim : FuncId → Option (List AV → Option AV)}
theorem conv3u {n : Int} : convA (cfgP prim) 3 25 (.v (.int .i64 n)) = some (.v (.int .u64 (IntKind.u64.wrap n))) := conv_int (j := .i64) (by kernel_rfl) (by kernel_rfl) (by kernel_rfl) (by kernel_rfl)
theorem convu3 {n : Int} : convA (cfgP prim) 25 3 (.v (.int .u64 n)) = some (.v (.int .i64 (IntKind.i64.wrap n))) := conv_int (j := .u64) (by kernel_rfl) (by kernel_rfl) (by kernel_rfl) (by kernel_rfl)
theorem convB {x : AV} {l : List UInt8} (h : elems x = some (byts l)) : convA (cfgP prim) 26 9 x = some (str l) := conv_str (e := 5) (by kernel_rfl) (by kernel_rfl) (by kernel_rfl) h
theorem faP0 {b g i j : Nat} : fieldAddrA (cfgP prim) 28 (.ptr b g i j) 0 = some (.ptr b g i (j + 0)) := by kernel_rfl
theorem faP1 {b g i j : Nat} : fieldAddrA (cfgP prim) 28 (.ptr b g i j) 1 = some (.ptr b g i (j + 1)) := by kernel_rfl
theorem faP2 {b g i j : Nat} : fieldAddrA (cfgP prim) 28 (.ptr b g i j) 2 = some (.ptr b g i (j + 2)) := by kernel_rfl
theorem faP3 {b g i j : Nat} : fieldAddrA (cfgP prim) 28 (.ptr b g i j) 3 = some (.ptr b g i (j + 3)) := by kernel_rfl
theorem faP4 {b g i j : Nat} : fieldAddrA (cfgP prim) 28 (.ptr b g i j) 4 = some (.ptr b g i (j + 4)) := by kernel_rfl
theorem allocG {tk : List (Nat × TypeId)} : allocA (cfgP prim) 28 false { toks := tk } = some (.ptr 0 0 0 0, { toks := tk, blks := [⟨0, 5, [zeroK]⟩] }, 2) := by
  have hz : zeroA (cfgP prim) 28 = some zeroK := by kernel_rfl
  have hf : zeroK.cells.all AV.flat = true := rfl
  simp only [allocA, hz, Option.bind_some, hf, if_true, Bool.false_eq_true, if_false]
  rfl
theorem storeG {tk : List (Nat × TypeId)} {k : KeyA} (hf : ([str k.sv, str k.id, k.p, .v (.int .i64 k.f), .v (.int .i64 k.u)] : List AV).all AV.flat = true) : storeA (cfgP prim) 28 0 0 0 0 k.av { toks := tk, blks := [⟨0, 5, [zeroK]⟩] } = some { toks := tk, blks := [⟨0, 5, [k.av]⟩] } := by
  have h1 : ({ toks := tk, blks := [⟨0, 5, [zeroK]⟩] } : Hp).blks[0]? = some ⟨0, 5, [.agg [str [], str [], .v (.slice none 0 0), .v (.int .i64 0), .v (.int .i64 0)]]⟩ := rfl
  unfold KeyA.av
  rw [store_all (x := [str k.sv, str k.id, k.p, .v (.int .i64 k.f), .v (.int .i64 k.u)]) h1 (by kernel_rfl) rfl hf]
  rfl
theorem bool_eql {x y : Operand} {a b : Bool} : binA (cfgP prim) .eql 4 x y (.v (.bool a)) (.v (.bool b)) = some (.v (.bool (a == b))) := by
  cases a <;> cases b <;> kernel_rfl
end
/-- What stands in l. -/
def tkn (L : List KL) (k i : Nat) : List AV := ((turned L k).take i).map fun p => p.1.av
structure kfI (r : AV) (L : List KL) (ts : Int) (k i : Nat) (e : Env) (h : Hp) : Prop where
  len : e.length = 126
  hp : h = ghp 28 (tkn L k i)
  a0 : aget e 0 = r
  a1 : aget e 1 = .v (.int .i64 ts)
  a7 : aget e 7 = .v (.int .i64 k)
  a8 : aget e 8 = gsl (tkn L k i)
  a9 : aget e 9 = .v (.int .i64 i)
def findA : Option (List UInt8) → AV
  | some l => .ro (byts l)
  | none => .v (.slice none 0 0)
def findL : Option (List UInt8) → List UInt8
  | some l => l
  | none => []
theorem findV_eq (o : Option (List UInt8)) : findV o = .tup [findA o, .v (.bool o.isSome)] := by cases o <;> rfl
theorem findA_el (o : Option (List UInt8)) : elems (findA o) = some (byts (findL o)) := by cases o <;> rfl
set_option maxRecDepth 100000 in
set_option maxHeartbeats 2000000 in
theorem keysFind_core (r : AV) (L : List KL) (ts turn : Int) (hr : Ring r L) (hb : AV.bare r = some r) (hs : ∀ p ∈ L, p.1.sv.length < 2 ^ 63 ∧ p.1.id.length < 2 ^ 63) : PureOk (cfgP ky5) 3 [r, .v (.int .i64 ts), .v (.int .i64 turn)] (.v (.bool true)) := by
  have hlen : (L.map fun p => p.1.av).length = L.length := by simp
  by_cases h1 : L.length < 1
  · have hd : decide (((L.length : Nat) : Int) < 1) = true := decide_eq_true (by omega)
    refine pure_of_wk (call := noCall) (fn := Try.f3) (rs := [.tmp 6]) ky5_ok noCall_ok (fns_cfg Try.func3 rfl) rfl rfl ?_
    intro env hl0 hargs
    have hn : env.length = 126 := hl0
    have h0 := hargs 0 _ rfl
    have h1 := hargs 1 _ rfl
    have h2 := hargs 2 _ rfl
    clear hargs hl0
    refine wkT_of ?_
    simp -dsimp only [hn, h0, h1, h2, ct_prim ky5_7, awkP, lenK hr.el, hlen, hd, wt_seq, wt_block, wt_region, wt_cond, wt_skip, wt_ret, wt_exit, wst_nil, wst_cons, wst_guard, andThen_normal, andThen_ret, andThen_exit, leave_normal, leave_ret, leave_exit, EndsA_ret, EndsA_normal, ot_move, ot_assign, ot_pick, ot_binOp, ot_unOp, ot_convert, ot_field, ot_index, ot_indexAddr, ot_fieldAddr, ot_slice, ot_build, ot_buildSlice, ot_extract, ot_makeInterface, ot_makeFunc, ot_nilCheck, ot_call, ot_len, ot_append, ot_box, ot_load, ot_store, ot_makeSlice, ct_bool, ct_true, ct_false, bt_some, gt_some, aval_tmp, aval_int, aval_bool, aval_str, aval_slice, aval_nilPointer, aval_nilIface, aval_func, aval_global, avals, apairs, bareP, AV.bare, AV.bares, bin_lss, bin_leq, bin_gtr, bin_geq, bin_eql, bin_neq, bin_add, bin_sub, bin_mul, bin_and, bin_or, bin_xor, toV_int, toV_bool, toV_string, un_neg, un_not, bin_str_eql, bin_str_neq, bin_str_lss, bin_str_leq, bin_str_gtr, bin_str_geq, aget_aput, length_aput, aput_none, Nat.reduceEqDiff, Nat.reduceLT, Nat.reduceAdd, reduceIte, reduceCtorEq, Bool.not_false, Bool.not_true, Bool.true_or, true_and, Option.bind_some, Option.map_some, List.nil_append, List.cons_append, resA, resA1, resVal, Option.getD_some, Nat.reduceLeDiff, bnd_some, yieldA_eq, yldOf_some, boolOf_bool, boolOf_undef, gt_none, List.getElem?_toArray, List.getElem?_cons_succ, List.getElem?_cons_zero, bq_true, bq_false, decide_true, decide_false, Option.toList_none, Option.toList_some, List.head?_cons, List.head?_nil]
    exact ⟨1, rfl⟩
  have hd1 : decide (((L.length : Nat) : Int) < 1) = false := decide_eq_false (by omega)
  by_cases h20 : 20 < L.length
  · have hd : decide ((20 : Int) < ((L.length : Nat) : Int)) = true := decide_eq_true (by omega)
    refine pure_of_wk (call := noCall) (fn := Try.f3) (rs := [.tmp 6]) ky5_ok noCall_ok (fns_cfg Try.func3 rfl) rfl rfl ?_
    intro env hl0 hargs
    have hn : env.length = 126 := hl0
    have h0 := hargs 0 _ rfl
    have h1 := hargs 1 _ rfl
    have h2 := hargs 2 _ rfl
    clear hargs hl0
    refine wkT_of ?_
    simp -dsimp only [hn, h0, h1, h2, ct_prim ky5_7, awkP, lenK hr.el, hlen, hd1, hd, wt_seq, wt_block, wt_region, wt_cond, wt_skip, wt_ret, wt_exit, wst_nil, wst_cons, wst_guard, andThen_normal, andThen_ret, andThen_exit, leave_normal, leave_ret, leave_exit, EndsA_ret, EndsA_normal, ot_move, ot_assign, ot_pick, ot_binOp, ot_unOp, ot_convert, ot_field, ot_index, ot_indexAddr, ot_fieldAddr, ot_slice, ot_build, ot_buildSlice, ot_extract, ot_makeInterface, ot_makeFunc, ot_nilCheck, ot_call, ot_len, ot_append, ot_box, ot_load, ot_store, ot_makeSlice, ct_bool, ct_true, ct_false, bt_some, gt_some, aval_tmp, aval_int, aval_bool, aval_str, aval_slice, aval_nilPointer, aval_nilIface, aval_func, aval_global, avals, apairs, bareP, AV.bare, AV.bares, bin_lss, bin_leq, bin_gtr, bin_geq, bin_eql, bin_neq, bin_add, bin_sub, bin_mul, bin_and, bin_or, bin_xor, toV_int, toV_bool, toV_string, un_neg, un_not, bin_str_eql, bin_str_neq, bin_str_lss, bin_str_leq, bin_str_gtr, bin_str_geq, aget_aput, length_aput, aput_none, Nat.reduceEqDiff, Nat.reduceLT, Nat.reduceAdd, reduceIte, reduceCtorEq, Bool.not_false, Bool.not_true, Bool.true_or, true_and, Option.bind_some, Option.map_some, List.nil_append, List.cons_append, resA, resA1, resVal, Option.getD_some, Nat.reduceLeDiff, bnd_some, yieldA_eq, yldOf_some, boolOf_bool, boolOf_undef, gt_none, List.getElem?_toArray, List.getElem?_cons_succ, List.getElem?_cons_zero, bq_true, bq_false, decide_true, decide_false, Option.toList_none, Option.toList_some, List.head?_cons, List.head?_nil]
    exact ⟨1, rfl⟩
  have hd20 : decide ((20 : Int) < ((L.length : Nat) : Int)) = false := decide_eq_false (by omega)
  have hsm : smallR r L := ⟨hb, by omega, hs⟩
  cases hm : mayB L with
  | false =>
    refine pure_of_wk (call := noCall) (fn := Try.f3) (rs := [.tmp 6]) ky5_ok noCall_ok (fns_cfg Try.func3 rfl) rfl rfl ?_
    intro env hl0 hargs
    have hn : env.length = 126 := hl0
    have h0 := hargs 0 _ rfl
    have h1 := hargs 1 _ rfl
    have h2 := hargs 2 _ rfl
    clear hargs hl0
    refine wkT_of ?_
    simp -dsimp only [hn, h0, h1, h2, ct_prim ky5_7, awkP, lenK hr.el, hlen, hd1, hd20, ct_prim ky5_8, hb, mayP_eq hr hsm, hm, wt_seq, wt_block, wt_region, wt_cond, wt_skip, wt_ret, wt_exit, wst_nil, wst_cons, wst_guard, andThen_normal, andThen_ret, andThen_exit, leave_normal, leave_ret, leave_exit, EndsA_ret, EndsA_normal, ot_move, ot_assign, ot_pick, ot_binOp, ot_unOp, ot_convert, ot_field, ot_index, ot_indexAddr, ot_fieldAddr, ot_slice, ot_build, ot_buildSlice, ot_extract, ot_makeInterface, ot_makeFunc, ot_nilCheck, ot_call, ot_len, ot_append, ot_box, ot_load, ot_store, ot_makeSlice, ct_bool, ct_true, ct_false, bt_some, gt_some, aval_tmp, aval_int, aval_bool, aval_str, aval_slice, aval_nilPointer, aval_nilIface, aval_func, aval_global, avals, apairs, bareP, AV.bare, AV.bares, bin_lss, bin_leq, bin_gtr, bin_geq, bin_eql, bin_neq, bin_add, bin_sub, bin_mul, bin_and, bin_or, bin_xor, toV_int, toV_bool, toV_string, un_neg, un_not, bin_str_eql, bin_str_neq, bin_str_lss, bin_str_leq, bin_str_gtr, bin_str_geq, aget_aput, length_aput, aput_none, Nat.reduceEqDiff, Nat.reduceLT, Nat.reduceAdd, reduceIte, reduceCtorEq, Bool.not_false, Bool.not_true, Bool.true_or, true_and, Option.bind_some, Option.map_some, List.nil_append, List.cons_append, resA, resA1, resVal, Option.getD_some, Nat.reduceLeDiff, bnd_some, yieldA_eq, yldOf_some, boolOf_bool, boolOf_undef, gt_none, List.getElem?_toArray, List.getElem?_cons_succ, List.getElem?_cons_zero, bq_true, bq_false, decide_true, decide_false, Option.toList_none, Option.toList_some, List.head?_cons, List.head?_nil]
    exact ⟨1, rfl⟩
  | true =>
    obtain ⟨kk, hkk⟩ : ∃ kk : Nat, kk = ((turn % 2 ^ 64).toNat) % L.length := ⟨_, rfl⟩
    have hkl : kk < L.length := by rw [hkk]; exact Nat.mod_lt _ (by omega)
    have hw : IntKind.i64.wrap ((IntKind.u64.wrap turn).tmod (IntKind.u64.wrap ((L.length : Nat) : Int))) = (kk : Int) := by
      rw [u64w, u64w, show (((L.length : Nat) : Int) % 2 ^ 64) = ((L.length : Nat) : Int) by omega]
      have ht : turn % 2 ^ 64 = (((turn % 2 ^ 64).toNat : Nat) : Int) := by omega
      rw [ht, Int.tmod_eq_emod_of_nonneg (by omega), ← Int.natCast_emod, ← hkk]
      exact wr64 (by omega) (by omega)
    have hun : IntKind.u64.wrap ((L.length : Nat) : Int) ≠ 0 := by rw [u64w]; omega
    have hpm := mayB_iff L |>.1 hm
    have hperm := turned_perm L kk
    have hLt : (turned L kk).length = L.length := hperm.length_eq.symm
    have hok' : ∀ p ∈ turned L kk, pubOf p.1.p = some p.2 := fun p hp => hr.ok p (hperm.mem_iff.2 hp)
    have hfull : tkn L kk L.length = (turned L kk).map fun p => p.1.av := by
      unfold tkn
      rw [List.take_of_length_le (by omega)]
    obtain ⟨q0, qs, hq0⟩ : ∃ q0 qs, (turned L kk).map (fun p => p.1.av) = q0 :: qs := by
      cases hh : (turned L kk).map (fun p => p.1.av) with
      | nil =>
        have h := hLt
        rw [List.map_eq_nil_iff.1 hh] at h
        have h' : 0 = L.length := h
        omega
      | cons q0 qs => exact ⟨q0, qs, rfl⟩
    have hring : Ring (.ro (q0 :: qs)) (turned L kk) := ⟨by rw [hq0]; rfl, hok'⟩
    have hsm' : smallR (.ro (q0 :: qs)) (turned L kk) := ⟨rfl, by omega, fun p hp => hs p (hperm.mem_iff.2 hp)⟩
    have hbg : AV.bare (gsl (q0 :: qs)) = some (.ro (q0 :: qs)) := rfl
    have hghp : ghp 28 (q0 :: qs) = { toks := [((q0 :: qs).length, 28)] } := rfl
    have hmay' := mayB_perm hperm hm
    -- the key that is looked for
    obtain ⟨x, hx⟩ : ∃ x, x = L[kk] := ⟨_, rfl⟩
    have hxm : x ∈ L := by rw [hx]; exact List.getElem_mem hkl
    have hxo := hr.ok x hxm
    have hxf := KeyA.flat (pubOf_ok hxo)
    have hxe := (pubOf_ok hxo).1
    have hfo := fun s i => findO_perm hperm hpm.2 (s := s) (i := i) (ts := ts)
    obtain ⟨o, ho⟩ : ∃ o, o = findO L x.1.sv x.1.id ts := ⟨_, rfl⟩
    have hin : x.1.has ts = true → o = some x.2 := by
      intro h
      rw [ho]
      refine findO_of hpm.2 hxm ?_
      unfold foundB
      rw [hpm.1 x hxm, h]
      simp
    have hro : (cfgP ky5).roBox 3 10 = false := rfl
    have hgx : (L.map fun p => p.1.av)[kk]? = some x.1.av := by rw [hx]; exact ring_get hkl
    have hblk : ∀ tk, blkAt ({ toks := tk, blks := [⟨0, 5, [x.1.av]⟩] } : Hp) 0 0 = some ⟨0, 5, [x.1.av]⟩ := fun _ => rfl
    have hkc : x.1.av.cells = [str x.1.sv, str x.1.id, x.1.p, .v (.int .i64 x.1.f), .v (.int .i64 x.1.u)] := rfl
    have hpt : partA (cfgP ky5) 28 [str x.1.sv, str x.1.id, x.1.p, .v (.int .i64 x.1.f), .v (.int .i64 x.1.u)] 0 = some x.1.av := ptK
    have hel := convB (prim := ky5) (findA_el o)
    have hpl := convB (prim := ky5) hxe
    refine pure_of_wk (call := noCall) (fn := Try.f3) (rs := [.tmp 6]) ky5_ok noCall_ok (fns_cfg Try.func3 rfl) rfl rfl ?_
    intro env hl0 hargs
    have hn : env.length = 126 := hl0
    have h0 := hargs 0 _ rfl
    have h1 := hargs 1 _ rfl
    have h2 := hargs 2 _ rfl
    clear hargs hl0
    refine wkT_of ?_
    simp -dsimp only [hn, h0, h1, h2, ct_prim ky5_7, awkP, lenK hr.el, hlen, hd1, hd20, ct_prim ky5_8, hb, mayP_eq hr hsm, hm, conv3u, convu3, bin_rem hun, hw, wt_seq, wt_block, wt_region, wt_cond, wt_skip, wt_ret, wt_exit, wst_nil, wst_cons, wst_guard, andThen_normal, andThen_ret, andThen_exit, leave_normal, leave_ret, leave_exit, EndsA_ret, EndsA_normal, ot_move, ot_assign, ot_pick, ot_binOp, ot_unOp, ot_convert, ot_field, ot_index, ot_indexAddr, ot_fieldAddr, ot_slice, ot_build, ot_buildSlice, ot_extract, ot_makeInterface, ot_makeFunc, ot_nilCheck, ot_call, ot_len, ot_append, ot_box, ot_load, ot_store, ot_makeSlice, ct_bool, ct_true, ct_false, bt_some, gt_some, aval_tmp, aval_int, aval_bool, aval_str, aval_slice, aval_nilPointer, aval_nilIface, aval_func, aval_global, avals, apairs, bareP, AV.bare, AV.bares, bin_lss, bin_leq, bin_gtr, bin_geq, bin_eql, bin_neq, bin_add, bin_sub, bin_mul, bin_and, bin_or, bin_xor, toV_int, toV_bool, toV_string, un_neg, un_not, bin_str_eql, bin_str_neq, bin_str_lss, bin_str_leq, bin_str_gtr, bin_str_geq, aget_aput, length_aput, aput_none, Nat.reduceEqDiff, Nat.reduceLT, Nat.reduceAdd, reduceIte, reduceCtorEq, Bool.not_false, Bool.not_true, Bool.true_or, true_and, Option.bind_some, Option.map_some, List.nil_append, List.cons_append, resA, resA1, resVal, Option.getD_some, Nat.reduceLeDiff, bnd_some, yieldA_eq, yldOf_some, boolOf_bool, boolOf_undef, gt_none, List.getElem?_toArray, List.getElem?_cons_succ, List.getElem?_cons_zero, bq_true, bq_false, decide_true, decide_false, Option.toList_none, Option.toList_some, List.head?_cons, List.head?_nil]
    refine wt_loop (m := L.length) (fun m e h => ∃ i, i + m = L.length ∧ kfI r L ts kk i e h) ?_ ?_
    · rintro m e h ⟨i, hi, hn, rfl, h0, h1, h7, h8, h9⟩
      by_cases hil : i < L.length
      · have hd : decide ((i : Int) < ((L.length : Nat) : Int)) = true := decide_eq_true (by omega)
        have e1 : IntKind.i64.wrap ((i : Int) + 1) = ((i + 1 : Nat) : Int) := wr64 (by omega) (by omega)
        have e2 : IntKind.i64.wrap ((i : Int) + (kk : Int)) = ((i + kk : Nat) : Int) := wr64 (by omega) (by omega)
        have e3 : Int.tmod ((i + kk : Nat) : Int) ((L.length : Nat) : Int) = (((i + kk) % L.length : Nat) : Int) := by
          rw [Int.tmod_eq_emod_of_nonneg (by omega)]; rfl
        have hml : (i + kk) % L.length < L.length := Nat.mod_lt _ (by omega)
        have hge := turned_get L kk i hkl hil
        rw [List.getElem?_eq_getElem hml, List.getElem?_eq_getElem (by omega)] at hge
        have hge := Option.some.inj hge
        have hsn : tkn L kk i ++ [L[(i + kk) % L.length].1.av] = tkn L kk (i + 1) := by
          unfold tkn
          rw [List.take_succ_eq_append_getElem (by omega), List.map_append, hge]
          rfl
        have hfl := KeyA.flat (pubOf_ok (hr.ok L[(i + kk) % L.length] (List.getElem_mem hml)))
        have hbr : AV.bare L[(i + kk) % L.length].1.av = some L[(i + kk) % L.length].1.av := KeyA.bare (pubOf_ok (hr.ok L[(i + kk) % L.length] (List.getElem_mem hml)))
        have hsz : sized 5 (tkn L kk i) := fun y hy => by
          unfold tkn at hy
          obtain ⟨p, _, rfl⟩ := List.mem_map.1 hy
          rfl
        have happ := appKs (prim := ky5) (f := true) (x := L[(i + kk) % L.length].1.av) rfl hsz (by unfold tkn; rw [List.length_map, List.length_take]; omega)
        rw [hsn] at happ
        simp -dsimp only [hn, h0, h1, h7, h8, h9, lenK hr.el, hlen, hd, e2, bin_rem (show ((L.length : Nat) : Int) ≠ 0 by omega), e3, idxK hr.el (ring_get hml) rfl, ptKa, hbr, bsK hfl, happ, e1, wt_seq, wt_block, wt_region, wt_cond, wt_skip, wt_ret, wt_exit, wst_nil, wst_cons, wst_guard, andThen_normal, andThen_ret, andThen_exit, leave_normal, leave_ret, leave_exit, EndsA_ret, EndsA_normal, ot_move, ot_assign, ot_pick, ot_binOp, ot_unOp, ot_convert, ot_field, ot_index, ot_indexAddr, ot_fieldAddr, ot_slice, ot_build, ot_buildSlice, ot_extract, ot_makeInterface, ot_makeFunc, ot_nilCheck, ot_call, ot_len, ot_append, ot_box, ot_load, ot_store, ot_makeSlice, ct_bool, ct_true, ct_false, bt_some, gt_some, aval_tmp, aval_int, aval_bool, aval_str, aval_slice, aval_nilPointer, aval_nilIface, aval_func, aval_global, avals, apairs, bareP, AV.bare, AV.bares, bin_lss, bin_leq, bin_gtr, bin_geq, bin_eql, bin_neq, bin_add, bin_sub, bin_mul, bin_and, bin_or, bin_xor, toV_int, toV_bool, toV_string, un_neg, un_not, bin_str_eql, bin_str_neq, bin_str_lss, bin_str_leq, bin_str_gtr, bin_str_geq, aget_aput, length_aput, aput_none, Nat.reduceEqDiff, Nat.reduceLT, Nat.reduceAdd, reduceIte, reduceCtorEq, Bool.not_false, Bool.not_true, Bool.true_or, true_and, Option.bind_some, Option.map_some, List.nil_append, List.cons_append, resA, resA1, resVal, Option.getD_some, Nat.reduceLeDiff, bnd_some, yieldA_eq, yldOf_some, boolOf_bool, boolOf_undef, gt_none, List.getElem?_toArray, List.getElem?_cons_succ, List.getElem?_cons_zero, bq_true, bq_false, decide_true, decide_false, Option.toList_none, Option.toList_some, List.head?_cons, List.head?_nil]
        refine ⟨m - 1, by omega, i + 1, by omega, ?_, rfl, ?_, ?_, ?_, ?_, ?_⟩
        all_goals simp -dsimp only [hn, h0, h1, h7, wt_seq, wt_block, wt_region, wt_cond, wt_skip, wt_ret, wt_exit, wst_nil, wst_cons, wst_guard, andThen_normal, andThen_ret, andThen_exit, leave_normal, leave_ret, leave_exit, EndsA_ret, EndsA_normal, ot_move, ot_assign, ot_pick, ot_binOp, ot_unOp, ot_convert, ot_field, ot_index, ot_indexAddr, ot_fieldAddr, ot_slice, ot_build, ot_buildSlice, ot_extract, ot_makeInterface, ot_makeFunc, ot_nilCheck, ot_call, ot_len, ot_append, ot_box, ot_load, ot_store, ot_makeSlice, ct_bool, ct_true, ct_false, bt_some, gt_some, aval_tmp, aval_int, aval_bool, aval_str, aval_slice, aval_nilPointer, aval_nilIface, aval_func, aval_global, avals, apairs, bareP, AV.bare, AV.bares, bin_lss, bin_leq, bin_gtr, bin_geq, bin_eql, bin_neq, bin_add, bin_sub, bin_mul, bin_and, bin_or, bin_xor, toV_int, toV_bool, toV_string, un_neg, un_not, bin_str_eql, bin_str_neq, bin_str_lss, bin_str_leq, bin_str_gtr, bin_str_geq, aget_aput, length_aput, aput_none, Nat.reduceEqDiff, Nat.reduceLT, Nat.reduceAdd, reduceIte, reduceCtorEq, Bool.not_false, Bool.not_true, Bool.true_or, true_and, Option.bind_some, Option.map_some, List.nil_append, List.cons_append, resA, resA1, resVal, Option.getD_some, Nat.reduceLeDiff, bnd_some, yieldA_eq, yldOf_some, boolOf_bool, boolOf_undef, gt_none, List.getElem?_toArray, List.getElem?_cons_succ, List.getElem?_cons_zero, bq_true, bq_false, decide_true, decide_false, Option.toList_none, Option.toList_some, List.head?_cons, List.head?_nil]
      · have hd : decide ((i : Int) < ((L.length : Nat) : Int)) = false := decide_eq_false (by omega)
        have hie : i = L.length := by omega
        subst hie
        rw [hfull, hq0] at h8 ⊢
        rw [hghp]
        have hst := storeG (prim := ky5) (tk := [((q0 :: qs).length, 28)]) hxf
        have hbb : ∀ b : Bool, (b == b) = true := fun b => by cases b <;> rfl
        cases c1 : decide (x.1.f ≤ ts) <;> cases c2 : decide (ts ≤ x.1.u) <;> rcases o with _ | l
        all_goals first
          | (have hl := Option.some.inj (hin (by unfold KeyA.has; rw [c1, c2]; rfl))
             subst hl
             simp -dsimp only [hn, h0, h1, h7, h8, h9, lenK hr.el, hlen, hd, idxK hr.el hgx rfl, ptKa, hpt, ot_alloc, hro, allocG, hst, faP0, faP1, faP2, faP3, faP4, Nat.zero_add, Nat.add_zero, hblk, hkc, pt9, pt2, pt26, ct_prim ky5_9, ct_prim ky5_8, hb, hbg, bare_s, fndP_eq hr hsm, fndP_eq hring hsm', mayP_eq hring hsm', hmay', findV_eq, hfo, ← ho, c1, c2, bool_eql, hel, hpl, hbb, eq_self, Option.isSome_some, Option.isSome_none, findL, wt_seq, wt_block, wt_region, wt_cond, wt_skip, wt_ret, wt_exit, wst_nil, wst_cons, wst_guard, andThen_normal, andThen_ret, andThen_exit, leave_normal, leave_ret, leave_exit, EndsA_ret, EndsA_normal, ot_move, ot_assign, ot_pick, ot_binOp, ot_unOp, ot_convert, ot_field, ot_index, ot_indexAddr, ot_fieldAddr, ot_slice, ot_build, ot_buildSlice, ot_extract, ot_makeInterface, ot_makeFunc, ot_nilCheck, ot_call, ot_len, ot_append, ot_box, ot_load, ot_store, ot_makeSlice, ct_bool, ct_true, ct_false, bt_some, gt_some, aval_tmp, aval_int, aval_bool, aval_str, aval_slice, aval_nilPointer, aval_nilIface, aval_func, aval_global, avals, apairs, bareP, AV.bare, AV.bares, bin_lss, bin_leq, bin_gtr, bin_geq, bin_eql, bin_neq, bin_add, bin_sub, bin_mul, bin_and, bin_or, bin_xor, toV_int, toV_bool, toV_string, un_neg, un_not, bin_str_eql, bin_str_neq, bin_str_lss, bin_str_leq, bin_str_gtr, bin_str_geq, aget_aput, length_aput, aput_none, Nat.reduceEqDiff, Nat.reduceLT, Nat.reduceAdd, reduceIte, reduceCtorEq, Bool.not_false, Bool.not_true, Bool.true_or, true_and, Option.bind_some, Option.map_some, List.nil_append, List.cons_append, resA, resA1, resVal, Option.getD_some, Nat.reduceLeDiff, bnd_some, yieldA_eq, yldOf_some, boolOf_bool, boolOf_undef, gt_none, List.getElem?_toArray, List.getElem?_cons_succ, List.getElem?_cons_zero, bq_true, bq_false, decide_true, decide_false, Option.toList_none, Option.toList_some, List.head?_cons, List.head?_nil]
             exact ⟨1, rfl⟩)
          | (exfalso
             have := hin (by unfold KeyA.has; rw [c1, c2]; rfl)
             cases this)
          | (simp -dsimp only [hn, h0, h1, h7, h8, h9, lenK hr.el, hlen, hd, idxK hr.el hgx rfl, ptKa, hpt, ot_alloc, hro, allocG, hst, faP0, faP1, faP2, faP3, faP4, Nat.zero_add, Nat.add_zero, hblk, hkc, pt9, pt2, pt26, ct_prim ky5_9, ct_prim ky5_8, hb, hbg, bare_s, fndP_eq hr hsm, fndP_eq hring hsm', mayP_eq hring hsm', hmay', findV_eq, hfo, ← ho, c1, c2, bool_eql, hel, hpl, hbb, eq_self, Option.isSome_some, Option.isSome_none, findL, wt_seq, wt_block, wt_region, wt_cond, wt_skip, wt_ret, wt_exit, wst_nil, wst_cons, wst_guard, andThen_normal, andThen_ret, andThen_exit, leave_normal, leave_ret, leave_exit, EndsA_ret, EndsA_normal, ot_move, ot_assign, ot_pick, ot_binOp, ot_unOp, ot_convert, ot_field, ot_index, ot_indexAddr, ot_fieldAddr, ot_slice, ot_build, ot_buildSlice, ot_extract, ot_makeInterface, ot_makeFunc, ot_nilCheck, ot_call, ot_len, ot_append, ot_box, ot_load, ot_store, ot_makeSlice, ct_bool, ct_true, ct_false, bt_some, gt_some, aval_tmp, aval_int, aval_bool, aval_str, aval_slice, aval_nilPointer, aval_nilIface, aval_func, aval_global, avals, apairs, bareP, AV.bare, AV.bares, bin_lss, bin_leq, bin_gtr, bin_geq, bin_eql, bin_neq, bin_add, bin_sub, bin_mul, bin_and, bin_or, bin_xor, toV_int, toV_bool, toV_string, un_neg, un_not, bin_str_eql, bin_str_neq, bin_str_lss, bin_str_leq, bin_str_gtr, bin_str_geq, aget_aput, length_aput, aput_none, Nat.reduceEqDiff, Nat.reduceLT, Nat.reduceAdd, reduceIte, reduceCtorEq, Bool.not_false, Bool.not_true, Bool.true_or, true_and, Option.bind_some, Option.map_some, List.nil_append, List.cons_append, resA, resA1, resVal, Option.getD_some, Nat.reduceLeDiff, bnd_some, yieldA_eq, yldOf_some, boolOf_bool, boolOf_undef, gt_none, List.getElem?_toArray, List.getElem?_cons_succ, List.getElem?_cons_zero, bq_true, bq_false, decide_true, decide_false, Option.toList_none, Option.toList_some, List.head?_cons, List.head?_nil]
             exact ⟨1, rfl⟩)
    · refine ⟨0, Nat.zero_add _, ?_, rfl, ?_, ?_, ?_, ?_, ?_⟩
      any_goals simp -dsimp only [hn, h0, h1, h2, wt_seq, wt_block, wt_region, wt_cond, wt_skip, wt_ret, wt_exit, wst_nil, wst_cons, wst_guard, andThen_normal, andThen_ret, andThen_exit, leave_normal, leave_ret, leave_exit, EndsA_ret, EndsA_normal, ot_move, ot_assign, ot_pick, ot_binOp, ot_unOp, ot_convert, ot_field, ot_index, ot_indexAddr, ot_fieldAddr, ot_slice, ot_build, ot_buildSlice, ot_extract, ot_makeInterface, ot_makeFunc, ot_nilCheck, ot_call, ot_len, ot_append, ot_box, ot_load, ot_store, ot_makeSlice, ct_bool, ct_true, ct_false, bt_some, gt_some, aval_tmp, aval_int, aval_bool, aval_str, aval_slice, aval_nilPointer, aval_nilIface, aval_func, aval_global, avals, apairs, bareP, AV.bare, AV.bares, bin_lss, bin_leq, bin_gtr, bin_geq, bin_eql, bin_neq, bin_add, bin_sub, bin_mul, bin_and, bin_or, bin_xor, toV_int, toV_bool, toV_string, un_neg, un_not, bin_str_eql, bin_str_neq, bin_str_lss, bin_str_leq, bin_str_gtr, bin_str_geq, aget_aput, length_aput, aput_none, Nat.reduceEqDiff, Nat.reduceLT, Nat.reduceAdd, reduceIte, reduceCtorEq, Bool.not_false, Bool.not_true, Bool.true_or, true_and, Option.bind_some, Option.map_some, List.nil_append, List.cons_append, resA, resA1, resVal, Option.getD_some, Nat.reduceLeDiff, bnd_some, yieldA_eq, yldOf_some, boolOf_bool, boolOf_undef, gt_none, List.getElem?_toArray, List.getElem?_cons_succ, List.getElem?_cons_zero, bq_true, bq_false, decide_true, decide_false, Option.toList_none, Option.toList_some, List.head?_cons, List.head?_nil]
      all_goals rfl
end Go.Proofs.Ytonmpbfddiflhaa
