/- Contracts of functions, and plain facts about what they compute. -/
import Derived.Test.YtcimffpckcbdlaaOc
import Derived.Test.YtcimffpckcbdlaaAmD
set_option linter.unusedSimpArgs false
set_option linter.unusedVariables false
/- Chapter 22: All as a table; Few, Texts, place, Has; awake. -/
namespace Go.Proofs.Ytcimffpckcbdlaa
open Go.AM
theorem strs_eq {a b : List Tx} (h : a.map str = b.map str) : a = b := by
  have hl : a.length = b.length := by
    have := congrArg List.length h
    simpa using this
  exact (strs_inj (r := []) (s := []) hl (by simpa using h)).1
theorem ItE.inj {p q : It} {y : AV} (h1 : ItE p y) (h2 : ItE q y) : p = q := by
  obtain ⟨N, rfl, hN⟩ := h1
  obtain ⟨M, e, hM⟩ := h2
  injection e with e
  injection e with e1 e2
  injection e2 with e2 _
  subst e2
  rw [hN] at hM
  injection hM with hM
  exact Prod.ext (str_inj e1) (strs_eq hM)
theorem ItsE.inj : ∀ {l m : List It} {ys : List AV}, ItsE l ys → ItsE m ys → l = m
  | [], [], _, _, _ => rfl
  | [], q :: m, ys, h1, h2 => by
    obtain ⟨y, ys', rfl, _⟩ := h2
    cases (show (y :: ys') = [] from h1)
  | p :: l, [], ys, h1, h2 => by
    obtain ⟨y, ys', rfl, _⟩ := h1
    cases (show (y :: ys') = [] from h2)
  | p :: l, q :: m, ys, h1, h2 => by
    obtain ⟨y, ys', rfl, a1, a2⟩ := h1
    obtain ⟨z, zs', e, b1, b2⟩ := h2
    injection e with e1 e2
    subst e1 e2
    rw [a1.inj b1, ItsE.inj a2 b2]
/-- Items, as they are handed in. -/
structure Ia where
  l : List It
  X : AV
def Ia.ok (p : Ia) : Prop := (∃ ys, elems p.X = some ys ∧ ItsE p.l ys) ∧ p.l.length < 16384 ∧ ∀ x ∈ p.l, x.2.length < 4096
theorem Ia.inj {p q : Ia} (hp : p.ok) (hq : q.ok) (h : p.X = q.X) : p.l = q.l := by
  obtain ⟨⟨ys, h1, h2⟩, _⟩ := hp
  obtain ⟨⟨zs, h3, h4⟩, _⟩ := hq
  rw [h, h3] at h1
  injection h1 with h1
  subst h1
  exact h2.inj h4
noncomputable def allQ := relP Ia.ok (fun p => [p.X]) (fun p => allV p.l)
theorem allQ_eq {l : List It} {X : AV} {ys : List AV} (h1 : elems X = some ys) (h2 : ItsE l ys) (h3 : l.length < 16384) (h4 : ∀ x ∈ l, x.2.length < 4096) : allQ [X] = some (allV l) :=
  relP_eq (X := Ia.ok) (a := fun p => [p.X]) (r := fun p => allV p.l) (fun p q hp hq e => by
    injection e with e _
    rw [Ia.inj hp hq e]) ⟨l, X⟩ ⟨⟨ys, h1, h2⟩, h3, h4⟩
theorem allQ_ok : ∀ xs y, allQ xs = some y → PureOk (cfgP nP) 10 xs y := relP_ok (R := fun xs y => PureOk (cfgP nP) 10 xs y) fun p hp => by
  obtain ⟨⟨ys, h1, h2⟩, h3, h4⟩ := hp
  exact all_ok p.l p.X ys h1 h2 h3 h4
/-! ### Texts -/
structure T2 where
  a : List Tx
  A : AV
  b : List Tx
  B : AV
def T2.ok (p : T2) : Prop := elems p.A = some (p.a.map str) ∧ elems p.B = some (p.b.map str) ∧ p.a.length < 1073741824
theorem tx_get {a : List Tx} {i : Nat} {x : Tx} (h : a[i]? = some x) : (a.map str)[i]? = some (str x) := by rw [List.getElem?_map, h]; rfl
/-! ### Few -/
structure Fa where
  l : List It
  X : AV
def Fa.ok (p : Fa) : Prop := (∃ ys, elems p.X = some ys ∧ ItsE p.l ys) ∧ p.l.length ≤ 9223372036854775807 ∧ ∀ x ∈ p.l, x.2.length ≤ 9223372036854775807
/-! ### awake -/
theorem oawake_run : (callA (cfgP nP) 5000 8 [] {}).map (·.1) = some (.v (.bool true)) := by kernel_rfl
def oawakeP : List AV → Option AV
  | [] => some (.v (.bool true))
  | _ => none
theorem oawake_ok : ∀ xs r, oawakeP xs = some r → PureOk (cfgP nP) 8 xs r := by
  intro xs r h
  unfold oawakeP at h
  split at h
  · injection h with h; subst h
    obtain ⟨⟨x, H⟩, hr, hx⟩ := Option.map_eq_some_iff.1 oawake_run
    cases hx
    exact pureOk_of (n := 1) (((callA_ok nP_ok 5000).ok _ _ _ _ _ hr).2) rfl
  · cases h
end Go.Proofs.Ytcimffpckcbdlaa

/- Chapter 22: what an order is like: whatever the items' order it is the same; each is behind its needs; of what is ready the least comes. -/
namespace Go.Proofs.Ytcimffpckcbdlaa
open Go.AM
theorem least_perm {L M : List Tx} (h : L.Perm M) : least L = least M := by
  cases hM : least M with
  | none =>
    have := least_none hM
    subst this
    rw [List.perm_nil.1 h]
    rfl
  | some x =>
    obtain ⟨h1, h2⟩ := least_mem hM
    exact least_eq (h.mem_iff.2 h1) fun y hy => h2 y (h.mem_iff.1 hy)
theorem stepS_perm {l m : List It} (h : l.Perm m) (out : List Tx) : stepS l out = stepS m out := least_perm ((h.filter _).map _)
theorem runS_perm {l m : List It} (h : l.Perm m) : ∀ (k : Nat) (out : List Tx), runS l k out = runS m k out
  | 0, out => rfl
  | k + 1, out => by
    unfold runS
    rw [stepS_perm h]
    split
    · rfl
    · exact runS_perm h k _
theorem allS_perm {l m : List It} (h : l.Perm m) : allS l = allS m := by
  unfold allS
  have h1 : (ids l).Perm (ids m) := h.map _
  have e1 : (ids l).Nodup ↔ (ids m).Nodup := h1.nodup_iff
  have e2 : (l.all fun x => x.2.all (ids l).contains) = (m.all fun x => x.2.all (ids m).contains) := by
    rw [Bool.eq_iff_iff, List.all_eq_true, List.all_eq_true]
    have hc : ∀ t, (ids l).contains t = (ids m).contains t := by
      intro t
      rw [Bool.eq_iff_iff]
      simp only [List.contains_iff_mem]
      exact h1.mem_iff
    constructor
    · intro hh x hx
      have := hh x (h.mem_iff.2 hx)
      rw [List.all_eq_true] at this ⊢
      intro t ht
      rw [← hc]
      exact this t ht
    · intro hh x hx
      have := hh x (h.mem_iff.1 hx)
      rw [List.all_eq_true] at this ⊢
      intro t ht
      rw [hc]
      exact this t ht
  rw [e2, h.length_eq, runS_perm h]
  by_cases hn : (ids m).Nodup
  · rw [if_pos (e1.2 hn), if_pos hn]
  · rw [if_neg (fun hh => hn (e1.1 hh)), if_neg hn]
theorem rot_perm (l : List It) (k : Nat) : (l.drop k ++ l.take k).Perm l := by
  have h := List.perm_append_comm (l₁ := l.drop k) (l₂ := l.take k)
  rwa [List.take_append_drop] at h
/-- Texts as items that need nothing: where one stands. -/
def asI (a : List Tx) : List It := a.map fun t => (t, [])
end Go.Proofs.Ytcimffpckcbdlaa

/- Chapter 22: what a call of a law is handed: items, texts. -/
namespace Go.Proofs.Ytcimffpckcbdlaa
open Go.AM
section
variable {P : Program}
end
end Go.Proofs.Ytcimffpckcbdlaa

/- Chapter 22: OrderRises. -/
namespace Go.Proofs.Ytcimffpckcbdlaa
open Go.AM
theorem slS_el {a : List Tx} : elems (slS a) = some (a.map str) := by
  unfold slS
  split
  · rename_i h
    rw [h]
    rfl
  · rfl
theorem ItsE.cells : ∀ {l : List It} {ys : List AV}, ItsE l ys → ∀ y ∈ ys, y.cells.length = 2
  | [], ys, h, y, hy => by
    have h' : ys = [] := h
    rw [h'] at hy
    cases hy
  | p :: r, ys, h, y, hy => by
    obtain ⟨z, zs, rfl, ⟨N, rfl, _⟩, h2⟩ := h
    rcases List.mem_cons.1 hy with rfl | hy
    · rfl
    · exact ItsE.cells (l := r) h2 y hy
theorem ItsE.append : ∀ {l m : List It} {ys zs : List AV}, ItsE l ys → ItsE m zs → ItsE (l ++ m) (ys ++ zs)
  | [], m, ys, zs, h1, h2 => by
    have h' : ys = [] := h1
    rw [h']
    exact h2
  | p :: r, m, ys, zs, h1, h2 => by
    obtain ⟨y, ys', rfl, a1, a2⟩ := h1
    exact ⟨y, ys' ++ zs, rfl, a1, ItsE.append a2 h2⟩
theorem ItsE.drop : ∀ {l : List It} {ys : List AV} (k : Nat), ItsE l ys → ItsE (l.drop k) (ys.drop k)
  | l, ys, 0, h => h
  | [], ys, k + 1, h => by
    have h' : ys = [] := h
    rw [h']
    rfl
  | p :: r, ys, k + 1, h => by
    obtain ⟨y, ys', rfl, _, a2⟩ := h
    exact ItsE.drop k a2
theorem ItsE.take : ∀ {l : List It} {ys : List AV} (k : Nat), ItsE l ys → ItsE (l.take k) (ys.take k)
  | l, ys, 0, h => rfl
  | [], ys, k + 1, h => by
    have h' : ys = [] := h
    rw [h']
    rfl
  | p :: r, ys, k + 1, h => by
    obtain ⟨y, ys', rfl, a1, a2⟩ := h
    exact ⟨y, ys'.take k, rfl, a1, ItsE.take k a2⟩
section
variable {prim : FuncId → Option (List AV → Option AV)}
def hT1 (n : Nat) : Hp := { toks := [(n, 34)] }
theorem bs22 : buildSliceA (cfgP prim) 22 0 [] = some (.cl true []) := by kernel_rfl
theorem cv329 {T : Int} : convA (cfgP prim) 3 29 (.v (.int .i64 T)) = some (.v (.int .u64 (IntKind.u64.wrap T))) := by kernel_rfl
theorem cv293 {T : Int} : convA (cfgP prim) 29 3 (.v (.int .u64 T)) = some (.v (.int .i64 (IntKind.i64.wrap T))) := by kernel_rfl
end
theorem wrapU {T : Int} : 0 ≤ IntKind.u64.wrap T ∧ IntKind.u64.wrap T < 18446744073709551616 := by
  simp only [IntKind.wrap, IntKind.bits, IntKind.signed]
  constructor
  · exact Int.emod_nonneg _ (by decide)
  · exact Int.emod_lt_of_pos _ (by decide)
theorem wrapUN {n : Nat} (h : n < 18446744073709551616) : IntKind.u64.wrap (n : Int) = n := by
  simp [IntKind.wrap, IntKind.bits, IntKind.signed]
  omega
/-- uint(turn) % uint(n) -/
theorem turn_rem {prim : FuncId → Option (List AV → Option AV)} (T : Int) {n : Nat} (h0 : 0 < n) (h1 : n < 1073741824) : ∃ k : Nat, k < n ∧ ∀ {x y : Operand}, binA (cfgP prim) .rem 29 x y (.v (.int .u64 (IntKind.u64.wrap T))) (.v (.int .u64 (n : Int))) = some (.v (.int .u64 (k : Int))) := by
  obtain ⟨hU1, hU2⟩ := wrapU (T := T)
  obtain ⟨k, hk⟩ : ∃ k : Nat, Int.tmod (IntKind.u64.wrap T) (n : Int) = (k : Int) := by
    rw [Int.tmod_eq_emod_of_nonneg hU1]
    exact ⟨(IntKind.u64.wrap T % (n : Int)).toNat, by rw [Int.toNat_of_nonneg (Int.emod_nonneg _ (by omega))]⟩
  refine ⟨k, ?_, fun {x y} => ?_⟩
  · have := Int.emod_lt_of_pos (IntKind.u64.wrap T) (show (0 : Int) < (n : Int) by omega)
    rw [← Int.tmod_eq_emod_of_nonneg hU1, hk] at this
    omega
  · rw [bin_rem (by omega), hk]
structure R1 (X A : AV) (i : Nat) (a : List Tx) (e : Env) (h : Hp) : Prop where
  len : e.length = 179
  a0 : aget e 0 = X
  a5 : aget e 5 = A
  a10 : aget e 10 = .mp 0
  a11 : aget e 11 = .v (.int .i64 (i : Int))
  mp : LkM h (plc (asI (a.take i)))
structure R2 (X A : AV) (i : Nat) (a : List Tx) (e : Env) (h : Hp) : Prop where
  len : e.length = 179
  a0 : aget e 0 = X
  a5 : aget e 5 = A
  a10 : aget e 10 = .mp 0
  a14 : aget e 14 = .v (.int .i64 (i : Int))
  mp : LkM h (plc (asI a))
end Go.Proofs.Ytcimffpckcbdlaa
