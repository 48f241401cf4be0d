/- UTF-8 in plain Lean, and what the shelf says as a contract of the machine. -/
import Derived.Test.YtjejeijldllloaaDoorAmD
import Derived.Lib.RuneCount
import Derived.Test.YtjejeijldllloaaDoorAmC
import Derived.Test.YtjejeijldllloaaDoorAmA
import Derived.Shelf.Lay
import Derived.Shelf.LaySoft
import Derived.Shelf.Utf8.RuneCount
set_option linter.unusedSimpArgs false
set_option linter.unusedVariables false
namespace Go.AM
/-! ### UTF-8 as lists of bytes -/
/-- What the table of first bytes says. -/
def firstN (n : Nat) : Nat := if n < 0x80 then 0xF0 else if n < 0xC2 then 0xF1 else if n < 0xE0 then 0x02 else if n = 0xE0 then 0x13 else if n < 0xED then 0x03 else if n = 0xED then 0x23 else if n < 0xF0 then 0x03 else if n = 0xF0 then 0x34 else if n < 0xF4 then 0x04 else if n = 0xF4 then 0x44 else 0xF1
def accN : List (Nat × Nat) := [(128, 191), (160, 191), (128, 159), (144, 191), (128, 143), (0, 0), (0, 0), (0, 0), (0, 0), (0, 0), (0, 0), (0, 0), (0, 0), (0, 0), (0, 0), (0, 0)]
def firstA : List AV := (List.range 256).map fun n => .v (.int .u8 (firstN n : Nat))
def accA : List AV := accN.flatMap fun p => [.v (.int .u8 (p.1 : Nat)), .v (.int .u8 (p.2 : Nat))]
/-- How many bytes a code point has that begins so; 0: none does. -/
def szN (c : Nat) : Nat := if c < 0x80 then 1 else if c < 0xC2 then 0 else if c < 0xE0 then 2 else if c < 0xF0 then 3 else if c < 0xF5 then 4 else 0
/-- From where to where the second byte may be. -/
def loN (c : Nat) : Nat := if c = 0xE0 then 160 else if c = 0xF0 then 144 else 128
def hiN (c : Nat) : Nat := if c = 0xED then 159 else if c = 0xF4 then 143 else 191
def contB (b : UInt8) : Bool := decide (128 ≤ b.toNat) && decide (b.toNat ≤ 191)
def secB (c b : UInt8) : Bool := decide (loN c.toNat ≤ b.toNat) && decide (b.toNat ≤ hiN c.toNat)
/-- How many bytes the code point has that stands ahead; 0: none does. -/
def stepN : List UInt8 → Nat
  | [] => 0
  | c :: r => if szN c.toNat = 1 then 1
    else if szN c.toNat = 2 then (match r with | b :: _ => if secB c b then 2 else 0 | _ => 0)
    else if szN c.toNat = 3 then (match r with | b :: d :: _ => if secB c b && contB d then 3 else 0 | _ => 0)
    else if szN c.toNat = 4 then (match r with | b :: d :: e :: _ => if secB c b && contB d && contB e then 4 else 0 | _ => 0)
    else 0
theorem stepN_le (l : List UInt8) : stepN l ≤ l.length ∧ stepN l ≤ 4 := by
  unfold stepN
  repeat' split
  all_goals simp only [List.length_cons, List.length_nil]; omega
/-- How many code points; none: it is not well-formed. -/
def cntF : Nat → List UInt8 → Option Nat
  | _, [] => some 0
  | 0, _ :: _ => none
  | f + 1, c :: r => if stepN (c :: r) = 0 then none else (cntF f ((c :: r).drop (stepN (c :: r)))).map (· + 1)
def cnt (l : List UInt8) : Option Nat := cntF l.length l
theorem cntF_eq : ∀ (f : Nat) (l : List UInt8), l.length ≤ f → cntF f l = cnt l
  | 0, [], _ => rfl
  | 0, c :: r, h => by simp at h
  | f + 1, [], _ => rfl
  | f + 1, c :: r, h => by
    unfold cnt
    simp only [List.length_cons, cntF]
    split
    · rfl
    · rename_i hs
      have h1 : ((c :: r).drop (stepN (c :: r))).length ≤ r.length := by
        rw [List.length_drop, List.length_cons]
        omega
      rw [cntF_eq f _ (by simp only [List.length_cons] at h; omega), cntF_eq r.length _ h1]
termination_by f => f
theorem cnt_nil : cnt [] = some 0 := rfl
theorem cnt_cons (c : UInt8) (r : List UInt8) : cnt (c :: r) = if stepN (c :: r) = 0 then none else (cnt ((c :: r).drop (stepN (c :: r)))).map (· + 1) := by
  conv => lhs; unfold cnt
  simp only [List.length_cons, cntF]
  split
  · rfl
  · rw [cntF_eq]
    rw [List.length_drop, List.length_cons]
    omega
theorem cnt_step {l : List UInt8} (h : stepN l ≠ 0) : cnt l = (cnt (l.drop (stepN l))).map (· + 1) := by
  cases l with
  | nil => exact absurd rfl h
  | cons c r => rw [cnt_cons, if_neg h]
theorem cnt_bad {l : List UInt8} (h : stepN l = 0) (hl : l ≠ []) : cnt l = none := by
  cases l with
  | nil => exact absurd rfl hl
  | cons c r => rw [cnt_cons, if_pos h]
/-- Is it well-formed? -/
def utfB (l : List UInt8) : Bool := (cnt l).isSome
theorem utfB_step {l : List UInt8} (h : stepN l ≠ 0) : utfB l = utfB (l.drop (stepN l)) := by
  unfold utfB
  rw [cnt_step h]
  cases cnt (l.drop (stepN l)) <;> rfl
theorem utfB_bad {l : List UInt8} (h : stepN l = 0) (hl : l ≠ []) : utfB l = false := by
  unfold utfB
  rw [cnt_bad h hl]
  rfl
theorem szN_ascii {c : UInt8} (h : c.toNat < 128) : szN c.toNat = 1 := by unfold szN; rw [if_pos h]
theorem stepN_ascii {c : UInt8} {r : List UInt8} (h : c.toNat < 128) : stepN (c :: r) = 1 := by
  simp only [stepN, szN_ascii h, if_true]
theorem utfB_ascii : ∀ (k : Nat) (l : List UInt8), k ≤ l.length → (∀ c ∈ l.take k, c.toNat < 128) → utfB l = utfB (l.drop k)
  | 0, _, _, _ => rfl
  | k + 1, [], h, _ => by simp at h
  | k + 1, c :: r, h, ha => by
    have h1 := stepN_ascii (r := r) (ha c (by simp))
    rw [utfB_step (by rw [h1]; decide), h1, List.drop_succ_cons, List.drop_zero, List.drop_succ_cons]
    exact utfB_ascii k r (by simp at h; omega) fun x hx => ha x (by simp [hx])
/-- What stands behind does not matter. -/
theorem stepN_append {a b : List UInt8} (h : stepN a ≠ 0) : stepN (a ++ b) = stepN a := by
  cases a with
  | nil => exact absurd rfl h
  | cons c r =>
    unfold stepN at *
    simp only [List.cons_append] at *
    repeat' split at h
    all_goals first
      | exact absurd rfl h
      | simp_all
theorem cnt_append : ∀ (n : Nat) (a b : List UInt8) (m : Nat), a.length ≤ n → cnt a = some m → cnt (a ++ b) = (cnt b).map (m + ·)
  | 0, [], b, m, _, h => by
    rw [cnt_nil] at h
    injection h with h; subst h
    cases hb : cnt b <;> simp [hb]
  | 0, c :: r, b, m, hl, _ => by simp at hl
  | n + 1, [], b, m, _, h => by
    rw [cnt_nil] at h
    injection h with h; subst h
    cases hb : cnt b <;> simp [hb]
  | n + 1, c :: r, b, m, hl, h => by
    have hs : stepN (c :: r) ≠ 0 := fun h0 => by rw [cnt_bad h0 (by simp)] at h; cases h
    rw [cnt_step hs, Option.map_eq_some_iff] at h
    obtain ⟨k, hk, rfl⟩ := h
    have h2 := stepN_append (b := b) hs
    have hle := (stepN_le (c :: r)).1
    rw [cnt_step (by rw [h2]; exact hs), h2, List.drop_append_of_le_length hle, cnt_append n _ b k (by rw [List.length_drop]; simp only [List.length_cons] at *; omega) hk]
    cases cnt b with
    | none => rfl
    | some j => simp only [Option.map_some]; congr 1; omega
theorem utfB_append {a b : List UInt8} (h : utfB a = true) : utfB (a ++ b) = utfB b := by
  obtain ⟨m, hm⟩ := Option.isSome_iff_exists.1 h
  unfold utfB
  rw [cnt_append _ a b m (Nat.le_refl _) hm]
  cases cnt b <;> rfl
end Go.AM

namespace Go.AM
/-! ### How the model's decoder steps -/
theorem bang_drop {l : List UInt8} {pos : Nat} {r : List UInt8} (h : l.drop pos = r) (k : Nat) (hk : k < r.length) : (⟨l.toArray⟩ : ByteArray).get! (pos + k) = r[k] := by
  have hl : pos + k < l.length := by
    have := congrArg List.length h
    rw [List.length_drop] at this
    omega
  have h1 := get_bang hl
  have h2 : r[k] = l[pos + k] := by
    subst h
    rw [List.getElem_drop]
  rw [h2, ← h1]
  rw [getElem!_pos (⟨l.toArray⟩ : ByteArray) (pos + k) (by rw [str_size]; exact hl)]
  show (l.toArray)[pos + k]! = _
  simp [ByteArray.getElem_eq_getElem_data, hl]
theorem decode_step {l : List UInt8} {pos : Nat} (h : stepN (l.drop pos) ≠ 0) : (Utf8.decode ⟨l.toArray⟩ pos).2 = stepN (l.drop pos) := by
  obtain ⟨r, hr⟩ : ∃ r, l.drop pos = r := ⟨_, rfl⟩
  rw [hr] at h ⊢
  have hsz : (⟨l.toArray⟩ : ByteArray).size = pos + r.length ∨ r = [] := by
    rw [str_size]
    have := congrArg List.length hr
    rw [List.length_drop] at this
    cases r with
    | nil => exact .inr rfl
    | cons => left; simp only [List.length_cons] at *; omega
  have hat := fun k hk => bang_drop hr k hk
  cases r with
  | nil => exact absurd rfl h
  | cons c r =>
    have hsz : (⟨l.toArray⟩ : ByteArray).size = pos + (c :: r).length := by
      rcases hsz with h | h
      · exact h
      · cases h
    have h0 := hat 0 (by simp)
    simp only [Nat.add_zero, List.getElem_cons_zero] at h0
    have hc := UInt8.toNat_lt c
    unfold stepN at h ⊢
    simp only at h ⊢
    by_cases s1 : szN c.toNat = 1
    · rw [if_pos s1] at h ⊢
      have : c.toNat < 128 := by
        unfold szN at s1
        repeat' split at s1
        all_goals first | omega | (exfalso; omega)
      simp only [Utf8.decode, Nat.add_zero, h0, this, if_true]
    rw [if_neg s1] at h ⊢
    by_cases s2 : szN c.toNat = 2
    · rw [if_pos s2] at h ⊢
      have hcr : 0xC2 ≤ c.toNat ∧ c.toNat < 0xE0 := by
        unfold szN at s2
        repeat' split at s2
        all_goals omega
      cases r with
      | nil => exact absurd rfl h
      | cons b r =>
        simp only at h ⊢
        split at h
        · rename_i hs
          rw [if_pos hs]
          have h1 := hat 1 (by simp)
          simp only [List.getElem_cons_succ, List.getElem_cons_zero] at h1
          unfold secB loN hiN at hs
          simp only [Bool.and_eq_true, decide_eq_true_eq] at hs
          have hb : 128 ≤ b.toNat ∧ b.toNat ≤ 191 := by
            rw [if_neg (by omega), if_neg (by omega), if_neg (by omega), if_neg (by omega)] at hs
            exact hs
          have e0 : ¬ c.toNat < 128 := by omega
          have e1 : (c.toNat / 32 == 6) = true := by rw [beq_iff_eq]; omega
          have e2 : (b.toNat / 64 == 2) = true := by rw [beq_iff_eq]; omega
          have e3 : decide (pos + 1 < pos + (r.length + 1 + 1)) = true := decide_eq_true (by omega)
          have e4 : c.toNat % 32 * 64 + b.toNat % 64 ≥ 128 := by omega
          simp only [Utf8.decode, Nat.add_zero, h0, h1, hsz, List.length_cons, e0, if_false, e1, e2, e3, Bool.and_self, if_true, e4]
        · exact absurd rfl h
    rw [if_neg s2] at h ⊢
    by_cases s3 : szN c.toNat = 3
    · rw [if_pos s3] at h ⊢
      have hcr : 0xE0 ≤ c.toNat ∧ c.toNat < 0xF0 := by
        unfold szN at s3
        repeat' split at s3
        all_goals omega
      match r, h with
      | b :: d :: r, h =>
        simp only at h ⊢
        split at h
        · rename_i hs
          rw [if_pos hs]
          have h1 := hat 1 (by simp)
          have h2 := hat 2 (by simp)
          simp only [List.getElem_cons_succ, List.getElem_cons_zero] at h1 h2
          unfold secB contB loN hiN at hs
          simp only [Bool.and_eq_true, decide_eq_true_eq] at hs
          obtain ⟨⟨hs1, hs2⟩, hs3, hs4⟩ := hs
          rw [if_neg (show ¬ c.toNat = 240 by omega)] at hs1
          rw [if_neg (show ¬ c.toNat = 244 by omega)] at hs2
          have hb : 128 ≤ b.toNat ∧ b.toNat ≤ 191 := by
            constructor
            · split at hs1 <;> omega
            · split at hs2 <;> omega
          have e0 : ¬ c.toNat < 128 := by omega
          have e1 : (c.toNat / 32 == 6) = false := by rw [beq_eq_false_iff_ne]; omega
          have e1' : (c.toNat / 16 == 14) = true := by rw [beq_iff_eq]; omega
          have e2 : (b.toNat / 64 == 2) = true := by rw [beq_iff_eq]; omega
          have e2' : (d.toNat / 64 == 2) = true := by rw [beq_iff_eq]; omega
          have e3 : decide (pos + 1 < pos + (r.length + 1 + 1 + 1)) = true := decide_eq_true (by omega)
          have e3' : decide (pos + 2 < pos + (r.length + 1 + 1 + 1)) = true := decide_eq_true (by omega)
          have e4 : c.toNat % 16 * 4096 + b.toNat % 64 * 64 + d.toNat % 64 ≥ 2048 := by
            split at hs1 <;> omega
          have e5 : Utf8.valid ((c.toNat % 16 * 4096 + b.toNat % 64 * 64 + d.toNat % 64 : Nat) : Int) = true := by
            simp only [Utf8.valid, Bool.or_eq_true, Bool.and_eq_true, decide_eq_true_eq, Bool.not_eq_true', decide_eq_false_iff_not]
            split at hs2 <;> omega
          simp only [Utf8.decode, Nat.add_zero, h0, h1, h2, hsz, List.length_cons, e0, if_false, e1, e1', e2, e2', e3, e3', Bool.and_self, Bool.false_and, Bool.false_eq_true, if_true, e4, e5, decide_true]
        · exact absurd rfl h
    rw [if_neg s3] at h ⊢
    by_cases s4 : szN c.toNat = 4
    · rw [if_pos s4] at h ⊢
      have hcr : 0xF0 ≤ c.toNat ∧ c.toNat < 0xF5 := by
        unfold szN at s4
        repeat' split at s4
        all_goals omega
      match r, h with
      | b :: d :: e :: r, h =>
        simp only at h ⊢
        split at h
        · rename_i hs
          rw [if_pos hs]
          have h1 := hat 1 (by simp)
          have h2 := hat 2 (by simp)
          have h3 := hat 3 (by simp)
          simp only [List.getElem_cons_succ, List.getElem_cons_zero] at h1 h2 h3
          unfold secB contB loN hiN at hs
          simp only [Bool.and_eq_true, decide_eq_true_eq] at hs
          obtain ⟨⟨⟨hs1, hs2⟩, hs3, hs4⟩, hs5, hs6⟩ := hs
          rw [if_neg (show ¬ c.toNat = 224 by omega)] at hs1
          rw [if_neg (show ¬ c.toNat = 237 by omega)] at hs2
          have hb : 128 ≤ b.toNat ∧ b.toNat ≤ 191 := by
            constructor
            · split at hs1 <;> omega
            · split at hs2 <;> omega
          have e0 : ¬ c.toNat < 128 := by omega
          have e1 : (c.toNat / 32 == 6) = false := by rw [beq_eq_false_iff_ne]; omega
          have e1' : (c.toNat / 16 == 14) = false := by rw [beq_eq_false_iff_ne]; omega
          have e1'' : (c.toNat / 8 == 30) = true := by rw [beq_iff_eq]; omega
          have e2 : (b.toNat / 64 == 2) = true := by rw [beq_iff_eq]; omega
          have e2' : (d.toNat / 64 == 2) = true := by rw [beq_iff_eq]; omega
          have e2'' : (e.toNat / 64 == 2) = true := by rw [beq_iff_eq]; omega
          have e3 : decide (pos + 1 < pos + (r.length + 1 + 1 + 1 + 1)) = true := decide_eq_true (by omega)
          have e3' : decide (pos + 2 < pos + (r.length + 1 + 1 + 1 + 1)) = true := decide_eq_true (by omega)
          have e3'' : decide (pos + 3 < pos + (r.length + 1 + 1 + 1 + 1)) = true := decide_eq_true (by omega)
          have e4 : c.toNat % 8 * 262144 + b.toNat % 64 * 4096 + d.toNat % 64 * 64 + e.toNat % 64 ≥ 65536 := by
            split at hs1 <;> omega
          have e5 : Utf8.valid ((c.toNat % 8 * 262144 + b.toNat % 64 * 4096 + d.toNat % 64 * 64 + e.toNat % 64 : Nat) : Int) = true := by
            simp only [Utf8.valid, Bool.or_eq_true, Bool.and_eq_true, decide_eq_true_eq, Bool.not_eq_true', decide_eq_false_iff_not]
            split at hs2 <;> omega
          simp only [Utf8.decode, Nat.add_zero, h0, h1, h2, h3, hsz, List.length_cons, e0, if_false, e1, e1', e1'', e2, e2', e2'', e3, e3', e3'', Bool.and_self, Bool.false_and, Bool.false_eq_true, if_true, e4, e5, decide_true]
        · exact absurd rfl h
    rw [if_neg s4] at h
    first | done | exact absurd rfl h
theorem runeCount_cnt (l : List UInt8) : ∀ (f pos m : Nat), cnt (l.drop pos) = some m → l.length ≤ pos + f → Lib.runeCountFrom ⟨l.toArray⟩ f pos = m
  | 0, pos, m, h, hf => by
    have : l.drop pos = [] := List.drop_eq_nil_of_le (by omega)
    rw [this, cnt_nil] at h
    cases h
    rfl
  | f + 1, pos, m, h, hf => by
    unfold Lib.runeCountFrom
    rw [str_size]
    by_cases hp : pos < l.length
    · rw [if_pos hp]
      have hne : l.drop pos ≠ [] := by
        intro he
        have := congrArg List.length he
        rw [List.length_drop, List.length_nil] at this
        omega
      have hs : stepN (l.drop pos) ≠ 0 := fun h0 => by rw [cnt_bad h0 hne] at h; cases h
      rw [cnt_step hs, Option.map_eq_some_iff] at h
      obtain ⟨k, hk, rfl⟩ := h
      rw [decode_step hs]
      rw [List.drop_drop] at hk
      rw [runeCount_cnt l f _ k hk (by omega), Nat.add_comm]
    · have : l.drop pos = [] := List.drop_eq_nil_of_le (by omega)
      rw [this, cnt_nil] at h
      rw [if_neg hp]
      cases h
      rfl
theorem runeCount_of {l : List UInt8} {m : Nat} (h : cnt l = some m) : Lib.runeCount ⟨l.toArray⟩ = m := by
  unfold Lib.runeCount
  exact runeCount_cnt l _ 0 m (by simpa using h) (by rw [str_size]; omega)
end Go.AM

namespace Go.AM
/-! ### Words of eight bytes -/
def bv (c : UInt8) : BitVec 64 := BitVec.ofNat 64 c.toNat
def wb : List UInt8 → BitVec 64
  | a :: b :: c :: d :: e :: f :: g :: h :: _ => ((((((bv a ||| bv b <<< 8) ||| bv c <<< 16) ||| bv d <<< 24) ||| bv e <<< 32) ||| bv f <<< 40) ||| bv g <<< 48) ||| bv h <<< 56
  | _ => 0
def wM : BitVec 64 := 9259542123273814144
theorem w_u64 (n : Nat) (h : n < 2 ^ 64) : IntKind.u64.wrap (n : Int) = (n : Int) := by
  simp [IntKind.wrap, IntKind.bits, IntKind.signed]
  omega
theorem w_conv (c : UInt8) : IntKind.u64.wrap ((c.toNat : Nat) : Int) = ((bv c).toNat : Int) := by
  have := UInt8.toNat_lt c
  rw [w_u64 _ (by omega)]
  simp only [bv, BitVec.toNat_ofNat]
  omega
theorem w_ofInt (x : BitVec 64) : BitVec.ofInt IntKind.u64.bits ((x.toNat : Nat) : Int) = x := by
  show BitVec.ofInt 64 ((x.toNat : Nat) : Int) = x
  rw [BitVec.ofInt_natCast, BitVec.ofNat_toNat, BitVec.setWidth_eq]
theorem w_or (x y : BitVec 64) : IntKind.u64.wrap ((BitVec.ofInt IntKind.u64.bits ((x.toNat : Nat) : Int) ||| BitVec.ofInt IntKind.u64.bits ((y.toNat : Nat) : Int)).toNat : Nat) = (((x ||| y).toNat : Nat) : Int) := by
  rw [w_ofInt, w_ofInt]
  exact w_u64 _ (x ||| y).isLt
theorem w_and (x : BitVec 64) : IntKind.u64.wrap ((BitVec.ofInt IntKind.u64.bits ((x.toNat : Nat) : Int) &&& BitVec.ofInt IntKind.u64.bits 9259542123273814144).toNat : Nat) = (((x &&& wM).toNat : Nat) : Int) := by
  rw [w_ofInt, show BitVec.ofInt IntKind.u64.bits 9259542123273814144 = wM from rfl]
  exact w_u64 _ (x &&& wM).isLt
theorem w_shl (x : BitVec 64) (k : Nat) (h : k ≤ 64) : IntKind.u64.wrap (((x.toNat : Nat) : Int) * 2 ^ min ((k : Nat) : Int).toNat IntKind.u64.bits) = (((x <<< k).toNat : Nat) : Int) := by
  have hm : min ((k : Nat) : Int).toNat IntKind.u64.bits = k := by
    rw [Int.toNat_natCast]
    exact Nat.min_eq_left h
  rw [hm, BitVec.toNat_shiftLeft, Nat.shiftLeft_eq]
  have : (((x.toNat : Nat) : Int) * 2 ^ k) = ((x.toNat * 2 ^ k : Nat) : Int) := by
    rw [Int.natCast_mul, Int.natCast_pow]
    rfl
  rw [this]
  simp only [IntKind.wrap, IntKind.bits, IntKind.signed]
  simp
theorem bit7 (c : UInt8) (h : (bv c).getLsbD 7 = false) : c.toNat < 128 := by
  have hc := UInt8.toNat_lt c
  simp only [bv, BitVec.getLsbD_ofNat] at h
  have h1 : c.toNat.testBit 7 = false := by simpa using h
  rw [Nat.testBit_eq_decide_div_mod_eq] at h1
  simp at h1
  omega
theorem wb_ascii {l : List UInt8} (hl : 8 ≤ l.length) (h : ((wb l &&& wM).toNat : Int) = 0) : ∀ c ∈ l.take 8, c.toNat < 128 := by
  have h0 : wb l &&& wM = 0 := by
    apply BitVec.eq_of_toNat_eq
    have : (wb l &&& wM).toNat = 0 := by exact_mod_cast h
    rw [this]
    rfl
  match l, hl with
  | a :: b :: c :: d :: e :: f :: g :: i :: r, _ =>
    have hb : ∀ k, (wb (a :: b :: c :: d :: e :: f :: g :: i :: r)).getLsbD k = false ∨ wM.getLsbD k = false := by
      intro k
      have := congrArg (fun x => BitVec.getLsbD x k) h0
      simp only [BitVec.getLsbD_and] at this
      cases h1 : (wb (a :: b :: c :: d :: e :: f :: g :: i :: r)).getLsbD k
      · exact .inl rfl
      · rw [h1] at this
        right
        simpa using this
    have key : ∀ k, wM.getLsbD k = true → (wb (a :: b :: c :: d :: e :: f :: g :: i :: r)).getLsbD k = false := fun k hk => (hb k).resolve_right (by rw [hk]; decide)
    have k0 := key 7 (by decide)
    have k1 := key 15 (by decide)
    have k2 := key 23 (by decide)
    have k3 := key 31 (by decide)
    have k4 := key 39 (by decide)
    have k5 := key 47 (by decide)
    have k6 := key 55 (by decide)
    have k7 := key 63 (by decide)
    simp only [wb, BitVec.getLsbD_or, Bool.or_eq_false_iff, BitVec.getLsbD_shiftLeft] at k0 k1 k2 k3 k4 k5 k6 k7
    simp at k0 k1 k2 k3 k4 k5 k6 k7
    intro x hx
    simp at hx
    rcases hx with rfl | rfl | rfl | rfl | rfl | rfl | rfl | rfl
    all_goals (apply bit7; simp_all)
end Go.AM
namespace Go.AM
/-! ### What the tables say of a byte -/
theorem first_cls : ∀ n : Fin 256, 128 ≤ n.1 → firstN n.1 % 8 = (if szN n.1 = 0 then 1 else szN n.1) ∧ firstN n.1 / 16 < 16 ∧ (2 ≤ szN n.1 → accN[firstN n.1 / 16]? = some (loN n.1, hiN n.1)) := by decide +kernel
theorem szN_lt (n : Nat) : szN n ≤ 4 := by
  unfold szN
  repeat' split
  all_goals omega
theorem firstA_get (c : UInt8) : firstA[c.toNat]? = some (.v (.int .u8 (firstN c.toNat : Nat))) := by
  have := UInt8.toNat_lt c
  unfold firstA
  rw [List.getElem?_map, List.getElem?_range (by omega)]
  rfl
theorem firstN_lt (n : Nat) : firstN n < 256 := by
  unfold firstN
  repeat' split
  all_goals omega
theorem sz_and : ∀ n : Fin 256, IntKind.u8.wrap ((BitVec.ofInt IntKind.u8.bits (n.1 : Nat) &&& BitVec.ofInt IntKind.u8.bits 7).toNat : Nat) = ((n.1 % 8 : Nat) : Int) := by decide +kernel
theorem sz_shr : ∀ n : Fin 256, ((n.1 : Nat) : Int).fdiv (2 ^ min (4 : Int).toNat IntKind.u8.bits) = ((n.1 / 16 : Nat) : Int) := by decide +kernel
theorem accA_get : ∀ k : Fin 16, (accA.drop (k.1 * 2)).take 2 = [.v (.int .u8 ((accN.getD k.1 (0, 0)).1 : Nat)), .v (.int .u8 ((accN.getD k.1 (0, 0)).2 : Nat))] := by
  intro k
  match k with
  | ⟨0, _⟩ => rfl
  | ⟨1, _⟩ => rfl
  | ⟨2, _⟩ => rfl
  | ⟨3, _⟩ => rfl
  | ⟨4, _⟩ => rfl
  | ⟨5, _⟩ => rfl
  | ⟨6, _⟩ => rfl
  | ⟨7, _⟩ => rfl
  | ⟨8, _⟩ => rfl
  | ⟨9, _⟩ => rfl
  | ⟨10, _⟩ => rfl
  | ⟨11, _⟩ => rfl
  | ⟨12, _⟩ => rfl
  | ⟨13, _⟩ => rfl
  | ⟨14, _⟩ => rfl
  | ⟨15, _⟩ => rfl
  | ⟨n + 16, h⟩ => exact absurd h (by omega)
theorem wb_or2 {x y : BitVec 64} (h : ((((x ||| y) &&& wM).toNat : Nat) : Int) = 0) : ((x &&& wM).toNat : Int) = 0 ∧ ((y &&& wM).toNat : Int) = 0 := by
  have h0 : (x ||| y) &&& wM = 0 := by
    apply BitVec.eq_of_toNat_eq
    have : ((x ||| y) &&& wM).toNat = 0 := by exact_mod_cast h
    rw [this]
    rfl
  have hb : ∀ k, ((x ||| y) &&& wM).getLsbD k = false := by
    intro k
    rw [h0]
    simp
  have hx : x &&& wM = 0 := by
    apply BitVec.eq_of_getLsbD_eq
    intro k _
    have := hb k
    simp only [BitVec.getLsbD_and, BitVec.getLsbD_or] at this ⊢
    simp
    cases h1 : x.getLsbD k <;> cases h2 : wM.getLsbD k <;> simp_all
  have hy : y &&& wM = 0 := by
    apply BitVec.eq_of_getLsbD_eq
    intro k _
    have := hb k
    simp only [BitVec.getLsbD_and, BitVec.getLsbD_or] at this ⊢
    simp
    cases h1 : y.getLsbD k <;> cases h2 : wM.getLsbD k <;> simp_all
  rw [hx, hy]
  exact ⟨rfl, rfl⟩
/-- Whatever only reads is in order. -/
theorem ordered_rd {ops : Array Oper} {ks : List Nat} (h : ∀ k ∈ ks, k ≤ 1) : ordered ops ks = true := by
  unfold ordered
  rw [List.all_eq_true]
  intro j hj
  rw [List.mem_range] at hj
  have hk : ∀ i, ks.getD i 0 ≤ 1 := by
    intro i
    rw [List.getD_eq_getElem?_getD]
    cases hi : ks[i]? with
    | none => simp
    | some k => exact h k (List.mem_of_getElem? hi)
  simp only [Bool.or_eq_true, List.all_eq_true, List.mem_range]
  right
  intro i _
  left
  have h1 := hk i
  have h2 := hk j
  unfold clash
  generalize ks.getD i 0 = a at *
  generalize ks.getD j 0 = b at *
  match a, b, h1, h2 with
  | 0, _, _, _ => rfl
  | 1, 0, _, _ => rfl
  | 1, 1, _, _ => rfl
theorem rd_nil : ∀ k ∈ ([] : List Nat), k ≤ 1 := fun k h => by cases h
theorem rd_snoc {ks : List Nat} {n : Nat} (h : ∀ k ∈ ks, k ≤ 1) (hn : n ≤ 1) : ∀ k ∈ ks ++ [n], k ≤ 1 := fun k hk => by
  rcases List.mem_append.1 hk with hk | hk
  · exact h k hk
  · rcases List.mem_singleton.1 hk with rfl
    exact hn
theorem rd_ite {g : Bool} : (if g = true then 1 else 0) ≤ 1 := by cases g <;> decide
theorem rd_ite0 {g : Bool} : (if g = true then 0 else 0) ≤ 1 := by cases g <;> decide
/-! ### Contracts of one text -/
def s1P (n : Nat) (g : List UInt8 → AV) : List AV → Option AV
  | [x] => match dS x with
    | some l => if l.length < n then some (g l) else none
    | none => none
  | _ => none
theorem s1P_eq {n : Nat} {g : List UInt8 → AV} {l : List UInt8} (h : l.length < n) : s1P n g [str l] = some (g l) := by simp only [s1P, dS_str, h, if_true]
theorem s1P_of {n : Nat} {g : List UInt8 → AV} {X : List AV → AV → Prop} (h : ∀ l : List UInt8, l.length < n → X [str l] (g l)) : ∀ xs r, s1P n g xs = some r → X xs r := by
  intro xs r hx
  unfold s1P at hx
  split at hx
  · split at hx
    · rename_i l h1
      rw [dS_iff] at h1
      subst h1
      split at hx
      · rename_i hl
        injection hx with hx; subst hx
        exact h l hl
      · cases hx
    · cases hx
  · cases hx
end Go.AM
namespace Go.AM
/-! ### Words as values -/
def w64 (x : BitVec 64) : AV := .v (.int .u64 (x.toNat : Nat))
section
variable {C : Cfg} {t : TypeId} {x y : Operand} {a b : BitVec 64}
theorem bin_or64 : binA C .or t x y (w64 a) (w64 b) = some (w64 (a ||| b)) := by
  unfold w64
  rw [bin_or, w_or]
theorem bin_and64 : binA C .and t x y (w64 a) (.v (.int .u64 9259542123273814144)) = some (w64 (a &&& wM)) := by
  unfold w64
  rw [bin_and, w_and]
theorem bin_shl64 (k : Nat) {j : Int} (hj : j = (k : Int)) (hk : k ≤ 64) : binA C .shl t x y (w64 a) (.v (.int .u64 j)) = some (w64 (a <<< k)) := by
  unfold w64
  subst hj
  rw [bin_shl (by omega), w_shl _ _ hk]
theorem bin_eq64 : binA C .eql t x y (w64 a) (.v (.int .u64 0)) = some (.v (.bool (decide (a = 0)))) := by
  unfold w64
  rw [bin_eql]
  congr 3
  rw [decide_eq_decide]
  constructor
  · intro h
    apply BitVec.eq_of_toNat_eq
    have : a.toNat = 0 := by exact_mod_cast h
    rw [this]
    rfl
  · rintro rfl
    rfl
end
theorem wb_ascii' {l : List UInt8} (hl : 8 ≤ l.length) (h : wb l &&& wM = 0) : ∀ c ∈ l.take 8, c.toNat < 128 := wb_ascii hl (by rw [h]; rfl)
theorem wb_or2' {x y : BitVec 64} (h : (x ||| y) &&& wM = 0) : x &&& wM = 0 ∧ y &&& wM = 0 := by
  have := wb_or2 (x := x) (y := y) (by rw [h]; rfl)
  constructor
  · apply BitVec.eq_of_toNat_eq
    have h1 : (x &&& wM).toNat = 0 := by exact_mod_cast this.1
    rw [h1]
    rfl
  · apply BitVec.eq_of_toNat_eq
    have h1 : (y &&& wM).toNat = 0 := by exact_mod_cast this.2
    rw [h1]
    rfl
end Go.AM

/- Texts that are cut. -/
namespace Go.AM
theorem cntF_le : ∀ (f : Nat) (l : List UInt8) (m : Nat), cntF f l = some m → m ≤ f
  | _, [], m, h => by
    cases hf : ‹Nat› <;> (simp only [cntF] at h; injection h with h; omega)
  | 0, _ :: _, m, h => by simp [cntF] at h
  | f + 1, c :: r, m, h => by
    simp only [cntF] at h
    split at h
    · cases h
    · obtain ⟨k, hk, rfl⟩ := Option.map_eq_some_iff.1 h
      have := cntF_le f _ k hk
      omega
theorem cnt_le {l : List UInt8} {m : Nat} (h : cnt l = some m) : m ≤ l.length := cntF_le _ _ _ h
theorem stepN_cases {l : List UInt8} (h : stepN l ≠ 0) :
    (stepN l = 1 ∧ ∃ c r, l = c :: r ∧ szN c.toNat = 1) ∨ (stepN l = 2 ∧ ∃ c b r, l = c :: b :: r ∧ szN c.toNat = 2 ∧ secB c b = true) ∨
    (stepN l = 3 ∧ ∃ c b d r, l = c :: b :: d :: r ∧ szN c.toNat = 3 ∧ (secB c b && contB d) = true) ∨
    (stepN l = 4 ∧ ∃ c b d e r, l = c :: b :: d :: e :: r ∧ szN c.toNat = 4 ∧ (secB c b && contB d && contB e) = true) := by
  match l, h with
  | [], h => exact absurd rfl h
  | c :: r, h =>
    by_cases h1 : szN c.toNat = 1
    · exact .inl ⟨by simp [stepN, h1], c, r, rfl, h1⟩
    by_cases h2 : szN c.toNat = 2
    · match r, h with
      | [], h => simp [stepN, h2] at h
      | b :: r, h =>
        cases q : secB c b with
        | false => simp [stepN, h2, q] at h
        | true => exact .inr (.inl ⟨by simp [stepN, h2, q], c, b, r, rfl, h2, q⟩)
    by_cases h3 : szN c.toNat = 3
    · match r, h with
      | [], h => simp [stepN, h3] at h
      | [_], h => simp [stepN, h3] at h
      | b :: d :: r, h =>
        cases q : (secB c b && contB d) with
        | false => exact absurd (by simp only [stepN, h3, q]; rfl) h
        | true => exact .inr (.inr (.inl ⟨by simp only [stepN, h3, q]; rfl, c, b, d, r, rfl, h3, q⟩))
    by_cases h4 : szN c.toNat = 4
    · match r, h with
      | [], h => simp [stepN, h4] at h
      | [_], h => simp [stepN, h4] at h
      | [_, _], h => simp [stepN, h4] at h
      | b :: d :: e :: r, h =>
        cases q : (secB c b && contB d && contB e) with
        | false => exact absurd (by simp only [stepN, h4, q]; rfl) h
        | true => exact .inr (.inr (.inr ⟨by simp only [stepN, h4, q]; rfl, c, b, d, e, r, rfl, h4, q⟩))
    · exact absurd (by simp [stepN, h1, h2, h3, h4]) h
def isCont (b : UInt8) : Prop := 128 ≤ b.toNat ∧ b.toNat ≤ 191
theorem secB_cont {c b : UInt8} (h : secB c b = true) : isCont b := by
  unfold secB loN hiN at h
  simp only [Bool.and_eq_true, decide_eq_true_eq] at h
  unfold isCont
  constructor
  · have := h.1
    repeat' split at this
    all_goals omega
  · have := h.2
    repeat' split at this
    all_goals omega
theorem contB_cont {b : UInt8} (h : contB b = true) : isCont b := by
  unfold contB at h
  simp only [Bool.and_eq_true, decide_eq_true_eq] at h
  exact h
/-- The bytes behind the first one go on. -/
theorem step_cont {l : List UInt8} (h : stepN l ≠ 0) {i : Nat} {b : UInt8} (h0 : 0 < i) (hi : i < stepN l) (hb : l[i]? = some b) : isCont b := by
  rcases stepN_cases h with ⟨e, c, r, rfl, _⟩ | ⟨e, c, x, r, rfl, _, q⟩ | ⟨e, c, x, y, r, rfl, _, q⟩ | ⟨e, c, x, y, z, r, rfl, _, q⟩
  · omega
  · obtain rfl : i = 1 := by omega
    simp at hb; subst hb
    exact secB_cont q
  · simp only [Bool.and_eq_true] at q
    match i, h0, hi, hb with
    | 1, _, _, hb => simp at hb; subst hb; exact secB_cont q.1
    | 2, _, _, hb => simp at hb; subst hb; exact contB_cont q.2
    | i + 3, _, hi, _ => omega
  · simp only [Bool.and_eq_true] at q
    match i, h0, hi, hb with
    | 1, _, _, hb => simp at hb; subst hb; exact secB_cont q.1.1
    | 2, _, _, hb => simp at hb; subst hb; exact contB_cont q.1.2
    | 3, _, _, hb => simp at hb; subst hb; exact contB_cont q.2
    | i + 4, _, hi, _ => omega
theorem step_take {l : List UInt8} (h : stepN l ≠ 0) {k : Nat} (hk : stepN l ≤ k) : stepN (l.take k) = stepN l := by
  rcases stepN_cases h with ⟨e, c, r, rfl, s⟩ | ⟨e, c, x, r, rfl, s, q⟩ | ⟨e, c, x, y, r, rfl, s, q⟩ | ⟨e, c, x, y, z, r, rfl, s, q⟩
  · obtain ⟨k, rfl⟩ : ∃ j, k = j + 1 := ⟨k - 1, by omega⟩
    rw [e]; simp [stepN, s]
  · obtain ⟨k, rfl⟩ : ∃ j, k = j + 2 := ⟨k - 2, by omega⟩
    rw [e]; simp only [List.take_succ_cons, stepN, s, q]; rfl
  · obtain ⟨k, rfl⟩ : ∃ j, k = j + 3 := ⟨k - 3, by omega⟩
    rw [e]; simp only [List.take_succ_cons, stepN, s, q]; rfl
  · obtain ⟨k, rfl⟩ : ∃ j, k = j + 4 := ⟨k - 4, by omega⟩
    rw [e]; simp only [List.take_succ_cons, stepN, s, q]; rfl
/-- A good text, cut ahead of a byte that does not go on: its first part is good. -/
theorem utfB_take : ∀ (n : Nat) (l : List UInt8) (k : Nat), l.length ≤ n → utfB l = true → (∀ b, l[k]? = some b → ¬ isCont b) → utfB (l.take k) = true
  | n, l, 0, _, _, _ => by rw [List.take_zero]; rfl
  | 0, l, k + 1, hn, h, _ => by
    obtain rfl : l = [] := List.length_eq_zero_iff.1 (by omega)
    rfl
  | n + 1, [], k + 1, _, _, _ => rfl
  | n + 1, c :: r, k + 1, hn, h, hb => by
    have hs : stepN (c :: r) ≠ 0 := by
      intro h0
      rw [utfB_bad h0 (by simp)] at h
      cases h
    have hle := (stepN_le (c :: r)).1
    by_cases hk : k + 1 < stepN (c :: r)
    · exfalso
      have hl : k + 1 < (c :: r).length := by omega
      exact hb _ (List.getElem?_eq_getElem hl) (step_cont hs (by omega) hk (List.getElem?_eq_getElem hl))
    · have hk' : stepN (c :: r) ≤ k + 1 := by omega
      have ht := step_take hs hk'
      rw [utfB_step (l := (c :: r).take (k + 1)) (by rw [ht]; exact hs), ht, List.drop_take]
      refine utfB_take n _ _ ?_ ?_ ?_
      · rw [List.length_drop]; simp only [List.length_cons] at hn ⊢; omega
      · rw [← utfB_step hs]; exact h
      · intro b hb'
        rw [List.getElem?_drop, show stepN (c :: r) + (k + 1 - stepN (c :: r)) = k + 1 by omega] at hb'
        exact hb b hb'
theorem utfB_cont {l : List UInt8} {b : UInt8} (h : l[0]? = some b) (hc : isCont b) : utfB l = false := by
  match l, h with
  | c :: r, h =>
    simp at h; subst h
    refine utfB_bad ?_ (by simp)
    unfold isCont at hc
    have : szN c.toNat = 0 := by
      unfold szN
      repeat' split
      all_goals omega
    simp [stepN, this]
end Go.AM

namespace Go.AM
/-- One function's check. -/
def chkF (P : Program) (f : FuncId) : Bool := match P.funcs[f]? with
  | some fn => !(fn.name == "runtime.NumGoroutine") && (match fn.body with | some c => regionsOk c | none => true)
  | none => true
def allF (P : Program) : List FuncId → Prop
  | [] => True
  | f :: l => chkF P f = true ∧ allF P l
theorem allF_mem {P : Program} : ∀ {l : List FuncId}, allF P l → ∀ f ∈ l, chkF P f = true
  | [], _, f, h => by cases h
  | g :: l, h, f, hf => by
    rcases List.mem_cons.1 hf with rfl | hf
    · exact h.1
    · exact allF_mem h.2 f hf
theorem funcsOk_of {P : Program} {l : List FuncId} (h : allF P l) : funcsOk P (fun f => l.contains f) = true := by
  unfold funcsOk
  rw [List.all_eq_true]
  intro f _
  cases hf : l.contains f with
  | false => simp only [hf, Bool.not_false, Bool.true_or]
  | true =>
    have := allF_mem h f (by simpa using hf)
    unfold chkF at this
    simp only [hf, Bool.not_true, Bool.false_or]
    exact this
end Go.AM

/- What the kit's shelf says of a function, as a contract of the machine. -/
namespace Go.AM
theorem cell_lt {W : World} {b o : Nat} {v : Value} (h : W.cell? ⟨b, o, none⟩ = some v) : b < W.heap.size := by
  apply Decidable.byContradiction
  intro hn
  have : W.heap[b]? = none := by simp; omega
  simp [World.cell?, this] at h
theorem sim_ext {C : Cfg} {G : Gs} {H : Hp} {W W' : World} (S : Sim C G H W) (E : W.Extends W') : Sim C G H W' where
  base := Nat.le_trans S.base E.size
  im b o v x := by
    have := S.im b o v x
    rw [E.cell _ (cell_lt this)]; exact this
  lit b x := ⟨(S.lit b x).1, Nat.lt_of_lt_of_le (S.lit b x).2.1 E.size, (S.lit b x).2.2⟩
  own b w x := ⟨(S.own b w x).1, Nat.lt_of_lt_of_le (S.own b w x).2 E.size⟩
  tok t e tid x hs := by
    obtain ⟨y, size, vals, h1, h2, h0, h3, h4⟩ := S.tok t e tid x hs
    exact ⟨y, size, vals, h1, h2, h0, ownsRow_of_heap h3 fun B hB => E.block B (S.own B _ (h4 B hB).1).2, h4⟩
  tokN := S.tokN
  blk b k x := by
    obtain ⟨B, o, cells, tid, h1, h2, h3, h4⟩ := S.blk b k x
    exact ⟨B, o, cells, tid, h1, ⟨(E.block B (S.own B _ h3).2).trans h2.1, h2.2⟩, h3, h4⟩
  blkN := S.blkN
  gl := S.gl
theorem adv_ext {G : Gs} {W W' : World} (E : W.Extends W') : Adv G W G W' where
  gle := Gle.refl _
  os := E.os
  tape := E.tape
  output := E.output
  size := E.size
  frame B hB _ _ := E.block B hB
  ownK _ _ h := h
  litK _ _ h := h
  imK _ _ _ _ _ h := h
theorem runes_pure {C : Cfg} {f : FuncId} (hc : ∀ (s : ByteArray) (w : World), s.size < 9223372036854775807 → Calls C.P f #[.string s] w fun e w' => e = .returned (.int .i64 (Lib.runeCount s)) ∧ ∃ pos, w' = w.iter s pos)
    (l : List UInt8) (hl : l.length < 9223372036854775807) : PureOk C f [str l] (.v (.int .i64 (Lib.runeCount ⟨l.toArray⟩))) := by
  intro G H W vs S r hb
  obtain ⟨v, zs, rfl, ⟨rfl, _⟩, rfl⟩ := r
  refine (hc ⟨l.toArray⟩ W (by rw [str_size]; exact hl)).mono ?_
  rintro e w' ⟨rfl, pos, rfl⟩
  exact ⟨_, rfl, G, ⟨rfl, rfl⟩, sim_ext S (World.iter_extends _ _ _), adv_ext (World.iter_extends _ _ _)⟩
end Go.AM

/- Some elements at once behind a slice that grows beside other things. -/
namespace Go.AM
variable {C : Cfg}
theorem gsl_ne {xs : List AV} (h : xs ≠ []) : gsl xs = .ap 0 xs := by cases xs <;> simp_all [gsl]
theorem appA_gslHs {ts : Array TypeId} {e t1 : TypeId} {z : AV} {n k : Nat} (h0 : (ts[0]?).bind (elemT C) = some e) (h1 : (ts[1]?).bind C.und = some (.slice t1)) (hz : zeroA C e = some z) (hc : C.csz e = some (n + 1)) (hl : z.cells.length = n + 1)
    (hb : C.byt e = some k) {xs ys : List AV} {f : Bool} (hne : ys ≠ []) (hy : sized (n + 1) ys) (hs : sized (n + 1) xs) (hr : (xs.length + ys.length) ≤ 9223372036854775807 ∧ (xs.length + ys.length) * k ≤ 140737488355328) {H : Hp} (hH : H.toks = (ghp e xs).toks) :
    appA C ts [gsl xs, .cl f ys] H = some (gsl (xs ++ ys), { H with toks := (ghp e (xs ++ ys)).toks }) := by
  obtain ⟨u, us, rfl⟩ := List.exists_cons_of_ne_nil hne
  have hroom : ∀ m, m = xs.length + (u :: us).length → roomOk C e m = true := by rintro m rfl; simp only [roomOk, hb, Bool.and_eq_true, decide_eq_true_eq]; exact hr
  have hu : u.cells.length = n + 1 := hy u (by simp)
  rw [gsl_ne (by simp : xs ++ u :: us ≠ []), ghp_ne (by simp : xs ++ u :: us ≠ [])]
  simp only [appA, h0, h1, hz, hc, hl, if_true, appendA, srcA_elems (e := e) (y := .cl f (u :: us)) rfl, hu, ne_eq, not_true, if_false]
  cases xs with
  | nil =>
    simp only [ghp] at hH
    simp only [gsl, hH, List.length_nil, List.nil_append, hroom (u :: us).length (by simp), if_true]
  | cons y ys =>
    have hsz : szOk (y :: ys) (n + 1) = true := szOk_sized hs
    simp only [ghp] at hH
    simp only [gsl, hH, List.getElem?_cons_zero, true_and, hsz, hroom ((y :: ys).length + (u :: us).length) rfl, and_self, if_true, List.set_cons_zero, List.length_append]
end Go.AM
