/- UTF-8 in plain Lean, and what the shelf says as a contract of the machine. -/
import Derived.Test.YtjejeijldllloaaDoorAmD
import Derived.Lib.RuneCount
import Derived.Test.YtjejeijldllloaaDoorAmC
import Derived.Test.YtjejeijldllloaaDoorAmA
import Derived.Shelf.Lay
import Derived.Shelf.LaySoft
import Derived.Shelf.Utf8.RuneCount
set_option linter.unusedSimpArgs false
set_option linter.unusedVariables false
namespace Go.AM
/-! ### UTF-8 as lists of bytes -/
/-- What the table of first bytes says. -/
def firstN (n : Nat) : Nat := if n < 0x80 then 0xF0 else if n < 0xC2 then 0xF1 else if n < 0xE0 then 0x02 else if n = 0xE0 then 0x13 else if n < 0xED then 0x03 else if n = 0xED then 0x23 else if n < 0xF0 then 0x03 else if n = 0xF0 then 0x34 else if n < 0xF4 then 0x04 else if n = 0xF4 then 0x44 else 0xF1
def accN : List (Nat × Nat) := [(128, 191), (160, 191), (128, 159), (144, 191), (128, 143), (0, 0), (0, 0), (0, 0), (0, 0), (0, 0), (0, 0), (0, 0), (0, 0), (0, 0), (0, 0), (0, 0)]
def firstA : List AV := (List.range 256).map fun n => .v (.int .u8 (firstN n : Nat))
def accA : List AV := accN.flatMap fun p => [.v (.int .u8 (p.1 : Nat)), .v (.int .u8 (p.2 : Nat))]
/-- How many bytes a code point has that begins so; 0: none does. -/
def szN (c : Nat) : Nat := if c < 0x80 then 1 else if c < 0xC2 then 0 else if c < 0xE0 then 2 else if c < 0xF0 then 3 else if c < 0xF5 then 4 else 0
/-- From where to where the second byte may be. -/
def loN (c : Nat) : Nat := if c = 0xE0 then 160 else if c = 0xF0 then 144 else 128
def hiN (c : Nat) : Nat := if c = 0xED then 159 else if c = 0xF4 then 143 else 191
def contB (b : UInt8) : Bool := decide (128 ≤ b.toNat) && decide (b.toNat ≤ 191)
def secB (c b : UInt8) : Bool := decide (loN c.toNat ≤ b.toNat) && decide (b.toNat ≤ hiN c.toNat)
/-- How many bytes the code point has that stands ahead; 0: none does. -/
def stepN : List UInt8 → Nat
  | [] => 0
  | c :: r => if szN c.toNat = 1 then 1
    else if szN c.toNat = 2 then (match r with | b :: _ => if secB c b then 2 else 0 | _ => 0)
    else if szN c.toNat = 3 then (match r with | b :: d :: _ => if secB c b && contB d then 3 else 0 | _ => 0)
    else if szN c.toNat = 4 then (match r with | b :: d :: e :: _ => if secB c b && contB d && contB e then 4 else 0 | _ => 0)
    else 0
/-- How many code points; none: it is not well-formed. -/
def cntF : Nat → List UInt8 → Option Nat
  | _, [] => some 0
  | 0, _ :: _ => none
  | f + 1, c :: r => if stepN (c :: r) = 0 then none else (cntF f ((c :: r).drop (stepN (c :: r)))).map (· + 1)
def cnt (l : List UInt8) : Option Nat := cntF l.length l
theorem cntF_eq : ∀ (f : Nat) (l : List UInt8), l.length ≤ f → cntF f l = cnt l
  | 0, [], _ => rfl
  | 0, c :: r, h => by simp at h
  | f + 1, [], _ => rfl
  | f + 1, c :: r, h => by
    unfold cnt
    simp only [List.length_cons, cntF]
    split
    · rfl
    · rename_i hs
      have h1 : ((c :: r).drop (stepN (c :: r))).length ≤ r.length := by
        rw [List.length_drop, List.length_cons]
        omega
      rw [cntF_eq f _ (by simp only [List.length_cons] at h; omega), cntF_eq r.length _ h1]
termination_by f => f
theorem cnt_cons (c : UInt8) (r : List UInt8) : cnt (c :: r) = if stepN (c :: r) = 0 then none else (cnt ((c :: r).drop (stepN (c :: r)))).map (· + 1) := by
  conv => lhs; unfold cnt
  simp only [List.length_cons, cntF]
  split
  · rfl
  · rw [cntF_eq]
    rw [List.length_drop, List.length_cons]
    omega
theorem cnt_step {l : List UInt8} (h : stepN l ≠ 0) : cnt l = (cnt (l.drop (stepN l))).map (· + 1) := by
  cases l with
  | nil => exact absurd rfl h
  | cons c r => rw [cnt_cons, if_neg h]
theorem cnt_bad {l : List UInt8} (h : stepN l = 0) (hl : l ≠ []) : cnt l = none := by
  cases l with
  | nil => exact absurd rfl hl
  | cons c r => rw [cnt_cons, if_pos h]
/-- Is it well-formed? -/
def utfB (l : List UInt8) : Bool := (cnt l).isSome
theorem utfB_step {l : List UInt8} (h : stepN l ≠ 0) : utfB l = utfB (l.drop (stepN l)) := by
  unfold utfB
  rw [cnt_step h]
  cases cnt (l.drop (stepN l)) <;> rfl
theorem utfB_bad {l : List UInt8} (h : stepN l = 0) (hl : l ≠ []) : utfB l = false := by
  unfold utfB
  rw [cnt_bad h hl]
  rfl
theorem szN_ascii {c : UInt8} (h : c.toNat < 128) : szN c.toNat = 1 := by unfold szN; rw [if_pos h]
theorem stepN_ascii {c : UInt8} {r : List UInt8} (h : c.toNat < 128) : stepN (c :: r) = 1 := by
  simp only [stepN, szN_ascii h, if_true]
theorem utfB_ascii : ∀ (k : Nat) (l : List UInt8), k ≤ l.length → (∀ c ∈ l.take k, c.toNat < 128) → utfB l = utfB (l.drop k)
  | 0, _, _, _ => rfl
  | k + 1, [], h, _ => by simp at h
  | k + 1, c :: r, h, ha => by
    have h1 := stepN_ascii (r := r) (ha c (by simp))
    rw [utfB_step (by rw [h1]; decide), h1, List.drop_succ_cons, List.drop_zero, List.drop_succ_cons]
    exact utfB_ascii k r (by simp at h; omega) fun x hx => ha x (by simp [hx])
end Go.AM

namespace Go.AM
/-! ### How the model's decoder steps -/
end Go.AM

namespace Go.AM
/-! ### Words of eight bytes -/
def bv (c : UInt8) : BitVec 64 := BitVec.ofNat 64 c.toNat
def wb : List UInt8 → BitVec 64
  | a :: b :: c :: d :: e :: f :: g :: h :: _ => ((((((bv a ||| bv b <<< 8) ||| bv c <<< 16) ||| bv d <<< 24) ||| bv e <<< 32) ||| bv f <<< 40) ||| bv g <<< 48) ||| bv h <<< 56
  | _ => 0
def wM : BitVec 64 := 9259542123273814144
theorem w_u64 (n : Nat) (h : n < 2 ^ 64) : IntKind.u64.wrap (n : Int) = (n : Int) := by
  simp [IntKind.wrap, IntKind.bits, IntKind.signed]
  omega
theorem w_conv (c : UInt8) : IntKind.u64.wrap ((c.toNat : Nat) : Int) = ((bv c).toNat : Int) := by
  have := UInt8.toNat_lt c
  rw [w_u64 _ (by omega)]
  simp only [bv, BitVec.toNat_ofNat]
  omega
theorem w_ofInt (x : BitVec 64) : BitVec.ofInt IntKind.u64.bits ((x.toNat : Nat) : Int) = x := by
  show BitVec.ofInt 64 ((x.toNat : Nat) : Int) = x
  rw [BitVec.ofInt_natCast, BitVec.ofNat_toNat, BitVec.setWidth_eq]
theorem w_or (x y : BitVec 64) : IntKind.u64.wrap ((BitVec.ofInt IntKind.u64.bits ((x.toNat : Nat) : Int) ||| BitVec.ofInt IntKind.u64.bits ((y.toNat : Nat) : Int)).toNat : Nat) = (((x ||| y).toNat : Nat) : Int) := by
  rw [w_ofInt, w_ofInt]
  exact w_u64 _ (x ||| y).isLt
theorem w_and (x : BitVec 64) : IntKind.u64.wrap ((BitVec.ofInt IntKind.u64.bits ((x.toNat : Nat) : Int) &&& BitVec.ofInt IntKind.u64.bits 9259542123273814144).toNat : Nat) = (((x &&& wM).toNat : Nat) : Int) := by
  rw [w_ofInt, show BitVec.ofInt IntKind.u64.bits 9259542123273814144 = wM from rfl]
  exact w_u64 _ (x &&& wM).isLt
theorem w_shl (x : BitVec 64) (k : Nat) (h : k ≤ 64) : IntKind.u64.wrap (((x.toNat : Nat) : Int) * 2 ^ min ((k : Nat) : Int).toNat IntKind.u64.bits) = (((x <<< k).toNat : Nat) : Int) := by
  have hm : min ((k : Nat) : Int).toNat IntKind.u64.bits = k := by
    rw [Int.toNat_natCast]
    exact Nat.min_eq_left h
  rw [hm, BitVec.toNat_shiftLeft, Nat.shiftLeft_eq]
  have : (((x.toNat : Nat) : Int) * 2 ^ k) = ((x.toNat * 2 ^ k : Nat) : Int) := by
    rw [Int.natCast_mul, Int.natCast_pow]
    rfl
  rw [this]
  simp only [IntKind.wrap, IntKind.bits, IntKind.signed]
  simp
theorem bit7 (c : UInt8) (h : (bv c).getLsbD 7 = false) : c.toNat < 128 := by
  have hc := UInt8.toNat_lt c
  simp only [bv, BitVec.getLsbD_ofNat] at h
  have h1 : c.toNat.testBit 7 = false := by simpa using h
  rw [Nat.testBit_eq_decide_div_mod_eq] at h1
  simp at h1
  omega
theorem wb_ascii {l : List UInt8} (hl : 8 ≤ l.length) (h : ((wb l &&& wM).toNat : Int) = 0) : ∀ c ∈ l.take 8, c.toNat < 128 := by
  have h0 : wb l &&& wM = 0 := by
    apply BitVec.eq_of_toNat_eq
    have : (wb l &&& wM).toNat = 0 := by exact_mod_cast h
    rw [this]
    rfl
  match l, hl with
  | a :: b :: c :: d :: e :: f :: g :: i :: r, _ =>
    have hb : ∀ k, (wb (a :: b :: c :: d :: e :: f :: g :: i :: r)).getLsbD k = false ∨ wM.getLsbD k = false := by
      intro k
      have := congrArg (fun x => BitVec.getLsbD x k) h0
      simp only [BitVec.getLsbD_and] at this
      cases h1 : (wb (a :: b :: c :: d :: e :: f :: g :: i :: r)).getLsbD k
      · exact .inl rfl
      · rw [h1] at this
        right
        simpa using this
    have key : ∀ k, wM.getLsbD k = true → (wb (a :: b :: c :: d :: e :: f :: g :: i :: r)).getLsbD k = false := fun k hk => (hb k).resolve_right (by rw [hk]; decide)
    have k0 := key 7 (by decide)
    have k1 := key 15 (by decide)
    have k2 := key 23 (by decide)
    have k3 := key 31 (by decide)
    have k4 := key 39 (by decide)
    have k5 := key 47 (by decide)
    have k6 := key 55 (by decide)
    have k7 := key 63 (by decide)
    simp only [wb, BitVec.getLsbD_or, Bool.or_eq_false_iff, BitVec.getLsbD_shiftLeft] at k0 k1 k2 k3 k4 k5 k6 k7
    simp at k0 k1 k2 k3 k4 k5 k6 k7
    intro x hx
    simp at hx
    rcases hx with rfl | rfl | rfl | rfl | rfl | rfl | rfl | rfl
    all_goals (apply bit7; simp_all)
end Go.AM
namespace Go.AM
/-! ### What the tables say of a byte -/
theorem first_cls : ∀ n : Fin 256, 128 ≤ n.1 → firstN n.1 % 8 = (if szN n.1 = 0 then 1 else szN n.1) ∧ firstN n.1 / 16 < 16 ∧ (2 ≤ szN n.1 → accN[firstN n.1 / 16]? = some (loN n.1, hiN n.1)) := by decide +kernel
theorem szN_lt (n : Nat) : szN n ≤ 4 := by
  unfold szN
  repeat' split
  all_goals omega
theorem firstA_get (c : UInt8) : firstA[c.toNat]? = some (.v (.int .u8 (firstN c.toNat : Nat))) := by
  have := UInt8.toNat_lt c
  unfold firstA
  rw [List.getElem?_map, List.getElem?_range (by omega)]
  rfl
theorem firstN_lt (n : Nat) : firstN n < 256 := by
  unfold firstN
  repeat' split
  all_goals omega
theorem sz_and : ∀ n : Fin 256, IntKind.u8.wrap ((BitVec.ofInt IntKind.u8.bits (n.1 : Nat) &&& BitVec.ofInt IntKind.u8.bits 7).toNat : Nat) = ((n.1 % 8 : Nat) : Int) := by decide +kernel
theorem sz_shr : ∀ n : Fin 256, ((n.1 : Nat) : Int).fdiv (2 ^ min (4 : Int).toNat IntKind.u8.bits) = ((n.1 / 16 : Nat) : Int) := by decide +kernel
theorem accA_get : ∀ k : Fin 16, (accA.drop (k.1 * 2)).take 2 = [.v (.int .u8 ((accN.getD k.1 (0, 0)).1 : Nat)), .v (.int .u8 ((accN.getD k.1 (0, 0)).2 : Nat))] := by
  intro k
  match k with
  | ⟨0, _⟩ => rfl
  | ⟨1, _⟩ => rfl
  | ⟨2, _⟩ => rfl
  | ⟨3, _⟩ => rfl
  | ⟨4, _⟩ => rfl
  | ⟨5, _⟩ => rfl
  | ⟨6, _⟩ => rfl
  | ⟨7, _⟩ => rfl
  | ⟨8, _⟩ => rfl
  | ⟨9, _⟩ => rfl
  | ⟨10, _⟩ => rfl
  | ⟨11, _⟩ => rfl
  | ⟨12, _⟩ => rfl
  | ⟨13, _⟩ => rfl
  | ⟨14, _⟩ => rfl
  | ⟨15, _⟩ => rfl
  | ⟨n + 16, h⟩ => exact absurd h (by omega)
theorem wb_or2 {x y : BitVec 64} (h : ((((x ||| y) &&& wM).toNat : Nat) : Int) = 0) : ((x &&& wM).toNat : Int) = 0 ∧ ((y &&& wM).toNat : Int) = 0 := by
  have h0 : (x ||| y) &&& wM = 0 := by
    apply BitVec.eq_of_toNat_eq
    have : ((x ||| y) &&& wM).toNat = 0 := by exact_mod_cast h
    rw [this]
    rfl
  have hb : ∀ k, ((x ||| y) &&& wM).getLsbD k = false := by
    intro k
    rw [h0]
    simp
  have hx : x &&& wM = 0 := by
    apply BitVec.eq_of_getLsbD_eq
    intro k _
    have := hb k
    simp only [BitVec.getLsbD_and, BitVec.getLsbD_or] at this ⊢
    simp
    cases h1 : x.getLsbD k <;> cases h2 : wM.getLsbD k <;> simp_all
  have hy : y &&& wM = 0 := by
    apply BitVec.eq_of_getLsbD_eq
    intro k _
    have := hb k
    simp only [BitVec.getLsbD_and, BitVec.getLsbD_or] at this ⊢
    simp
    cases h1 : y.getLsbD k <;> cases h2 : wM.getLsbD k <;> simp_all
  rw [hx, hy]
  exact ⟨rfl, rfl⟩
/-! ### Contracts of one text -/
def s1P (n : Nat) (g : List UInt8 → AV) : List AV → Option AV
  | [x] => match dS x with
    | some l => if l.length < n then some (g l) else none
    | none => none
  | _ => none
theorem s1P_eq {n : Nat} {g : List UInt8 → AV} {l : List UInt8} (h : l.length < n) : s1P n g [str l] = some (g l) := by simp only [s1P, dS_str, h, if_true]
theorem s1P_of {n : Nat} {g : List UInt8 → AV} {X : List AV → AV → Prop} (h : ∀ l : List UInt8, l.length < n → X [str l] (g l)) : ∀ xs r, s1P n g xs = some r → X xs r := by
  intro xs r hx
  unfold s1P at hx
  split at hx
  · split at hx
    · rename_i l h1
      rw [dS_iff] at h1
      subst h1
      split at hx
      · rename_i hl
        injection hx with hx; subst hx
        exact h l hl
      · cases hx
    · cases hx
  · cases hx
end Go.AM
namespace Go.AM
/-! ### Words as values -/
def w64 (x : BitVec 64) : AV := .v (.int .u64 (x.toNat : Nat))
section
variable {C : Cfg} {t : TypeId} {x y : Operand} {a b : BitVec 64}
theorem bin_or64 : binA C .or t x y (w64 a) (w64 b) = some (w64 (a ||| b)) := by
  unfold w64
  rw [bin_or, w_or]
theorem bin_and64 : binA C .and t x y (w64 a) (.v (.int .u64 9259542123273814144)) = some (w64 (a &&& wM)) := by
  unfold w64
  rw [bin_and, w_and]
theorem bin_shl64 (k : Nat) {j : Int} (hj : j = (k : Int)) (hk : k ≤ 64) : binA C .shl t x y (w64 a) (.v (.int .u64 j)) = some (w64 (a <<< k)) := by
  unfold w64
  subst hj
  rw [bin_shl (by omega), w_shl _ _ hk]
theorem bin_eq64 : binA C .eql t x y (w64 a) (.v (.int .u64 0)) = some (.v (.bool (decide (a = 0)))) := by
  unfold w64
  rw [bin_eql]
  congr 3
  rw [decide_eq_decide]
  constructor
  · intro h
    apply BitVec.eq_of_toNat_eq
    have : a.toNat = 0 := by exact_mod_cast h
    rw [this]
    rfl
  · rintro rfl
    rfl
end
theorem wb_ascii' {l : List UInt8} (hl : 8 ≤ l.length) (h : wb l &&& wM = 0) : ∀ c ∈ l.take 8, c.toNat < 128 := wb_ascii hl (by rw [h]; rfl)
theorem wb_or2' {x y : BitVec 64} (h : (x ||| y) &&& wM = 0) : x &&& wM = 0 ∧ y &&& wM = 0 := by
  have := wb_or2 (x := x) (y := y) (by rw [h]; rfl)
  constructor
  · apply BitVec.eq_of_toNat_eq
    have h1 : (x &&& wM).toNat = 0 := by exact_mod_cast this.1
    rw [h1]
    rfl
  · apply BitVec.eq_of_toNat_eq
    have h1 : (y &&& wM).toNat = 0 := by exact_mod_cast this.2
    rw [h1]
    rfl
end Go.AM

/- Texts that are cut. -/
namespace Go.AM
end Go.AM

namespace Go.AM
/-- One function's check. -/
def chkF (P : Program) (f : FuncId) : Bool := match P.funcs[f]? with
  | some fn => !(fn.name == "runtime.NumGoroutine") && (match fn.body with | some c => regionsOk c | none => true)
  | none => true
def allF (P : Program) : List FuncId → Prop
  | [] => True
  | f :: l => chkF P f = true ∧ allF P l
theorem allF_mem {P : Program} : ∀ {l : List FuncId}, allF P l → ∀ f ∈ l, chkF P f = true
  | [], _, f, h => by cases h
  | g :: l, h, f, hf => by
    rcases List.mem_cons.1 hf with rfl | hf
    · exact h.1
    · exact allF_mem h.2 f hf
theorem funcsOk_of {P : Program} {l : List FuncId} (h : allF P l) : funcsOk P (fun f => l.contains f) = true := by
  unfold funcsOk
  rw [List.all_eq_true]
  intro f _
  cases hf : l.contains f with
  | false => simp only [hf, Bool.not_false, Bool.true_or]
  | true =>
    have := allF_mem h f (by simpa using hf)
    unfold chkF at this
    simp only [hf, Bool.not_true, Bool.false_or]
    exact this
end Go.AM

/- What the kit's shelf says of a function, as a contract of the machine. -/
namespace Go.AM
end Go.AM

/- Some elements at once behind a slice that grows beside other things. -/
namespace Go.AM
variable {C : Cfg}
end Go.AM
