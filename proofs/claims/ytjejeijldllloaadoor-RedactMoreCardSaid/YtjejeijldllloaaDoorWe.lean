/- Contracts of functions, and plain facts about what they compute. -/
import Derived.Test.YtjejeijldllloaaDoorWd
import Derived.Test.YtjejeijldllloaaDoorAmD
set_option linter.unusedSimpArgs false
set_option linter.unusedVariables false
/- Chapter 2: ValueMaps: plain facts. -/
namespace Go.Proofs.YtjejeijldllloaaDoor
open Go.AM
/-- A map of these members. -/
def G5 (m : List (List UInt8 × GV)) : GV := .mk 5 0 [] [] m
theorem G5_may (m : List (List UInt8 × GV)) : (G5 m).may = GV.maym none m := by
  unfold G5
  rw [GV.may]
  simp
theorem maym_of : ∀ (m : List (List UInt8 × GV)) (o : Option (List UInt8)), (∀ p ∈ m, utfB p.1 = true ∧ p.2.may = true) → m.Pairwise (fun a b => bl a.1 b.1 = true) → (∀ q, o = some q → ∀ p ∈ m, bl q p.1 = true) → GV.maym o m = true
  | [], o, _, _, _ => by cases o <;> rfl
  | (k, v) :: r, o, h1, h2, h3 => by
    obtain ⟨g1, g2⟩ := h1 (k, v) (by simp)
    obtain ⟨s1, s2⟩ := List.pairwise_cons.1 h2
    have ih := maym_of r (some k) (fun p hp => h1 p (by simp [hp])) s2 (fun q e p hp => by injection e with e; rw [← e]; exact s1 p hp)
    have hm : GV.mayp (k, v) = true := g2
    cases o with
    | none => rw [GV.maym, hm, ih]; simp [g1]
    | some q =>
      have hq := h3 q rfl (k, v) (by simp)
      have hr := rise q k
      simp only [] at hq g1
      rw [hq] at hr
      rw [GV.maym, hm, ih, ← hr]
      simp [g1]
theorem fmp_key {p : List UInt8 × GV} {q : E} (h : FMp p (enc q)) : p.1 = q.1 := by
  obtain ⟨k, v⟩ := p
  obtain ⟨cs, e, _⟩ := h
  injection e with e
  injection e with e _
  exact (str_inj e).symm
theorem smlm_all : ∀ {m : List (List UInt8 × GV)}, GV.smlm m → ∀ p ∈ m, GV.smlp p
  | [], _, p, hp => by cases hp
  | q :: r, h, p, hp => by
    rcases List.mem_cons.1 hp with rfl | hp
    · exact h.1
    · exact smlm_all h.2 p hp
theorem smlm_of : ∀ {m : List (List UInt8 × GV)}, (∀ p ∈ m, GV.smlp p) → GV.smlm m
  | [], _ => trivial
  | q :: r, h => ⟨h q (by simp), smlm_of fun p hp => h p (by simp [hp])⟩
theorem G5_sml {m : List (List UInt8 × GV)} (h : ∀ p ∈ m, GV.smlp p) (hl : m.length ≤ 140737488355328) : (G5 m).sml := ⟨by simp, by simp, hl, trivial, smlm_of h⟩
theorem mapV_G5 {m : List (List UInt8 × GV)} {ys : List E} (hm : FMs m (ys.map enc)) (hl : m.length ≤ 9223372036854775807) : FV (G5 m) (mapV ys) := by
  obtain ⟨h1, h2, h3, h4⟩ := msl_ro ys
  exact ⟨.v (.slice none 0 0), msl ys, [], ys.map enc, rfl, rfl, h1, .inl rfl, h2, rfl, h3, rfl, h4, by simp, by simp, hl, rfl, hm⟩
end Go.Proofs.YtjejeijldllloaaDoor

/- Chapter 2: ValueMaps. -/
namespace Go.Proofs.YtjejeijldllloaaDoor
open Go.AM
section
variable {prim : FuncId → Option (List AV → Option AV)}
theorem gp4 {b g i j : Nat} : fieldAddrA (cfgP prim) 39 (.ptr b g i j) 4 = some (.ptr b g i (j + 4)) := by kernel_rfl
end
theorem cv331 {prim : FuncId → Option (List AV → Option AV)} {n : Int} : convA (cfgP prim) 3 31 (.v (.int .i64 n)) = some (.v (.int .u64 (IntKind.u64.wrap n))) := conv_int (j := .i64) (by kernel_rfl) (by kernel_rfl) (by kernel_rfl) (by kernel_rfl)
theorem cv313 {prim : FuncId → Option (List AV → Option AV)} {n : Int} : convA (cfgP prim) 31 3 (.v (.int .u64 n)) = some (.v (.int .i64 (IntKind.i64.wrap n))) := conv_int (j := .u64) (by kernel_rfl) (by kernel_rfl) (by kernel_rfl) (by kernel_rfl)
end Go.Proofs.YtjejeijldllloaaDoor
