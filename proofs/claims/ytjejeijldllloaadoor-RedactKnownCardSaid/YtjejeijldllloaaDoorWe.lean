/- Contracts of functions, and plain facts about what they compute. -/
import Derived.Test.YtjejeijldllloaaDoorWd
import Derived.Test.YtjejeijldllloaaDoorAmD
set_option linter.unusedSimpArgs false
set_option linter.unusedVariables false
/- Chapter 2: ValueMaps: plain facts. -/
namespace Go.Proofs.YtjejeijldllloaaDoor
open Go.AM
/-- A map of these members. -/
def G5 (m : List (List UInt8 × GV)) : GV := .mk 5 0 [] [] m
theorem fmp_key {p : List UInt8 × GV} {q : E} (h : FMp p (enc q)) : p.1 = q.1 := by
  obtain ⟨k, v⟩ := p
  obtain ⟨cs, e, _⟩ := h
  injection e with e
  injection e with e _
  exact (str_inj e).symm
theorem mapV_G5 {m : List (List UInt8 × GV)} {ys : List E} (hm : FMs m (ys.map enc)) (hl : m.length ≤ 9223372036854775807) : FV (G5 m) (mapV ys) := by
  obtain ⟨h1, h2, h3, h4⟩ := msl_ro ys
  exact ⟨.v (.slice none 0 0), msl ys, [], ys.map enc, rfl, rfl, h1, .inl rfl, h2, rfl, h3, rfl, h4, by simp, by simp, hl, rfl, hm⟩
end Go.Proofs.YtjejeijldllloaaDoor

/- Chapter 2: ValueMaps. -/
namespace Go.Proofs.YtjejeijldllloaaDoor
open Go.AM
section
variable {prim : FuncId → Option (List AV → Option AV)}
theorem src_sl {x : AV} {xs : List AV} {e : TypeId} (h : elems x = some xs) (hk : slK x) : srcA (cfgP prim) e x = some xs := by
  rcases hk with rfl | ⟨h1, h2⟩
  · exact h
  · cases x <;> first | exact h | (simp [someSl] at h1; done)
theorem room48 {n : Nat} (h : n ≤ 4294967296) : roomOk (cfgP prim) 48 n = true := by
  have hby : (cfgP prim).byt 48 = some 96 := by kernel_rfl
  simp only [roomOk, hby, Bool.and_eq_true, decide_eq_true_eq]
  omega
theorem app_cl {x y : AV} {ys : List AV} {H : Hp} {f : Bool} (h : elems x = some (y :: ys)) (hk : slK x) (hy : y.cells.length = 6) (hl : (y :: ys).length ≤ 4294967296) : appA (cfgP prim) #[37, 37] [.cl f [], x] H = some (.ap H.toks.length (y :: ys), { H with toks := H.toks ++ [((y :: ys).length, 48)] }) := by
  have h0 : ((#[37, 37] : Array TypeId)[0]?).bind (elemT (cfgP prim)) = some 48 := by kernel_rfl
  have h1 : ((#[37, 37] : Array TypeId)[1]?).bind (cfgP prim).und = some (.slice 48) := by kernel_rfl
  have hz : zeroA (cfgP prim) 48 = some z6 := by kernel_rfl
  have hzl : z6.cells.length = 6 := rfl
  have hc : (cfgP prim).csz 48 = some 6 := by kernel_rfl
  simp only [appA, h0, h1, hz, hc, hzl, if_true, appendA, src_sl h hk]
  rw [if_neg (by omega), if_pos ⟨rfl, room48 (by simpa using hl)⟩]
  simp
theorem app_ap {x y z : AV} {ys zs : List AV} {H : Hp} {t : Nat} (h : elems x = some (y :: ys)) (hk : slK x) (hy : y.cells.length = 6) (hz' : z.cells.length = 6) (ht : H.toks[t]? = some ((z :: zs).length, 48)) (hl : (z :: zs).length + (y :: ys).length ≤ 4294967296) : appA (cfgP prim) #[37, 37] [.ap t (z :: zs), x] H = some (.ap t (z :: zs ++ y :: ys), { H with toks := H.toks.set t ((z :: zs).length + (y :: ys).length, 48) }) := by
  have h0 : ((#[37, 37] : Array TypeId)[0]?).bind (elemT (cfgP prim)) = some 48 := by kernel_rfl
  have h1 : ((#[37, 37] : Array TypeId)[1]?).bind (cfgP prim).und = some (.slice 48) := by kernel_rfl
  have hz : zeroA (cfgP prim) 48 = some z6 := by kernel_rfl
  have hzl : z6.cells.length = 6 := rfl
  have hc : (cfgP prim).csz 48 = some 6 := by kernel_rfl
  have hs : szOk (z :: zs) (5 + 1) = true := by simp [szOk, hz']
  simp only [appA, h0, h1, hz, hc, hzl, if_true, appendA, src_sl h hk]
  rw [if_neg (by omega), if_pos ⟨ht, hs, room48 hl⟩]
theorem gp4 {b g i j : Nat} : fieldAddrA (cfgP prim) 39 (.ptr b g i j) 4 = some (.ptr b g i (j + 4)) := by kernel_rfl
end
theorem cv331 {prim : FuncId → Option (List AV → Option AV)} {n : Int} : convA (cfgP prim) 3 31 (.v (.int .i64 n)) = some (.v (.int .u64 (IntKind.u64.wrap n))) := conv_int (j := .i64) (by kernel_rfl) (by kernel_rfl) (by kernel_rfl) (by kernel_rfl)
theorem cv313 {prim : FuncId → Option (List AV → Option AV)} {n : Int} : convA (cfgP prim) 31 3 (.v (.int .u64 n)) = some (.v (.int .i64 (IntKind.i64.wrap n))) := conv_int (j := .u64) (by kernel_rfl) (by kernel_rfl) (by kernel_rfl) (by kernel_rfl)
end Go.Proofs.YtjejeijldllloaaDoor
