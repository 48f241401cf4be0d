/- Contracts of functions, and plain facts about what they compute. -/
import Derived.Test.YtjejeijldllloaaDoorUg
set_option linter.unusedSimpArgs false
set_option linter.unusedVariables false
/- Chapter 1: UtfPoints. -/
namespace Go.Proofs.YtjejeijldllloaaDoor
open Go.AM
theorem enc_go {n : Nat} (h1 : n ≤ 1114111) (h2 : n < 55296 ∨ 57344 ≤ n) : Utf8.encode (n : Int) = ⟨(encU n).toArray⟩ := by
  have hv : Utf8.valid (n : Int) = true := by
    unfold Utf8.valid
    rcases h2 with h | h
    · have a1 : (0 : Int) ≤ (n : Int) := by omega
      have a2 : (n : Int) < 55296 := by omega
      simp [a1, a2]
    · have a1 : (57344 : Int) ≤ (n : Int) := by omega
      have a2 : (n : Int) ≤ 1114111 := by omega
      simp [a1, a2]
  unfold Utf8.encode encU encN
  simp only [hv, if_true, Int.toNat_natCast]
  by_cases k1 : n ≤ 127
  · rw [if_pos (by omega), if_pos k1]; rfl
  rw [if_neg (by omega), if_neg k1]
  by_cases k2 : n ≤ 2047
  · rw [if_pos (by omega), if_pos k2]; rfl
  rw [if_neg (by omega), if_neg k2]
  by_cases k3 : n ≤ 65535
  · rw [if_pos (by omega), if_pos k3]; rfl
  rw [if_neg (by omega), if_neg k3]
  rfl
section
variable {prim : FuncId → Option (List AV → Option AV)}
theorem conv_rs {n : Nat} (h1 : n ≤ 1114111) (h2 : n < 55296 ∨ 57344 ≤ n) : convA (cfgP prim) 21 9 (.v (.int .i32 (n : Int))) = some (str (encU n)) := by
  have hs : (cfgP prim).und 21 = some (.int .i32) := by kernel_rfl
  have ht : (cfgP prim).und 9 = some .string := by kernel_rfl
  have hs' : (cfgP prim).P.underlying 21 = some (.int .i32) := by kernel_rfl
  have ht' : (cfgP prim).P.underlying 9 = some .string := by kernel_rfl
  simp [convA, hs, ht, toV_int, convert, underlying, program, hs', ht', Conv.intToString, pureRun, ofV, bind, Sem.bind, pure, enc_go h1 h2, str]
theorem cv3r {n : Nat} (h : n < 2147483648) : convA (cfgP prim) 3 21 (.v (.int .i64 (n : Int))) = some (.v (.int .i32 (n : Int))) := by
  rw [conv_int (C := cfgP prim) (j := .i64) (k' := .i32) (by kernel_rfl) (by kernel_rfl) (by kernel_rfl) (by kernel_rfl), wr32 (by omega) (by omega)]
end
def capL : List UInt8 := [48, 49, 50, 51, 52, 53, 54, 55, 56, 57, 65, 66, 67, 68, 69, 70]
def alph (great : Bool) : List UInt8 := if great then capL else digL
def dg (great : Bool) (k : Nat) : UInt8 := (alph great).getD k 0
theorem dg_v (great : Bool) : ∀ k : Fin 16, digV (dg great k.1) = some k.1 := by cases great <;> decide +kernel
theorem alph_len (great : Bool) : (alph great).length = 16 := by cases great <;> rfl
theorem dg_take (great : Bool) {k : Nat} (h : k < 16) : ((alph great).drop k).take 1 = [dg great k] := by
  have hl : k < (alph great).length := by rw [alph_len]; exact h
  rw [List.drop_eq_getElem_cons hl, List.take_succ_cons, List.take_zero]
  congr 1
  simp [dg, List.getD_eq_getElem?_getD, hl]
theorem unq_esc {t : List UInt8} {f k k' : Nat} {l l' : List UInt8} (h : t[k]? = some 92) (he : escF t (k + 1) l = (true, k', l')) : unqF t (f + 1) k l = unqF t f k' l' := by
  simp only [unqF, h]
  rw [if_neg (by decide), if_neg (by decide), if_pos (by decide), he]
  simp only [if_true]
theorem unq_esc_no {t : List UInt8} {f k : Nat} {l : List UInt8} (h : t[k]? = some 92) (he : (escF t (k + 1) l).1 = false) : (unqF t (f + 1) k l).1 = false := by
  simp only [unqF, h]
  rw [if_neg (by decide), if_neg (by decide), if_pos (by decide), he]
  rfl
theorem unq_end {t : List UInt8} {f k : Nat} {l : List UInt8} (h : t[k]? = some 34) : unqF t (f + 1) k l = (utfB l, k + 1, l) := by
  simp only [unqF, h]
  rw [if_neg (by decide), if_pos (by decide)]
/-- One escape of four digits. -/
def escL (great : Bool) (v : Nat) : List UInt8 := [92, 117, dg great (v / 4096), dg great (v / 256 % 16), dg great (v / 16 % 16), dg great (v % 16)]
theorem escL_hex {great : Bool} {t a b : List UInt8} {v k : Nat} (hv : v < 65536) (h : t = a ++ (escL great v ++ b)) (hk : k = a.length) : t[k]? = some 92 ∧ t[k + 1]? = some 117 ∧ hexF t 4 (k + 2) 0 = (some v, k + 6) := by
  have g := fun i => getA h hk i
  have g0 : t[k]? = some 92 := g 0
  have g1 : t[k + 1]? = some 117 := g 1
  have g2 : t[k + 2]? = some (dg great (v / 4096)) := g 2
  have g3 : t[k + 2 + 1]? = some (dg great (v / 256 % 16)) := g 3
  have g4 : t[k + 2 + 2]? = some (dg great (v / 16 % 16)) := g 4
  have g5 : t[k + 2 + 3]? = some (dg great (v % 16)) := g 5
  have hx := hex_four g2 g3 g4 g5 (dg_v great ⟨v / 4096, by omega⟩) (dg_v great ⟨v / 256 % 16, by omega⟩) (dg_v great ⟨v / 16 % 16, by omega⟩) (dg_v great ⟨v % 16, by omega⟩)
  simp only at hx
  rw [show ((v / 4096 * 16 + v / 256 % 16) * 16 + v / 16 % 16) * 16 + v % 16 = v by omega] at hx
  exact ⟨g0, g1, hx⟩
/-- The escape of a code point. -/
def ptL (great : Bool) (n : Nat) : List UInt8 := if n < 65536 then escL great n else escL great (55296 + (n - 65536) / 1024) ++ escL great (56320 + (n - 65536) % 1024)
theorem pt_textF {great : Bool} {n : Nat} (hn : n < 1114112) (hv : n < 55296 ∨ 57344 ≤ n) : textF (34 :: ptL great n ++ [34]) = (true, (ptL great n).length + 2, encU n) := by
  obtain ⟨t, ht⟩ : ∃ t, 34 :: ptL great n ++ [34] = t := ⟨_, rfl⟩
  rw [ht]
  have h0 : t[0]? = some 34 := by rw [← ht]; rfl
  have hg := (encU_good (r := n) (by omega) hv).1
  have hu : utfB (encU n) = true := by unfold utfB; rw [hg]; rfl
  unfold textF
  rw [h0]
  simp only
  rw [if_pos (by decide)]
  by_cases k : n < 65536
  · have hp : ptL great n = escL great n := if_pos k
    rw [hp] at ht ⊢
    have hl : t.length = 8 := by rw [← ht]; rfl
    obtain ⟨g0, g1, g2⟩ := escL_hex (great := great) (t := t) (a := [34]) (b := [34]) (v := n) (k := 1) k (by rw [← ht]; rfl) rfl
    have g3 : t[7]? = some 34 := by rw [← ht]; rfl
    have he : escF t 2 [] = (true, 7, encU n) := by
      simp only [escF, g1]
      rw [if_pos (by decide)]
      have hpt : pointF t (2 + 1) = (some n, 7) := by
        unfold pointF
        rw [g2]
        simp only
        rw [if_neg (by omega), if_neg (by omega)]
      rw [hpt]
      rfl
    rw [hl, unq_esc (f := 7) g0 he, unq_end (f := 6) g3, hu]
    rfl
  · obtain ⟨x, hx⟩ : ∃ x, (n - 65536) / 1024 = x := ⟨_, rfl⟩
    obtain ⟨y, hy⟩ : ∃ y, (n - 65536) % 1024 = y := ⟨_, rfl⟩
    have hp : ptL great n = escL great (55296 + x) ++ escL great (56320 + y) := by unfold ptL; rw [if_neg k, hx, hy]
    rw [hp] at ht ⊢
    have hl : t.length = 14 := by rw [← ht]; rfl
    obtain ⟨g0, g1, g2⟩ := escL_hex (great := great) (t := t) (a := [34]) (b := escL great (56320 + y) ++ [34]) (v := 55296 + x) (k := 1) (by omega) (by rw [← ht]; rfl) rfl
    obtain ⟨f0, f1, f2⟩ := escL_hex (great := great) (t := t) (a := 34 :: escL great (55296 + x)) (b := [34]) (v := 56320 + y) (k := 7) (by omega) (by rw [← ht]; rfl) rfl
    have g3 : t[13]? = some 34 := by rw [← ht]; rfl
    have he : escF t 2 [] = (true, 13, encU n) := by
      simp only [escF, g1]
      rw [if_pos (by decide)]
      have hpt : pointF t (2 + 1) = (some n, 13) := by
        unfold pointF
        rw [g2]
        simp only
        rw [if_neg (by omega), if_pos (by omega), halfF_eq, if_pos ⟨f0, f1⟩, f2]
        simp only
        rw [if_neg (by omega), show 65536 + (55296 + x - 55296) * 1024 + (56320 + y - 56320) = n by omega]
      rw [hpt]
      rfl
    rw [hl, unq_esc (f := 13) g0 he, unq_end (f := 12) g3, hu]
    rfl
theorem pt_half {great : Bool} {n : Nat} (hv : 55296 ≤ n ∧ n < 57344) : (textF (34 :: ptL great n ++ [34])).1 = false := by
  obtain ⟨t, ht⟩ : ∃ t, 34 :: ptL great n ++ [34] = t := ⟨_, rfl⟩
  rw [ht]
  have h0 : t[0]? = some 34 := by rw [← ht]; rfl
  unfold textF
  rw [h0]
  simp only
  rw [if_pos (by decide)]
  have hp : ptL great n = escL great n := if_pos (by omega)
  rw [hp] at ht
  have hl : t.length = 8 := by rw [← ht]; rfl
  obtain ⟨g0, g1, g2⟩ := escL_hex (great := great) (t := t) (a := [34]) (b := [34]) (v := n) (k := 1) (by omega) (by rw [← ht]; rfl) rfl
  have g3 : t[1 + 6]? = some 34 := by rw [← ht]; rfl
  have hpt : (pointF t (2 + 1)).1 = none := by
    unfold pointF
    rw [g2]
    simp only
    split
    · rfl
    · rw [if_pos (by omega), halfF_eq, if_neg (by rintro ⟨h, _⟩; rw [g3] at h; cases h)]
  have he : (escF t 2 []).1 = false := by
    simp only [escF, g1]
    rw [if_pos (by decide), hpt]
    rfl
  rw [hl]
  exact unq_esc_no (f := 7) g0 he
theorem pt_len (great : Bool) (n : Nat) : (ptL great n).length ≤ 12 := by
  unfold ptL
  split <;> simp [escL]
end Go.Proofs.YtjejeijldllloaaDoor

/- Chapter 1: UtfPoints. -/
namespace Go.Proofs.YtjejeijldllloaaDoor
open Go.AM
section
variable {prim : FuncId → Option (List AV → Option AV)}
theorem bsI1 {a : Int} : buildSliceA (cfgP prim) 32 1 [(0, .v (.int .i64 a))] = some (.cl true [.v (.int .i64 a)]) := by kernel_rfl
theorem bsI2 {a b : Int} : buildSliceA (cfgP prim) 32 2 [(0, .v (.int .i64 a)), (1, .v (.int .i64 b))] = some (.cl true [.v (.int .i64 a), .v (.int .i64 b)]) := by kernel_rfl
theorem iI1 {a : Int} : indexAddrA (cfgP prim) 32 (.cl true [.v (.int .i64 a)]) (.v (.int .i64 0)) = some (.rp (.v (.int .i64 a)) 0) := by kernel_rfl
theorem iI2 {a b : Int} : indexAddrA (cfgP prim) 32 (.cl true [.v (.int .i64 a), .v (.int .i64 b)]) (.v (.int .i64 0)) = some (.rp (.v (.int .i64 a)) 0) := by kernel_rfl
theorem iI3 {a b : Int} : indexAddrA (cfgP prim) 32 (.cl true [.v (.int .i64 a), .v (.int .i64 b)]) (.v (.int .i64 1)) = some (.rp (.v (.int .i64 b)) 0) := by kernel_rfl
theorem lI1 {a : Int} : lenA (cfgP prim) #[32] [.cl true [.v (.int .i64 a)]] = some (.v (.int .i64 1)) := by kernel_rfl
theorem lI2 {a b : Int} : lenA (cfgP prim) #[32] [.cl true [.v (.int .i64 a), .v (.int .i64 b)]] = some (.v (.int .i64 2)) := by kernel_rfl
theorem cellsI (a : Int) : AV.cells (.v (.int .i64 a)) = [.v (.int .i64 a)] := rfl
/-- The slices of one digit. -/
theorem slDg {great : Bool} {k : Nat} (h : k < 16) : sliceA (cfgP prim) 9 (str (alph great)) (some (.v (.int .i64 (k : Int)))) (some (.v (.int .i64 ((k : Int) + 1)))) none = some (str [dg great k]) :=
  slM (n := 1) (by omega) (dg_take great h) (by rw [alph_len]; omega)
end
theorem u64W (n : Int) : IntKind.u64.wrap n = n % 2 ^ 64 := by
  simp [IntKind.wrap, IntKind.bits, IntKind.signed]
section
variable {prim : FuncId → Option (List AV → Option AV)}
theorem cvSU {n : Int} : convA (cfgP prim) 3 31 (.v (.int .i64 n)) = some (.v (.int .u64 (IntKind.u64.wrap n))) := conv_int (j := .i64) (by kernel_rfl) (by kernel_rfl) (by kernel_rfl) (by kernel_rfl)
theorem cvUS {n : Int} : convA (cfgP prim) 31 3 (.v (.int .u64 n)) = some (.v (.int .i64 (IntKind.i64.wrap n))) := conv_int (j := .u64) (by kernel_rfl) (by kernel_rfl) (by kernel_rfl) (by kernel_rfl)
end
theorem adds {prim : FuncId → Option (List AV → Option AV)} (S0 : List UInt8) (h : S0.length ≤ 20) (a b c d : UInt8) : ∃ A1 A2 A3 A4 A5 : List UInt8,
    (∀ x y, binA (cfgP prim) .add 9 x y (str S0) (str [92, 117]) = some (str A1)) ∧ (∀ x y, binA (cfgP prim) .add 9 x y (str A1) (str [a]) = some (str A2)) ∧
    (∀ x y, binA (cfgP prim) .add 9 x y (str A2) (str [b]) = some (str A3)) ∧ (∀ x y, binA (cfgP prim) .add 9 x y (str A3) (str [c]) = some (str A4)) ∧
    (∀ x y, binA (cfgP prim) .add 9 x y (str A4) (str [d]) = some (str A5)) ∧ A5 = S0 ++ [92, 117, a, b, c, d] :=
  ⟨_, _, _, _, _, fun _ _ => bin_str_add (by simp; omega), fun _ _ => bin_str_add (by simp; omega), fun _ _ => bin_str_add (by simp; omega), fun _ _ => bin_str_add (by simp; omega), fun _ _ => bin_str_add (by simp; omega), by simp⟩
def ur8 : FuncId → Option (List AV → Option AV) := tab [(18, awakeP), (23, runesQ), (19, unqQ)]
theorem ur8_ok : (cfgP ur8).Ok := cfg_ok (tab_ok ⟨prim_at Tryd.func18 (by kernel_rfl) rfl (uawake_ok), prim_at Tryd.func23 (by kernel_rfl) rfl ((s1P_of runesF_ok)), prim_at Tryd.func19 (by kernel_rfl) rfl ((s1P_of fun l h => unquote_ok l (by omega))), trivial⟩)
theorem ur8_18 : (cfgP ur8).prim 18 = some awakeP := rfl
theorem ur8_23 : (cfgP ur8).prim 23 = some runesQ := rfl
theorem ur8_19 : (cfgP ur8).prim 19 = some unqQ := rfl
def unqT (great : Bool) (n : Nat) : AV := unqV (34 :: ptL great n ++ [34])
set_option maxHeartbeats 16000000 in
set_option maxRecDepth 100000 in
theorem pts_falseS (c : Int) (n : Nat) (hnl : n < 1114112) (hw : IntKind.i64.wrap ((IntKind.u64.wrap c).tmod 1114112) = (n : Int)) (kk : n < 65536) : PureOk (cfgP ur8) 5 [.v (.int .i64 c), .v (.bool false)] (.v (.bool true)) := by
  have hne : (1114112 : Int) ≠ 0 := by decide
  have hpl := pt_len false n
  have hl0 : (34 :: ptL false n).length ≤ 13 := by rw [List.length_cons]; omega
  have q1 : ∀ x y : Operand, binA (cfgP ur8) .add 9 x y (str [34]) (str (ptL false n)) = some (str (34 :: ptL false n)) := fun x y => bin_str_add (a := [34]) (b := ptL false n) (by rw [List.length_singleton]; omega)
  have q2 : ∀ x y : Operand, binA (cfgP ur8) .add 9 x y (str (34 :: ptL false n)) (str [34]) = some (str (34 :: ptL false n ++ [34])) := fun x y => bin_str_add (a := 34 :: ptL false n) (b := [34]) (by rw [List.length_singleton]; omega)
  have q3 := s1P_eq (n := 68719476736) (g := unqV) (l := 34 :: ptL false n ++ [34]) (by rw [List.length_append, List.length_singleton]; omega)
  have hval : (n < 55296 ∨ 57344 ≤ n) ∨ (55296 ≤ n ∧ n < 57344) := by omega
  have v1 : (n < 55296 ∨ 57344 ≤ n) → unqV (34 :: ptL false n ++ [34]) = .tup [str (encU n), .v (.int .i64 (((ptL false n).length + 2 : Nat) : Int)), .v (.int .i64 0)] := fun h => by unfold unqV; rw [pt_textF hnl h]; rfl
  have v2 : (55296 ≤ n ∧ n < 57344) → unqV (34 :: ptL false n ++ [34]) = .tup [str [], .v (.int .i64 0), .v (.int .i64 2)] := fun h => by unfold unqV; rw [pt_half h]; rfl
  have r1 : (n < 55296 ∨ 57344 ≤ n) → runesQ [str (encU n)] = some (.v (.int .i64 1)) := fun h => by
    have := encU_len n
    rw [runesQ_eq (by omega)]
    unfold runesZ
    rw [(encU_good (r := n) (by omega) h).1]
    rfl
  have de : decide (encU n = encU n) = true := by simp
  have av0 : (ptL false n = escL false n ∧ n < 65536) ∨ (65536 ≤ n ∧ ptL false n = escL false (55296 + (n - 65536) / 1024) ++ escL false (56320 + (n - 65536) % 1024)) := by
    unfold ptL
    by_cases k : n < 65536
    · rw [if_pos k]; exact .inl ⟨rfl, k⟩
    · rw [if_neg k]; exact .inr ⟨by omega, rfl⟩
  obtain ⟨S, hS⟩ : ∃ S, ptL false n = S := ⟨_, rfl⟩
  rw [hS] at hpl hl0 q1 q2 q3 v1 v2 av0
  obtain ⟨Q1, hQ1⟩ : ∃ Q, 34 :: S = Q := ⟨_, rfl⟩
  rw [hQ1] at q1 q2 q3 v1 v2 hl0
  obtain ⟨Q2, hQ2⟩ : ∃ Q, Q1 ++ [34] = Q := ⟨_, rfl⟩
  rw [hQ2] at q2 q3 v1 v2
  clear hS hQ1 hQ2
  have q3' : unqQ [str Q2] = some (unqV Q2) := q3
  clear q3
  rcases av0 with ⟨hp, k⟩ | ⟨k, hp⟩
  · skip
    obtain ⟨A1, A2, A3, A4, A5, aA1, aA2, aA3, aA4, aA5, eA⟩ := adds (prim := ur8) [] (by simp) (dg false (n / 4096)) (dg false (n / 256 % 16)) (dg false (n / 16 % 16)) (dg false (n % 16))
    have e6 : A5 = S := by rw [eA, hp]; rfl
    subst e6
    have d0 : sliceA (cfgP ur8) 9 (str [48, 49, 50, 51, 52, 53, 54, 55, 56, 57, 97, 98, 99, 100, 101, 102]) (some (.v (.int .i64 ((n / 4096 : Nat) : Int)))) (some (.v (.int .i64 (((n / 4096 : Nat) : Int) + 1)))) none = some (str [dg false (n / 4096)]) := slDg (great := false) (by omega)
    have d1 : sliceA (cfgP ur8) 9 (str [48, 49, 50, 51, 52, 53, 54, 55, 56, 57, 97, 98, 99, 100, 101, 102]) (some (.v (.int .i64 ((n / 256 % 16 : Nat) : Int)))) (some (.v (.int .i64 (((n / 256 % 16 : Nat) : Int) + 1)))) none = some (str [dg false (n / 256 % 16)]) := slDg (great := false) (by omega)
    have d2 : sliceA (cfgP ur8) 9 (str [48, 49, 50, 51, 52, 53, 54, 55, 56, 57, 97, 98, 99, 100, 101, 102]) (some (.v (.int .i64 ((n / 16 % 16 : Nat) : Int)))) (some (.v (.int .i64 (((n / 16 % 16 : Nat) : Int) + 1)))) none = some (str [dg false (n / 16 % 16)]) := slDg (great := false) (by omega)
    have d3 : sliceA (cfgP ur8) 9 (str [48, 49, 50, 51, 52, 53, 54, 55, 56, 57, 97, 98, 99, 100, 101, 102]) (some (.v (.int .i64 ((n % 16 : Nat) : Int)))) (some (.v (.int .i64 (((n % 16 : Nat) : Int) + 1)))) none = some (str [dg false (n % 16)]) := slDg (great := false) (by omega)
    rcases hval with hv | hv
    · have hc := v1 hv
      rw [hc] at q3'
      have hr := r1 hv
      have cr := conv_rs (prim := ur8) (n := n) (by omega) hv
      rcases hv with hv | hv
      · skip
        refine pure_of_wk (call := noCall) (fn := Tryd.f5) (rs := [.tmp 4]) ur8_ok noCall_ok (fns_cfg Tryd.func5 rfl) rfl rfl ?_
        intro env hl0 hargs
        have hn : env.length = 141 := hl0
        have h0 := hargs 0 _ rfl
        have h1 := hargs 1 _ rfl
        clear hargs hl0
        refine wkT_of ?_
        rw [fe_self hn]
        (try simp -dsimp (disch := omega) only [h0, h1, ct_prim ur8_18, awakeP, cvSU, cvUS, bin_rem hne, hw, bsI1, bsI2, iI1, iI2, iI3, lI1, lI2, cellsI, rp3, len_s, wrap64, br64_12, br64_8, br64_4, br64_10, ba64_15, ba64_1023, wst_app_nil, wst_app_cons, lapp0, lappS, lappN, wt_loop_unfold, q1, q2, q3', ct_prim ur8_19, ct_prim ur8_23, bare_s, d0, d1, d2, d3, aA1, aA2, aA3, aA4, aA5, hr, cr, cv3r, de, wt_seq, wt_block, wt_region, wt_cond, wt_skip, wt_ret, wt_exit, wst_nil, wst_cons, wst_guard, andThen_normal, andThen_ret, andThen_exit, leave_normal, leave_ret, leave_exit, EndsA_ret, EndsA_normal, ot_move, ot_assign, ot_pick, ot_binOp, ot_unOp, ot_convert, ot_field, ot_index, ot_indexAddr, ot_fieldAddr, ot_slice, ot_build, ot_buildSlice, ot_extract, ot_makeInterface, ot_makeFunc, ot_nilCheck, ot_call, ot_len, ot_append, ot_box, ot_load, ot_store, ot_makeSlice, ot_alloc, ot_sliceData, ot_unsafeString, ct_bool, ct_true, ct_false, bt_some, gt_some, aval_tmp, aval_int, aval_bool, aval_str, aval_slice, aval_nilPointer, aval_nilIface, aval_func, aval_global, avals, apairs, bareP, AV.bare, AV.bares, bin_lss, bin_leq, bin_gtr, bin_geq, bin_eql, bin_neq, bin_add, bin_sub, bin_mul, toV_int, toV_bool, toV_string, un_neg, un_not, bin_str_eql, bin_str_neq, bin_str_lss, bin_str_leq, bin_str_gtr, bin_str_geq, aget_aput, length_aput, aput_none, Nat.reduceEqDiff, Nat.reduceLT, Nat.reduceAdd, ↓reduceIte, reduceCtorEq, Bool.not_false, Bool.not_true, Bool.true_or, true_and, Option.bind_some, Option.map_some, List.nil_append, List.cons_append, resA, resA1, resVal, Option.getD_some, Nat.reduceLeDiff, bnd_some, yieldA_eq, yldOf_some, boolOf_bool, boolOf_undef, gt_none, List.getElem?_toArray, List.getElem?_cons_succ, List.getElem?_cons_zero, bq_true, bq_false, decide_true, decide_false, Option.toList_none, Option.toList_some, List.head?_cons, List.head?_nil, nb_cfg, not_false_eq_true, cv_some, pm_some, pm_none, plainA_v, plain_bool, plain_int, plain_str, Bool.false_eq_true, if_false, Int.reduceLT, Int.reduceLE, Int.reduceEq, Int.reduceAdd, Int.reduceSub, Int.reduceMul, Int.reduceNeg, Int.reduceNe, decide_not, Bool.and_true, Bool.true_and, Bool.and_false, Bool.false_and, Bool.or_false, Bool.false_or, Bool.or_true, if_true, Bool.not_not, decide_eq_true, decide_eq_false, fe_get, fe_put, fe_len, upd_app])
        refine ⟨by kernel_rfl, 1, rfl⟩
      · skip
        refine pure_of_wk (call := noCall) (fn := Tryd.f5) (rs := [.tmp 4]) ur8_ok noCall_ok (fns_cfg Tryd.func5 rfl) rfl rfl ?_
        intro env hl0 hargs
        have hn : env.length = 141 := hl0
        have h0 := hargs 0 _ rfl
        have h1 := hargs 1 _ rfl
        clear hargs hl0
        refine wkT_of ?_
        rw [fe_self hn]
        (try simp -dsimp (disch := omega) only [h0, h1, ct_prim ur8_18, awakeP, cvSU, cvUS, bin_rem hne, hw, bsI1, bsI2, iI1, iI2, iI3, lI1, lI2, cellsI, rp3, len_s, wrap64, br64_12, br64_8, br64_4, br64_10, ba64_15, ba64_1023, wst_app_nil, wst_app_cons, lapp0, lappS, lappN, wt_loop_unfold, q1, q2, q3', ct_prim ur8_19, ct_prim ur8_23, bare_s, d0, d1, d2, d3, aA1, aA2, aA3, aA4, aA5, hr, cr, cv3r, de, wt_seq, wt_block, wt_region, wt_cond, wt_skip, wt_ret, wt_exit, wst_nil, wst_cons, wst_guard, andThen_normal, andThen_ret, andThen_exit, leave_normal, leave_ret, leave_exit, EndsA_ret, EndsA_normal, ot_move, ot_assign, ot_pick, ot_binOp, ot_unOp, ot_convert, ot_field, ot_index, ot_indexAddr, ot_fieldAddr, ot_slice, ot_build, ot_buildSlice, ot_extract, ot_makeInterface, ot_makeFunc, ot_nilCheck, ot_call, ot_len, ot_append, ot_box, ot_load, ot_store, ot_makeSlice, ot_alloc, ot_sliceData, ot_unsafeString, ct_bool, ct_true, ct_false, bt_some, gt_some, aval_tmp, aval_int, aval_bool, aval_str, aval_slice, aval_nilPointer, aval_nilIface, aval_func, aval_global, avals, apairs, bareP, AV.bare, AV.bares, bin_lss, bin_leq, bin_gtr, bin_geq, bin_eql, bin_neq, bin_add, bin_sub, bin_mul, toV_int, toV_bool, toV_string, un_neg, un_not, bin_str_eql, bin_str_neq, bin_str_lss, bin_str_leq, bin_str_gtr, bin_str_geq, aget_aput, length_aput, aput_none, Nat.reduceEqDiff, Nat.reduceLT, Nat.reduceAdd, ↓reduceIte, reduceCtorEq, Bool.not_false, Bool.not_true, Bool.true_or, true_and, Option.bind_some, Option.map_some, List.nil_append, List.cons_append, resA, resA1, resVal, Option.getD_some, Nat.reduceLeDiff, bnd_some, yieldA_eq, yldOf_some, boolOf_bool, boolOf_undef, gt_none, List.getElem?_toArray, List.getElem?_cons_succ, List.getElem?_cons_zero, bq_true, bq_false, decide_true, decide_false, Option.toList_none, Option.toList_some, List.head?_cons, List.head?_nil, nb_cfg, not_false_eq_true, cv_some, pm_some, pm_none, plainA_v, plain_bool, plain_int, plain_str, Bool.false_eq_true, if_false, Int.reduceLT, Int.reduceLE, Int.reduceEq, Int.reduceAdd, Int.reduceSub, Int.reduceMul, Int.reduceNeg, Int.reduceNe, decide_not, Bool.and_true, Bool.true_and, Bool.and_false, Bool.false_and, Bool.or_false, Bool.false_or, Bool.or_true, if_true, Bool.not_not, decide_eq_true, decide_eq_false, fe_get, fe_put, fe_len, upd_app])
        refine ⟨by kernel_rfl, 1, rfl⟩
    · obtain ⟨hv1, hv2⟩ := hv
      have hc := v2 ⟨hv1, hv2⟩
      rw [hc] at q3'
      refine pure_of_wk (call := noCall) (fn := Tryd.f5) (rs := [.tmp 4]) ur8_ok noCall_ok (fns_cfg Tryd.func5 rfl) rfl rfl ?_
      intro env hl0 hargs
      have hn : env.length = 141 := hl0
      have h0 := hargs 0 _ rfl
      have h1 := hargs 1 _ rfl
      clear hargs hl0
      refine wkT_of ?_
      rw [fe_self hn]
      (try simp -dsimp (disch := omega) only [h0, h1, ct_prim ur8_18, awakeP, cvSU, cvUS, bin_rem hne, hw, bsI1, bsI2, iI1, iI2, iI3, lI1, lI2, cellsI, rp3, len_s, wrap64, br64_12, br64_8, br64_4, br64_10, ba64_15, ba64_1023, wst_app_nil, wst_app_cons, lapp0, lappS, lappN, wt_loop_unfold, q1, q2, q3', ct_prim ur8_19, ct_prim ur8_23, bare_s, d0, d1, d2, d3, aA1, aA2, aA3, aA4, aA5, wt_seq, wt_block, wt_region, wt_cond, wt_skip, wt_ret, wt_exit, wst_nil, wst_cons, wst_guard, andThen_normal, andThen_ret, andThen_exit, leave_normal, leave_ret, leave_exit, EndsA_ret, EndsA_normal, ot_move, ot_assign, ot_pick, ot_binOp, ot_unOp, ot_convert, ot_field, ot_index, ot_indexAddr, ot_fieldAddr, ot_slice, ot_build, ot_buildSlice, ot_extract, ot_makeInterface, ot_makeFunc, ot_nilCheck, ot_call, ot_len, ot_append, ot_box, ot_load, ot_store, ot_makeSlice, ot_alloc, ot_sliceData, ot_unsafeString, ct_bool, ct_true, ct_false, bt_some, gt_some, aval_tmp, aval_int, aval_bool, aval_str, aval_slice, aval_nilPointer, aval_nilIface, aval_func, aval_global, avals, apairs, bareP, AV.bare, AV.bares, bin_lss, bin_leq, bin_gtr, bin_geq, bin_eql, bin_neq, bin_add, bin_sub, bin_mul, toV_int, toV_bool, toV_string, un_neg, un_not, bin_str_eql, bin_str_neq, bin_str_lss, bin_str_leq, bin_str_gtr, bin_str_geq, aget_aput, length_aput, aput_none, Nat.reduceEqDiff, Nat.reduceLT, Nat.reduceAdd, ↓reduceIte, reduceCtorEq, Bool.not_false, Bool.not_true, Bool.true_or, true_and, Option.bind_some, Option.map_some, List.nil_append, List.cons_append, resA, resA1, resVal, Option.getD_some, Nat.reduceLeDiff, bnd_some, yieldA_eq, yldOf_some, boolOf_bool, boolOf_undef, gt_none, List.getElem?_toArray, List.getElem?_cons_succ, List.getElem?_cons_zero, bq_true, bq_false, decide_true, decide_false, Option.toList_none, Option.toList_some, List.head?_cons, List.head?_nil, nb_cfg, not_false_eq_true, cv_some, pm_some, pm_none, plainA_v, plain_bool, plain_int, plain_str, Bool.false_eq_true, if_false, Int.reduceLT, Int.reduceLE, Int.reduceEq, Int.reduceAdd, Int.reduceSub, Int.reduceMul, Int.reduceNeg, Int.reduceNe, decide_not, Bool.and_true, Bool.true_and, Bool.and_false, Bool.false_and, Bool.or_false, Bool.false_or, Bool.or_true, if_true, Bool.not_not, decide_eq_true, decide_eq_false, fe_get, fe_put, fe_len, upd_app])
      refine ⟨by kernel_rfl, 1, rfl⟩
  · exfalso; omega
set_option maxHeartbeats 16000000 in
set_option maxRecDepth 100000 in
theorem pts_falseB (c : Int) (n : Nat) (hnl : n < 1114112) (hw : IntKind.i64.wrap ((IntKind.u64.wrap c).tmod 1114112) = (n : Int)) (kk : 65536 ≤ n) : PureOk (cfgP ur8) 5 [.v (.int .i64 c), .v (.bool false)] (.v (.bool true)) := by
  have hne : (1114112 : Int) ≠ 0 := by decide
  have hpl := pt_len false n
  have hl0 : (34 :: ptL false n).length ≤ 13 := by rw [List.length_cons]; omega
  have q1 : ∀ x y : Operand, binA (cfgP ur8) .add 9 x y (str [34]) (str (ptL false n)) = some (str (34 :: ptL false n)) := fun x y => bin_str_add (a := [34]) (b := ptL false n) (by rw [List.length_singleton]; omega)
  have q2 : ∀ x y : Operand, binA (cfgP ur8) .add 9 x y (str (34 :: ptL false n)) (str [34]) = some (str (34 :: ptL false n ++ [34])) := fun x y => bin_str_add (a := 34 :: ptL false n) (b := [34]) (by rw [List.length_singleton]; omega)
  have q3 := s1P_eq (n := 68719476736) (g := unqV) (l := 34 :: ptL false n ++ [34]) (by rw [List.length_append, List.length_singleton]; omega)
  have hval : (n < 55296 ∨ 57344 ≤ n) ∨ (55296 ≤ n ∧ n < 57344) := by omega
  have v1 : (n < 55296 ∨ 57344 ≤ n) → unqV (34 :: ptL false n ++ [34]) = .tup [str (encU n), .v (.int .i64 (((ptL false n).length + 2 : Nat) : Int)), .v (.int .i64 0)] := fun h => by unfold unqV; rw [pt_textF hnl h]; rfl
  have v2 : (55296 ≤ n ∧ n < 57344) → unqV (34 :: ptL false n ++ [34]) = .tup [str [], .v (.int .i64 0), .v (.int .i64 2)] := fun h => by unfold unqV; rw [pt_half h]; rfl
  have r1 : (n < 55296 ∨ 57344 ≤ n) → runesQ [str (encU n)] = some (.v (.int .i64 1)) := fun h => by
    have := encU_len n
    rw [runesQ_eq (by omega)]
    unfold runesZ
    rw [(encU_good (r := n) (by omega) h).1]
    rfl
  have de : decide (encU n = encU n) = true := by simp
  have av0 : (ptL false n = escL false n ∧ n < 65536) ∨ (65536 ≤ n ∧ ptL false n = escL false (55296 + (n - 65536) / 1024) ++ escL false (56320 + (n - 65536) % 1024)) := by
    unfold ptL
    by_cases k : n < 65536
    · rw [if_pos k]; exact .inl ⟨rfl, k⟩
    · rw [if_neg k]; exact .inr ⟨by omega, rfl⟩
  obtain ⟨S, hS⟩ : ∃ S, ptL false n = S := ⟨_, rfl⟩
  rw [hS] at hpl hl0 q1 q2 q3 v1 v2 av0
  obtain ⟨Q1, hQ1⟩ : ∃ Q, 34 :: S = Q := ⟨_, rfl⟩
  rw [hQ1] at q1 q2 q3 v1 v2 hl0
  obtain ⟨Q2, hQ2⟩ : ∃ Q, Q1 ++ [34] = Q := ⟨_, rfl⟩
  rw [hQ2] at q2 q3 v1 v2
  clear hS hQ1 hQ2
  have q3' : unqQ [str Q2] = some (unqV Q2) := q3
  clear q3
  rcases av0 with ⟨hp, k⟩ | ⟨k, hp⟩
  · exfalso; omega
  · skip
    obtain ⟨W, hW⟩ : ∃ W, n - 65536 = W := ⟨_, rfl⟩
    rw [hW] at hp
    have hWn : n = 65536 + W := by omega
    clear hW
    obtain ⟨X, hX⟩ : ∃ X, W / 1024 = X := ⟨_, rfl⟩
    obtain ⟨Y, hY⟩ : ∃ Y, W % 1024 = Y := ⟨_, rfl⟩
    rw [hX, hY] at hp
    obtain ⟨V, hV⟩ : ∃ V, 55296 + X = V := ⟨_, rfl⟩
    obtain ⟨U, hU⟩ : ∃ U, 56320 + Y = U := ⟨_, rfl⟩
    rw [hV, hU] at hp
    have hsub : ((n : Int) - 65536) = (W : Int) := by omega
    have hVi : (55296 : Int) + (X : Int) = (V : Int) := by omega
    have hUi : (56320 : Int) + (Y : Int) = (U : Int) := by omega
    have hV6 : V < 65536 := by omega
    have hU6 : U < 65536 := by omega
    obtain ⟨A1, A2, A3, A4, A5, aA1, aA2, aA3, aA4, aA5, eA⟩ := adds (prim := ur8) [] (by simp) (dg false (V / 4096)) (dg false (V / 256 % 16)) (dg false (V / 16 % 16)) (dg false (V % 16))
    obtain ⟨B1, B2, B3, B4, B5, aB1, aB2, aB3, aB4, aB5, eB⟩ := adds (prim := ur8) A5 (by rw [eA]; simp) (dg false (U / 4096)) (dg false (U / 256 % 16)) (dg false (U / 16 % 16)) (dg false (U % 16))
    have e6 : B5 = S := by rw [eB, eA, hp]; rfl
    subst e6
    have d0 : sliceA (cfgP ur8) 9 (str [48, 49, 50, 51, 52, 53, 54, 55, 56, 57, 97, 98, 99, 100, 101, 102]) (some (.v (.int .i64 ((V / 4096 : Nat) : Int)))) (some (.v (.int .i64 (((V / 4096 : Nat) : Int) + 1)))) none = some (str [dg false (V / 4096)]) := slDg (great := false) (by omega)
    have d1 : sliceA (cfgP ur8) 9 (str [48, 49, 50, 51, 52, 53, 54, 55, 56, 57, 97, 98, 99, 100, 101, 102]) (some (.v (.int .i64 ((V / 256 % 16 : Nat) : Int)))) (some (.v (.int .i64 (((V / 256 % 16 : Nat) : Int) + 1)))) none = some (str [dg false (V / 256 % 16)]) := slDg (great := false) (by omega)
    have d2 : sliceA (cfgP ur8) 9 (str [48, 49, 50, 51, 52, 53, 54, 55, 56, 57, 97, 98, 99, 100, 101, 102]) (some (.v (.int .i64 ((V / 16 % 16 : Nat) : Int)))) (some (.v (.int .i64 (((V / 16 % 16 : Nat) : Int) + 1)))) none = some (str [dg false (V / 16 % 16)]) := slDg (great := false) (by omega)
    have d3 : sliceA (cfgP ur8) 9 (str [48, 49, 50, 51, 52, 53, 54, 55, 56, 57, 97, 98, 99, 100, 101, 102]) (some (.v (.int .i64 ((V % 16 : Nat) : Int)))) (some (.v (.int .i64 (((V % 16 : Nat) : Int) + 1)))) none = some (str [dg false (V % 16)]) := slDg (great := false) (by omega)
    have f0 : sliceA (cfgP ur8) 9 (str [48, 49, 50, 51, 52, 53, 54, 55, 56, 57, 97, 98, 99, 100, 101, 102]) (some (.v (.int .i64 ((U / 4096 : Nat) : Int)))) (some (.v (.int .i64 (((U / 4096 : Nat) : Int) + 1)))) none = some (str [dg false (U / 4096)]) := slDg (great := false) (by omega)
    have f1 : sliceA (cfgP ur8) 9 (str [48, 49, 50, 51, 52, 53, 54, 55, 56, 57, 97, 98, 99, 100, 101, 102]) (some (.v (.int .i64 ((U / 256 % 16 : Nat) : Int)))) (some (.v (.int .i64 (((U / 256 % 16 : Nat) : Int) + 1)))) none = some (str [dg false (U / 256 % 16)]) := slDg (great := false) (by omega)
    have f2 : sliceA (cfgP ur8) 9 (str [48, 49, 50, 51, 52, 53, 54, 55, 56, 57, 97, 98, 99, 100, 101, 102]) (some (.v (.int .i64 ((U / 16 % 16 : Nat) : Int)))) (some (.v (.int .i64 (((U / 16 % 16 : Nat) : Int) + 1)))) none = some (str [dg false (U / 16 % 16)]) := slDg (great := false) (by omega)
    have f3 : sliceA (cfgP ur8) 9 (str [48, 49, 50, 51, 52, 53, 54, 55, 56, 57, 97, 98, 99, 100, 101, 102]) (some (.v (.int .i64 ((U % 16 : Nat) : Int)))) (some (.v (.int .i64 (((U % 16 : Nat) : Int) + 1)))) none = some (str [dg false (U % 16)]) := slDg (great := false) (by omega)
    rcases hval with hv | hv
    · have hc := v1 hv
      rw [hc] at q3'
      have hr := r1 hv
      have cr := conv_rs (prim := ur8) (n := n) (by omega) hv
      clear hv
      refine pure_of_wk (call := noCall) (fn := Tryd.f5) (rs := [.tmp 4]) ur8_ok noCall_ok (fns_cfg Tryd.func5 rfl) rfl rfl ?_
      intro env hl0 hargs
      have hn : env.length = 141 := hl0
      have h0 := hargs 0 _ rfl
      have h1 := hargs 1 _ rfl
      clear hargs hl0
      refine wkT_of ?_
      rw [fe_self hn]
      (try simp -dsimp (disch := omega) only [h0, h1, ct_prim ur8_18, awakeP, cvSU, cvUS, bin_rem hne, hw, bsI1, bsI2, iI1, iI2, iI3, lI1, lI2, cellsI, rp3, len_s, wrap64, br64_12, br64_8, br64_4, br64_10, ba64_15, ba64_1023, wst_app_nil, wst_app_cons, lapp0, lappS, lappN, wt_loop_unfold, q1, q2, q3', ct_prim ur8_19, ct_prim ur8_23, bare_s, d0, d1, d2, d3, f0, f1, f2, f3, aA1, aA2, aA3, aA4, aA5, aB1, aB2, aB3, aB4, aB5, hsub, hX, hY, hVi, hUi, hr, cr, cv3r, de, wt_seq, wt_block, wt_region, wt_cond, wt_skip, wt_ret, wt_exit, wst_nil, wst_cons, wst_guard, andThen_normal, andThen_ret, andThen_exit, leave_normal, leave_ret, leave_exit, EndsA_ret, EndsA_normal, ot_move, ot_assign, ot_pick, ot_binOp, ot_unOp, ot_convert, ot_field, ot_index, ot_indexAddr, ot_fieldAddr, ot_slice, ot_build, ot_buildSlice, ot_extract, ot_makeInterface, ot_makeFunc, ot_nilCheck, ot_call, ot_len, ot_append, ot_box, ot_load, ot_store, ot_makeSlice, ot_alloc, ot_sliceData, ot_unsafeString, ct_bool, ct_true, ct_false, bt_some, gt_some, aval_tmp, aval_int, aval_bool, aval_str, aval_slice, aval_nilPointer, aval_nilIface, aval_func, aval_global, avals, apairs, bareP, AV.bare, AV.bares, bin_lss, bin_leq, bin_gtr, bin_geq, bin_eql, bin_neq, bin_add, bin_sub, bin_mul, toV_int, toV_bool, toV_string, un_neg, un_not, bin_str_eql, bin_str_neq, bin_str_lss, bin_str_leq, bin_str_gtr, bin_str_geq, aget_aput, length_aput, aput_none, Nat.reduceEqDiff, Nat.reduceLT, Nat.reduceAdd, ↓reduceIte, reduceCtorEq, Bool.not_false, Bool.not_true, Bool.true_or, true_and, Option.bind_some, Option.map_some, List.nil_append, List.cons_append, resA, resA1, resVal, Option.getD_some, Nat.reduceLeDiff, bnd_some, yieldA_eq, yldOf_some, boolOf_bool, boolOf_undef, gt_none, List.getElem?_toArray, List.getElem?_cons_succ, List.getElem?_cons_zero, bq_true, bq_false, decide_true, decide_false, Option.toList_none, Option.toList_some, List.head?_cons, List.head?_nil, nb_cfg, not_false_eq_true, cv_some, pm_some, pm_none, plainA_v, plain_bool, plain_int, plain_str, Bool.false_eq_true, if_false, Int.reduceLT, Int.reduceLE, Int.reduceEq, Int.reduceAdd, Int.reduceSub, Int.reduceMul, Int.reduceNeg, Int.reduceNe, decide_not, Bool.and_true, Bool.true_and, Bool.and_false, Bool.false_and, Bool.or_false, Bool.false_or, Bool.or_true, if_true, Bool.not_not, decide_eq_true, decide_eq_false, fe_get, fe_put, fe_len, upd_app])
      refine ⟨by kernel_rfl, by kernel_rfl, 1, rfl⟩
    · exfalso; omega
set_option maxHeartbeats 16000000 in
set_option maxRecDepth 100000 in
theorem pts_trueS (c : Int) (n : Nat) (hnl : n < 1114112) (hw : IntKind.i64.wrap ((IntKind.u64.wrap c).tmod 1114112) = (n : Int)) (kk : n < 65536) : PureOk (cfgP ur8) 5 [.v (.int .i64 c), .v (.bool true)] (.v (.bool true)) := by
  have hne : (1114112 : Int) ≠ 0 := by decide
  have hpl := pt_len true n
  have hl0 : (34 :: ptL true n).length ≤ 13 := by rw [List.length_cons]; omega
  have q1 : ∀ x y : Operand, binA (cfgP ur8) .add 9 x y (str [34]) (str (ptL true n)) = some (str (34 :: ptL true n)) := fun x y => bin_str_add (a := [34]) (b := ptL true n) (by rw [List.length_singleton]; omega)
  have q2 : ∀ x y : Operand, binA (cfgP ur8) .add 9 x y (str (34 :: ptL true n)) (str [34]) = some (str (34 :: ptL true n ++ [34])) := fun x y => bin_str_add (a := 34 :: ptL true n) (b := [34]) (by rw [List.length_singleton]; omega)
  have q3 := s1P_eq (n := 68719476736) (g := unqV) (l := 34 :: ptL true n ++ [34]) (by rw [List.length_append, List.length_singleton]; omega)
  have hval : (n < 55296 ∨ 57344 ≤ n) ∨ (55296 ≤ n ∧ n < 57344) := by omega
  have v1 : (n < 55296 ∨ 57344 ≤ n) → unqV (34 :: ptL true n ++ [34]) = .tup [str (encU n), .v (.int .i64 (((ptL true n).length + 2 : Nat) : Int)), .v (.int .i64 0)] := fun h => by unfold unqV; rw [pt_textF hnl h]; rfl
  have v2 : (55296 ≤ n ∧ n < 57344) → unqV (34 :: ptL true n ++ [34]) = .tup [str [], .v (.int .i64 0), .v (.int .i64 2)] := fun h => by unfold unqV; rw [pt_half h]; rfl
  have r1 : (n < 55296 ∨ 57344 ≤ n) → runesQ [str (encU n)] = some (.v (.int .i64 1)) := fun h => by
    have := encU_len n
    rw [runesQ_eq (by omega)]
    unfold runesZ
    rw [(encU_good (r := n) (by omega) h).1]
    rfl
  have de : decide (encU n = encU n) = true := by simp
  have av0 : (ptL true n = escL true n ∧ n < 65536) ∨ (65536 ≤ n ∧ ptL true n = escL true (55296 + (n - 65536) / 1024) ++ escL true (56320 + (n - 65536) % 1024)) := by
    unfold ptL
    by_cases k : n < 65536
    · rw [if_pos k]; exact .inl ⟨rfl, k⟩
    · rw [if_neg k]; exact .inr ⟨by omega, rfl⟩
  obtain ⟨S, hS⟩ : ∃ S, ptL true n = S := ⟨_, rfl⟩
  rw [hS] at hpl hl0 q1 q2 q3 v1 v2 av0
  obtain ⟨Q1, hQ1⟩ : ∃ Q, 34 :: S = Q := ⟨_, rfl⟩
  rw [hQ1] at q1 q2 q3 v1 v2 hl0
  obtain ⟨Q2, hQ2⟩ : ∃ Q, Q1 ++ [34] = Q := ⟨_, rfl⟩
  rw [hQ2] at q2 q3 v1 v2
  clear hS hQ1 hQ2
  have q3' : unqQ [str Q2] = some (unqV Q2) := q3
  clear q3
  rcases av0 with ⟨hp, k⟩ | ⟨k, hp⟩
  · skip
    obtain ⟨A1, A2, A3, A4, A5, aA1, aA2, aA3, aA4, aA5, eA⟩ := adds (prim := ur8) [] (by simp) (dg true (n / 4096)) (dg true (n / 256 % 16)) (dg true (n / 16 % 16)) (dg true (n % 16))
    have e6 : A5 = S := by rw [eA, hp]; rfl
    subst e6
    have d0 : sliceA (cfgP ur8) 9 (str [48, 49, 50, 51, 52, 53, 54, 55, 56, 57, 65, 66, 67, 68, 69, 70]) (some (.v (.int .i64 ((n / 4096 : Nat) : Int)))) (some (.v (.int .i64 (((n / 4096 : Nat) : Int) + 1)))) none = some (str [dg true (n / 4096)]) := slDg (great := true) (by omega)
    have d1 : sliceA (cfgP ur8) 9 (str [48, 49, 50, 51, 52, 53, 54, 55, 56, 57, 65, 66, 67, 68, 69, 70]) (some (.v (.int .i64 ((n / 256 % 16 : Nat) : Int)))) (some (.v (.int .i64 (((n / 256 % 16 : Nat) : Int) + 1)))) none = some (str [dg true (n / 256 % 16)]) := slDg (great := true) (by omega)
    have d2 : sliceA (cfgP ur8) 9 (str [48, 49, 50, 51, 52, 53, 54, 55, 56, 57, 65, 66, 67, 68, 69, 70]) (some (.v (.int .i64 ((n / 16 % 16 : Nat) : Int)))) (some (.v (.int .i64 (((n / 16 % 16 : Nat) : Int) + 1)))) none = some (str [dg true (n / 16 % 16)]) := slDg (great := true) (by omega)
    have d3 : sliceA (cfgP ur8) 9 (str [48, 49, 50, 51, 52, 53, 54, 55, 56, 57, 65, 66, 67, 68, 69, 70]) (some (.v (.int .i64 ((n % 16 : Nat) : Int)))) (some (.v (.int .i64 (((n % 16 : Nat) : Int) + 1)))) none = some (str [dg true (n % 16)]) := slDg (great := true) (by omega)
    rcases hval with hv | hv
    · have hc := v1 hv
      rw [hc] at q3'
      have hr := r1 hv
      have cr := conv_rs (prim := ur8) (n := n) (by omega) hv
      rcases hv with hv | hv
      · skip
        refine pure_of_wk (call := noCall) (fn := Tryd.f5) (rs := [.tmp 4]) ur8_ok noCall_ok (fns_cfg Tryd.func5 rfl) rfl rfl ?_
        intro env hl0 hargs
        have hn : env.length = 141 := hl0
        have h0 := hargs 0 _ rfl
        have h1 := hargs 1 _ rfl
        clear hargs hl0
        refine wkT_of ?_
        rw [fe_self hn]
        (try simp -dsimp (disch := omega) only [h0, h1, ct_prim ur8_18, awakeP, cvSU, cvUS, bin_rem hne, hw, bsI1, bsI2, iI1, iI2, iI3, lI1, lI2, cellsI, rp3, len_s, wrap64, br64_12, br64_8, br64_4, br64_10, ba64_15, ba64_1023, wst_app_nil, wst_app_cons, lapp0, lappS, lappN, wt_loop_unfold, q1, q2, q3', ct_prim ur8_19, ct_prim ur8_23, bare_s, d0, d1, d2, d3, aA1, aA2, aA3, aA4, aA5, hr, cr, cv3r, de, wt_seq, wt_block, wt_region, wt_cond, wt_skip, wt_ret, wt_exit, wst_nil, wst_cons, wst_guard, andThen_normal, andThen_ret, andThen_exit, leave_normal, leave_ret, leave_exit, EndsA_ret, EndsA_normal, ot_move, ot_assign, ot_pick, ot_binOp, ot_unOp, ot_convert, ot_field, ot_index, ot_indexAddr, ot_fieldAddr, ot_slice, ot_build, ot_buildSlice, ot_extract, ot_makeInterface, ot_makeFunc, ot_nilCheck, ot_call, ot_len, ot_append, ot_box, ot_load, ot_store, ot_makeSlice, ot_alloc, ot_sliceData, ot_unsafeString, ct_bool, ct_true, ct_false, bt_some, gt_some, aval_tmp, aval_int, aval_bool, aval_str, aval_slice, aval_nilPointer, aval_nilIface, aval_func, aval_global, avals, apairs, bareP, AV.bare, AV.bares, bin_lss, bin_leq, bin_gtr, bin_geq, bin_eql, bin_neq, bin_add, bin_sub, bin_mul, toV_int, toV_bool, toV_string, un_neg, un_not, bin_str_eql, bin_str_neq, bin_str_lss, bin_str_leq, bin_str_gtr, bin_str_geq, aget_aput, length_aput, aput_none, Nat.reduceEqDiff, Nat.reduceLT, Nat.reduceAdd, ↓reduceIte, reduceCtorEq, Bool.not_false, Bool.not_true, Bool.true_or, true_and, Option.bind_some, Option.map_some, List.nil_append, List.cons_append, resA, resA1, resVal, Option.getD_some, Nat.reduceLeDiff, bnd_some, yieldA_eq, yldOf_some, boolOf_bool, boolOf_undef, gt_none, List.getElem?_toArray, List.getElem?_cons_succ, List.getElem?_cons_zero, bq_true, bq_false, decide_true, decide_false, Option.toList_none, Option.toList_some, List.head?_cons, List.head?_nil, nb_cfg, not_false_eq_true, cv_some, pm_some, pm_none, plainA_v, plain_bool, plain_int, plain_str, Bool.false_eq_true, if_false, Int.reduceLT, Int.reduceLE, Int.reduceEq, Int.reduceAdd, Int.reduceSub, Int.reduceMul, Int.reduceNeg, Int.reduceNe, decide_not, Bool.and_true, Bool.true_and, Bool.and_false, Bool.false_and, Bool.or_false, Bool.false_or, Bool.or_true, if_true, Bool.not_not, decide_eq_true, decide_eq_false, fe_get, fe_put, fe_len, upd_app])
        refine ⟨by kernel_rfl, 1, rfl⟩
      · skip
        refine pure_of_wk (call := noCall) (fn := Tryd.f5) (rs := [.tmp 4]) ur8_ok noCall_ok (fns_cfg Tryd.func5 rfl) rfl rfl ?_
        intro env hl0 hargs
        have hn : env.length = 141 := hl0
        have h0 := hargs 0 _ rfl
        have h1 := hargs 1 _ rfl
        clear hargs hl0
        refine wkT_of ?_
        rw [fe_self hn]
        (try simp -dsimp (disch := omega) only [h0, h1, ct_prim ur8_18, awakeP, cvSU, cvUS, bin_rem hne, hw, bsI1, bsI2, iI1, iI2, iI3, lI1, lI2, cellsI, rp3, len_s, wrap64, br64_12, br64_8, br64_4, br64_10, ba64_15, ba64_1023, wst_app_nil, wst_app_cons, lapp0, lappS, lappN, wt_loop_unfold, q1, q2, q3', ct_prim ur8_19, ct_prim ur8_23, bare_s, d0, d1, d2, d3, aA1, aA2, aA3, aA4, aA5, hr, cr, cv3r, de, wt_seq, wt_block, wt_region, wt_cond, wt_skip, wt_ret, wt_exit, wst_nil, wst_cons, wst_guard, andThen_normal, andThen_ret, andThen_exit, leave_normal, leave_ret, leave_exit, EndsA_ret, EndsA_normal, ot_move, ot_assign, ot_pick, ot_binOp, ot_unOp, ot_convert, ot_field, ot_index, ot_indexAddr, ot_fieldAddr, ot_slice, ot_build, ot_buildSlice, ot_extract, ot_makeInterface, ot_makeFunc, ot_nilCheck, ot_call, ot_len, ot_append, ot_box, ot_load, ot_store, ot_makeSlice, ot_alloc, ot_sliceData, ot_unsafeString, ct_bool, ct_true, ct_false, bt_some, gt_some, aval_tmp, aval_int, aval_bool, aval_str, aval_slice, aval_nilPointer, aval_nilIface, aval_func, aval_global, avals, apairs, bareP, AV.bare, AV.bares, bin_lss, bin_leq, bin_gtr, bin_geq, bin_eql, bin_neq, bin_add, bin_sub, bin_mul, toV_int, toV_bool, toV_string, un_neg, un_not, bin_str_eql, bin_str_neq, bin_str_lss, bin_str_leq, bin_str_gtr, bin_str_geq, aget_aput, length_aput, aput_none, Nat.reduceEqDiff, Nat.reduceLT, Nat.reduceAdd, ↓reduceIte, reduceCtorEq, Bool.not_false, Bool.not_true, Bool.true_or, true_and, Option.bind_some, Option.map_some, List.nil_append, List.cons_append, resA, resA1, resVal, Option.getD_some, Nat.reduceLeDiff, bnd_some, yieldA_eq, yldOf_some, boolOf_bool, boolOf_undef, gt_none, List.getElem?_toArray, List.getElem?_cons_succ, List.getElem?_cons_zero, bq_true, bq_false, decide_true, decide_false, Option.toList_none, Option.toList_some, List.head?_cons, List.head?_nil, nb_cfg, not_false_eq_true, cv_some, pm_some, pm_none, plainA_v, plain_bool, plain_int, plain_str, Bool.false_eq_true, if_false, Int.reduceLT, Int.reduceLE, Int.reduceEq, Int.reduceAdd, Int.reduceSub, Int.reduceMul, Int.reduceNeg, Int.reduceNe, decide_not, Bool.and_true, Bool.true_and, Bool.and_false, Bool.false_and, Bool.or_false, Bool.false_or, Bool.or_true, if_true, Bool.not_not, decide_eq_true, decide_eq_false, fe_get, fe_put, fe_len, upd_app])
        refine ⟨by kernel_rfl, 1, rfl⟩
    · obtain ⟨hv1, hv2⟩ := hv
      have hc := v2 ⟨hv1, hv2⟩
      rw [hc] at q3'
      refine pure_of_wk (call := noCall) (fn := Tryd.f5) (rs := [.tmp 4]) ur8_ok noCall_ok (fns_cfg Tryd.func5 rfl) rfl rfl ?_
      intro env hl0 hargs
      have hn : env.length = 141 := hl0
      have h0 := hargs 0 _ rfl
      have h1 := hargs 1 _ rfl
      clear hargs hl0
      refine wkT_of ?_
      rw [fe_self hn]
      (try simp -dsimp (disch := omega) only [h0, h1, ct_prim ur8_18, awakeP, cvSU, cvUS, bin_rem hne, hw, bsI1, bsI2, iI1, iI2, iI3, lI1, lI2, cellsI, rp3, len_s, wrap64, br64_12, br64_8, br64_4, br64_10, ba64_15, ba64_1023, wst_app_nil, wst_app_cons, lapp0, lappS, lappN, wt_loop_unfold, q1, q2, q3', ct_prim ur8_19, ct_prim ur8_23, bare_s, d0, d1, d2, d3, aA1, aA2, aA3, aA4, aA5, wt_seq, wt_block, wt_region, wt_cond, wt_skip, wt_ret, wt_exit, wst_nil, wst_cons, wst_guard, andThen_normal, andThen_ret, andThen_exit, leave_normal, leave_ret, leave_exit, EndsA_ret, EndsA_normal, ot_move, ot_assign, ot_pick, ot_binOp, ot_unOp, ot_convert, ot_field, ot_index, ot_indexAddr, ot_fieldAddr, ot_slice, ot_build, ot_buildSlice, ot_extract, ot_makeInterface, ot_makeFunc, ot_nilCheck, ot_call, ot_len, ot_append, ot_box, ot_load, ot_store, ot_makeSlice, ot_alloc, ot_sliceData, ot_unsafeString, ct_bool, ct_true, ct_false, bt_some, gt_some, aval_tmp, aval_int, aval_bool, aval_str, aval_slice, aval_nilPointer, aval_nilIface, aval_func, aval_global, avals, apairs, bareP, AV.bare, AV.bares, bin_lss, bin_leq, bin_gtr, bin_geq, bin_eql, bin_neq, bin_add, bin_sub, bin_mul, toV_int, toV_bool, toV_string, un_neg, un_not, bin_str_eql, bin_str_neq, bin_str_lss, bin_str_leq, bin_str_gtr, bin_str_geq, aget_aput, length_aput, aput_none, Nat.reduceEqDiff, Nat.reduceLT, Nat.reduceAdd, ↓reduceIte, reduceCtorEq, Bool.not_false, Bool.not_true, Bool.true_or, true_and, Option.bind_some, Option.map_some, List.nil_append, List.cons_append, resA, resA1, resVal, Option.getD_some, Nat.reduceLeDiff, bnd_some, yieldA_eq, yldOf_some, boolOf_bool, boolOf_undef, gt_none, List.getElem?_toArray, List.getElem?_cons_succ, List.getElem?_cons_zero, bq_true, bq_false, decide_true, decide_false, Option.toList_none, Option.toList_some, List.head?_cons, List.head?_nil, nb_cfg, not_false_eq_true, cv_some, pm_some, pm_none, plainA_v, plain_bool, plain_int, plain_str, Bool.false_eq_true, if_false, Int.reduceLT, Int.reduceLE, Int.reduceEq, Int.reduceAdd, Int.reduceSub, Int.reduceMul, Int.reduceNeg, Int.reduceNe, decide_not, Bool.and_true, Bool.true_and, Bool.and_false, Bool.false_and, Bool.or_false, Bool.false_or, Bool.or_true, if_true, Bool.not_not, decide_eq_true, decide_eq_false, fe_get, fe_put, fe_len, upd_app])
      refine ⟨by kernel_rfl, 1, rfl⟩
  · exfalso; omega
set_option maxHeartbeats 16000000 in
set_option maxRecDepth 100000 in
theorem pts_trueB (c : Int) (n : Nat) (hnl : n < 1114112) (hw : IntKind.i64.wrap ((IntKind.u64.wrap c).tmod 1114112) = (n : Int)) (kk : 65536 ≤ n) : PureOk (cfgP ur8) 5 [.v (.int .i64 c), .v (.bool true)] (.v (.bool true)) := by
  have hne : (1114112 : Int) ≠ 0 := by decide
  have hpl := pt_len true n
  have hl0 : (34 :: ptL true n).length ≤ 13 := by rw [List.length_cons]; omega
  have q1 : ∀ x y : Operand, binA (cfgP ur8) .add 9 x y (str [34]) (str (ptL true n)) = some (str (34 :: ptL true n)) := fun x y => bin_str_add (a := [34]) (b := ptL true n) (by rw [List.length_singleton]; omega)
  have q2 : ∀ x y : Operand, binA (cfgP ur8) .add 9 x y (str (34 :: ptL true n)) (str [34]) = some (str (34 :: ptL true n ++ [34])) := fun x y => bin_str_add (a := 34 :: ptL true n) (b := [34]) (by rw [List.length_singleton]; omega)
  have q3 := s1P_eq (n := 68719476736) (g := unqV) (l := 34 :: ptL true n ++ [34]) (by rw [List.length_append, List.length_singleton]; omega)
  have hval : (n < 55296 ∨ 57344 ≤ n) ∨ (55296 ≤ n ∧ n < 57344) := by omega
  have v1 : (n < 55296 ∨ 57344 ≤ n) → unqV (34 :: ptL true n ++ [34]) = .tup [str (encU n), .v (.int .i64 (((ptL true n).length + 2 : Nat) : Int)), .v (.int .i64 0)] := fun h => by unfold unqV; rw [pt_textF hnl h]; rfl
  have v2 : (55296 ≤ n ∧ n < 57344) → unqV (34 :: ptL true n ++ [34]) = .tup [str [], .v (.int .i64 0), .v (.int .i64 2)] := fun h => by unfold unqV; rw [pt_half h]; rfl
  have r1 : (n < 55296 ∨ 57344 ≤ n) → runesQ [str (encU n)] = some (.v (.int .i64 1)) := fun h => by
    have := encU_len n
    rw [runesQ_eq (by omega)]
    unfold runesZ
    rw [(encU_good (r := n) (by omega) h).1]
    rfl
  have de : decide (encU n = encU n) = true := by simp
  have av0 : (ptL true n = escL true n ∧ n < 65536) ∨ (65536 ≤ n ∧ ptL true n = escL true (55296 + (n - 65536) / 1024) ++ escL true (56320 + (n - 65536) % 1024)) := by
    unfold ptL
    by_cases k : n < 65536
    · rw [if_pos k]; exact .inl ⟨rfl, k⟩
    · rw [if_neg k]; exact .inr ⟨by omega, rfl⟩
  obtain ⟨S, hS⟩ : ∃ S, ptL true n = S := ⟨_, rfl⟩
  rw [hS] at hpl hl0 q1 q2 q3 v1 v2 av0
  obtain ⟨Q1, hQ1⟩ : ∃ Q, 34 :: S = Q := ⟨_, rfl⟩
  rw [hQ1] at q1 q2 q3 v1 v2 hl0
  obtain ⟨Q2, hQ2⟩ : ∃ Q, Q1 ++ [34] = Q := ⟨_, rfl⟩
  rw [hQ2] at q2 q3 v1 v2
  clear hS hQ1 hQ2
  have q3' : unqQ [str Q2] = some (unqV Q2) := q3
  clear q3
  rcases av0 with ⟨hp, k⟩ | ⟨k, hp⟩
  · exfalso; omega
  · skip
    obtain ⟨W, hW⟩ : ∃ W, n - 65536 = W := ⟨_, rfl⟩
    rw [hW] at hp
    have hWn : n = 65536 + W := by omega
    clear hW
    obtain ⟨X, hX⟩ : ∃ X, W / 1024 = X := ⟨_, rfl⟩
    obtain ⟨Y, hY⟩ : ∃ Y, W % 1024 = Y := ⟨_, rfl⟩
    rw [hX, hY] at hp
    obtain ⟨V, hV⟩ : ∃ V, 55296 + X = V := ⟨_, rfl⟩
    obtain ⟨U, hU⟩ : ∃ U, 56320 + Y = U := ⟨_, rfl⟩
    rw [hV, hU] at hp
    have hsub : ((n : Int) - 65536) = (W : Int) := by omega
    have hVi : (55296 : Int) + (X : Int) = (V : Int) := by omega
    have hUi : (56320 : Int) + (Y : Int) = (U : Int) := by omega
    have hV6 : V < 65536 := by omega
    have hU6 : U < 65536 := by omega
    obtain ⟨A1, A2, A3, A4, A5, aA1, aA2, aA3, aA4, aA5, eA⟩ := adds (prim := ur8) [] (by simp) (dg true (V / 4096)) (dg true (V / 256 % 16)) (dg true (V / 16 % 16)) (dg true (V % 16))
    obtain ⟨B1, B2, B3, B4, B5, aB1, aB2, aB3, aB4, aB5, eB⟩ := adds (prim := ur8) A5 (by rw [eA]; simp) (dg true (U / 4096)) (dg true (U / 256 % 16)) (dg true (U / 16 % 16)) (dg true (U % 16))
    have e6 : B5 = S := by rw [eB, eA, hp]; rfl
    subst e6
    have d0 : sliceA (cfgP ur8) 9 (str [48, 49, 50, 51, 52, 53, 54, 55, 56, 57, 65, 66, 67, 68, 69, 70]) (some (.v (.int .i64 ((V / 4096 : Nat) : Int)))) (some (.v (.int .i64 (((V / 4096 : Nat) : Int) + 1)))) none = some (str [dg true (V / 4096)]) := slDg (great := true) (by omega)
    have d1 : sliceA (cfgP ur8) 9 (str [48, 49, 50, 51, 52, 53, 54, 55, 56, 57, 65, 66, 67, 68, 69, 70]) (some (.v (.int .i64 ((V / 256 % 16 : Nat) : Int)))) (some (.v (.int .i64 (((V / 256 % 16 : Nat) : Int) + 1)))) none = some (str [dg true (V / 256 % 16)]) := slDg (great := true) (by omega)
    have d2 : sliceA (cfgP ur8) 9 (str [48, 49, 50, 51, 52, 53, 54, 55, 56, 57, 65, 66, 67, 68, 69, 70]) (some (.v (.int .i64 ((V / 16 % 16 : Nat) : Int)))) (some (.v (.int .i64 (((V / 16 % 16 : Nat) : Int) + 1)))) none = some (str [dg true (V / 16 % 16)]) := slDg (great := true) (by omega)
    have d3 : sliceA (cfgP ur8) 9 (str [48, 49, 50, 51, 52, 53, 54, 55, 56, 57, 65, 66, 67, 68, 69, 70]) (some (.v (.int .i64 ((V % 16 : Nat) : Int)))) (some (.v (.int .i64 (((V % 16 : Nat) : Int) + 1)))) none = some (str [dg true (V % 16)]) := slDg (great := true) (by omega)
    have f0 : sliceA (cfgP ur8) 9 (str [48, 49, 50, 51, 52, 53, 54, 55, 56, 57, 65, 66, 67, 68, 69, 70]) (some (.v (.int .i64 ((U / 4096 : Nat) : Int)))) (some (.v (.int .i64 (((U / 4096 : Nat) : Int) + 1)))) none = some (str [dg true (U / 4096)]) := slDg (great := true) (by omega)
    have f1 : sliceA (cfgP ur8) 9 (str [48, 49, 50, 51, 52, 53, 54, 55, 56, 57, 65, 66, 67, 68, 69, 70]) (some (.v (.int .i64 ((U / 256 % 16 : Nat) : Int)))) (some (.v (.int .i64 (((U / 256 % 16 : Nat) : Int) + 1)))) none = some (str [dg true (U / 256 % 16)]) := slDg (great := true) (by omega)
    have f2 : sliceA (cfgP ur8) 9 (str [48, 49, 50, 51, 52, 53, 54, 55, 56, 57, 65, 66, 67, 68, 69, 70]) (some (.v (.int .i64 ((U / 16 % 16 : Nat) : Int)))) (some (.v (.int .i64 (((U / 16 % 16 : Nat) : Int) + 1)))) none = some (str [dg true (U / 16 % 16)]) := slDg (great := true) (by omega)
    have f3 : sliceA (cfgP ur8) 9 (str [48, 49, 50, 51, 52, 53, 54, 55, 56, 57, 65, 66, 67, 68, 69, 70]) (some (.v (.int .i64 ((U % 16 : Nat) : Int)))) (some (.v (.int .i64 (((U % 16 : Nat) : Int) + 1)))) none = some (str [dg true (U % 16)]) := slDg (great := true) (by omega)
    rcases hval with hv | hv
    · have hc := v1 hv
      rw [hc] at q3'
      have hr := r1 hv
      have cr := conv_rs (prim := ur8) (n := n) (by omega) hv
      clear hv
      refine pure_of_wk (call := noCall) (fn := Tryd.f5) (rs := [.tmp 4]) ur8_ok noCall_ok (fns_cfg Tryd.func5 rfl) rfl rfl ?_
      intro env hl0 hargs
      have hn : env.length = 141 := hl0
      have h0 := hargs 0 _ rfl
      have h1 := hargs 1 _ rfl
      clear hargs hl0
      refine wkT_of ?_
      rw [fe_self hn]
      (try simp -dsimp (disch := omega) only [h0, h1, ct_prim ur8_18, awakeP, cvSU, cvUS, bin_rem hne, hw, bsI1, bsI2, iI1, iI2, iI3, lI1, lI2, cellsI, rp3, len_s, wrap64, br64_12, br64_8, br64_4, br64_10, ba64_15, ba64_1023, wst_app_nil, wst_app_cons, lapp0, lappS, lappN, wt_loop_unfold, q1, q2, q3', ct_prim ur8_19, ct_prim ur8_23, bare_s, d0, d1, d2, d3, f0, f1, f2, f3, aA1, aA2, aA3, aA4, aA5, aB1, aB2, aB3, aB4, aB5, hsub, hX, hY, hVi, hUi, hr, cr, cv3r, de, wt_seq, wt_block, wt_region, wt_cond, wt_skip, wt_ret, wt_exit, wst_nil, wst_cons, wst_guard, andThen_normal, andThen_ret, andThen_exit, leave_normal, leave_ret, leave_exit, EndsA_ret, EndsA_normal, ot_move, ot_assign, ot_pick, ot_binOp, ot_unOp, ot_convert, ot_field, ot_index, ot_indexAddr, ot_fieldAddr, ot_slice, ot_build, ot_buildSlice, ot_extract, ot_makeInterface, ot_makeFunc, ot_nilCheck, ot_call, ot_len, ot_append, ot_box, ot_load, ot_store, ot_makeSlice, ot_alloc, ot_sliceData, ot_unsafeString, ct_bool, ct_true, ct_false, bt_some, gt_some, aval_tmp, aval_int, aval_bool, aval_str, aval_slice, aval_nilPointer, aval_nilIface, aval_func, aval_global, avals, apairs, bareP, AV.bare, AV.bares, bin_lss, bin_leq, bin_gtr, bin_geq, bin_eql, bin_neq, bin_add, bin_sub, bin_mul, toV_int, toV_bool, toV_string, un_neg, un_not, bin_str_eql, bin_str_neq, bin_str_lss, bin_str_leq, bin_str_gtr, bin_str_geq, aget_aput, length_aput, aput_none, Nat.reduceEqDiff, Nat.reduceLT, Nat.reduceAdd, ↓reduceIte, reduceCtorEq, Bool.not_false, Bool.not_true, Bool.true_or, true_and, Option.bind_some, Option.map_some, List.nil_append, List.cons_append, resA, resA1, resVal, Option.getD_some, Nat.reduceLeDiff, bnd_some, yieldA_eq, yldOf_some, boolOf_bool, boolOf_undef, gt_none, List.getElem?_toArray, List.getElem?_cons_succ, List.getElem?_cons_zero, bq_true, bq_false, decide_true, decide_false, Option.toList_none, Option.toList_some, List.head?_cons, List.head?_nil, nb_cfg, not_false_eq_true, cv_some, pm_some, pm_none, plainA_v, plain_bool, plain_int, plain_str, Bool.false_eq_true, if_false, Int.reduceLT, Int.reduceLE, Int.reduceEq, Int.reduceAdd, Int.reduceSub, Int.reduceMul, Int.reduceNeg, Int.reduceNe, decide_not, Bool.and_true, Bool.true_and, Bool.and_false, Bool.false_and, Bool.or_false, Bool.false_or, Bool.or_true, if_true, Bool.not_not, decide_eq_true, decide_eq_false, fe_get, fe_put, fe_len, upd_app])
      refine ⟨by kernel_rfl, by kernel_rfl, 1, rfl⟩
    · exfalso; omega
set_option maxHeartbeats 16000000 in
set_option maxRecDepth 100000 in
theorem utfPoints_core (c : Int) (great : Bool) : PureOk (cfgP ur8) 5 [.v (.int .i64 c), .v (.bool great)] (.v (.bool true)) := by
  obtain ⟨n, hn⟩ : ∃ n : Nat, n = (c % 2 ^ 64).toNat % 1114112 := ⟨_, rfl⟩
  have hnl : n < 1114112 := by rw [hn]; exact Nat.mod_lt _ (by omega)
  have hw : IntKind.i64.wrap ((IntKind.u64.wrap c).tmod 1114112) = (n : Int) := by
    rw [u64W]
    have h0 : 0 ≤ c % 2 ^ 64 := Int.emod_nonneg _ (by decide)
    obtain ⟨z, hz⟩ := Int.eq_ofNat_of_zero_le h0
    rw [hz] at hn ⊢
    rw [show ((z : Int)).tmod 1114112 = ((z % 1114112 : Nat) : Int) from rfl]
    rw [Int.toNat_natCast] at hn
    rw [← hn]
    exact wrapN64 (by omega)
  clear hn
  cases great
  · rcases Nat.lt_or_ge n 65536 with k | k
    · exact pts_falseS c n hnl hw k
    · exact pts_falseB c n hnl hw k
  · rcases Nat.lt_or_ge n 65536 with k | k
    · exact pts_trueS c n hnl hw k
    · exact pts_trueB c n hnl hw k
end Go.Proofs.YtjejeijldllloaaDoor
