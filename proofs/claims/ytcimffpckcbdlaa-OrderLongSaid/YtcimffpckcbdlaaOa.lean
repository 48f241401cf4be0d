/- Contracts of functions, and plain facts about what they compute. -/
import Derived.Test.YtcimffpckcbdlaaAmD
import Derived.Test.YtcimffpckcbdlaaAmE
import Derived.Test.YtcimffpckcbdlaaProg
import Derived.KernelRfl
set_option linter.unusedSimpArgs false
set_option linter.unusedVariables false
/- A program's tables, and what its small types are; with methods behind interface values and rows that are written. -/
namespace Go.Proofs.Ytcimffpckcbdlaa
open Go.AM
/-- Variables that are written once they are there. -/
def rwL : List (Nat × Nat) := [(7, 8), (10, 6), (10, 11), (10, 13), (12, 7)]
/-- Functions that share the heap of who calls them. -/
def shL : List Nat := [16, 17, 18, 19, 20, 21, 24, 25, 26, 64, 65, 66, 67]
/-- The functions that are looked at. -/
def fnL : List Nat := [3, 4, 5, 6, 7, 8, 9, 10, 11, 12, 13, 14, 15, 16, 17, 18, 19, 20, 21, 22, 23, 24, 25, 26, 64, 65, 66, 67]
def gls : List (Nat × AV) := []
/-- Rows that are appended to and may be written. -/
def nbL : List (Nat × Nat) := [(10, 97), (12, 77), (12, 84), (20, 7), (24, 47), (67, 11)]
/-- Methods behind interface values. -/
def methL : List ((Nat × String) × Nat × Option Nat) := [((44, "Len"), 17, some 42), ((44, "Less"), 64, some 42), ((44, "Swap"), 65, some 42), ((44, "Push"), 67, none), ((44, "Pop"), 66, none)]
def methF (t : TypeId) (n : String) : Option (FuncId × Option TypeId) := (methL.find? fun p => p.1.1 == t && p.1.2 == n).map Prod.snd
noncomputable def cfgP (prim : FuncId → Option (List AV → Option AV)) : Cfg := cfgOf Try.prog (fun f => fnL.contains f) (glOf gls) (fun f => !(shL.contains f)) (fun f t => !(rwL.contains (f, t))) prim (fun f t => nbL.contains (f, t)) (meth := methF)
theorem ck3 : chkF Try.prog 3 = true := by kernel_rfl
theorem ck4 : chkF Try.prog 4 = true := by kernel_rfl
theorem ck5 : chkF Try.prog 5 = true := by kernel_rfl
theorem ck6 : chkF Try.prog 6 = true := by kernel_rfl
theorem ck7 : chkF Try.prog 7 = true := by kernel_rfl
theorem ck8 : chkF Try.prog 8 = true := by kernel_rfl
theorem ck9 : chkF Try.prog 9 = true := by kernel_rfl
theorem ck10 : chkF Try.prog 10 = true := by kernel_rfl
theorem ck11 : chkF Try.prog 11 = true := by kernel_rfl
theorem ck12 : chkF Try.prog 12 = true := by kernel_rfl
theorem ck13 : chkF Try.prog 13 = true := by kernel_rfl
theorem ck14 : chkF Try.prog 14 = true := by kernel_rfl
theorem ck15 : chkF Try.prog 15 = true := by kernel_rfl
theorem ck16 : chkF Try.prog 16 = true := by kernel_rfl
theorem ck17 : chkF Try.prog 17 = true := by kernel_rfl
theorem ck18 : chkF Try.prog 18 = true := by kernel_rfl
theorem ck19 : chkF Try.prog 19 = true := by kernel_rfl
theorem ck20 : chkF Try.prog 20 = true := by kernel_rfl
theorem ck21 : chkF Try.prog 21 = true := by kernel_rfl
theorem ck22 : chkF Try.prog 22 = true := by kernel_rfl
theorem ck23 : chkF Try.prog 23 = true := by kernel_rfl
theorem ck24 : chkF Try.prog 24 = true := by kernel_rfl
theorem ck25 : chkF Try.prog 25 = true := by kernel_rfl
theorem ck26 : chkF Try.prog 26 = true := by kernel_rfl
theorem ck64 : chkF Try.prog 64 = true := by kernel_rfl
theorem ck65 : chkF Try.prog 65 = true := by kernel_rfl
theorem ck66 : chkF Try.prog 66 = true := by kernel_rfl
theorem ck67 : chkF Try.prog 67 = true := by kernel_rfl
theorem fok : funcsOk Try.prog (fun f => fnL.contains f) = true := funcsOk_of (l := fnL) ⟨ck3, ck4, ck5, ck6, ck7, ck8, ck9, ck10, ck11, ck12, ck13, ck14, ck15, ck16, ck17, ck18, ck19, ck20, ck21, ck22, ck23, ck24, ck25, ck26, ck64, ck65, ck66, ck67, trivial⟩
theorem mixed : Try.prog.follows .mixedOrders = true := by kernel_rfl
theorem methAll : (methL.all fun p => methChk Try.prog p.1.1 p.1.2 p.2.1 p.2.2) = true := by kernel_rfl
theorem methF_ok : ∀ t n f v, methF t n = some (f, v) → MethOk Try.prog t n f v := by
  intro t n f v h
  unfold methF at h
  obtain ⟨p, hp, he⟩ := Option.map_eq_some_iff.1 h
  have h1 := List.all_eq_true.1 methAll p (List.mem_of_find?_eq_some hp)
  have h2 := List.find?_some hp
  simp only [Bool.and_eq_true, beq_iff_eq] at h2
  rw [he, h2.1, h2.2] at h1
  exact methChk_ok h1
theorem cfg_ok {prim : FuncId → Option (List AV → Option AV)} (hp : ∀ f p, prim f = some p → PrimOk (cfgP prim) f p) : (cfgP prim).Ok := cfgOf_ok mixed fok hp (hme := methF_ok)
theorem cokN : (cfgP fun _ => none).Ok := cfg_ok (fun _ _ h => by cases h)
section
variable {prim : FuncId → Option (List AV → Option AV)}
theorem nb_cfg {f : FuncId} {d : Option Tmp} (h : (nbL.any fun p => p.1 == f) = false) : nbOf (cfgP prim) f d = false := by
  cases d with
  | none => rfl
  | some t =>
    show nbL.contains (f, t) = false
    rw [List.any_eq_false] at h
    rw [List.contains_eq_any_beq, List.any_eq_false]
    intro p hp he
    exact h p hp (by rw [beq_iff_eq] at he; rw [← he]; exact beq_self_eq_true f)
theorem fns_cfg {f : FuncId} {fn : Func} (h : Try.prog.funcs[f]? = some fn) (hf : fnL.contains f = true) : (cfgP prim).fns f = some fn := by simp only [cfgP, cfgOf, hf, if_true, h]
theorem pureOk_prim {prim' : FuncId → Option (List AV → Option AV)} {f : FuncId} {xs : List AV} {r : AV} (h : PureOk (cfgP prim) f xs r) : PureOk (cfgP prim') f xs r := Go.AM.PureOk.other (C := cfgP prim) (C' := cfgP prim') rfl rfl rfl h
theorem prim_at {prim' : FuncId → Option (List AV → Option AV)} {f : FuncId} {fn : Func} {p : List AV → Option AV} (hf : Try.prog.funcs[f]? = some fn) (hn : (fn.name == "runtime.NumGoroutine") = false) (hb : fn.body.isSome = true) (h : ∀ xs r, p xs = some r → PureOk (cfgP prim) f xs r) : PrimOk (cfgP prim') f p :=
  .inl ⟨⟨fn, hf, hn, hb⟩, fun xs r hx => pureOk_prim (h xs r hx)⟩
end
end Go.Proofs.Ytcimffpckcbdlaa

/- Chapter 22: a heap of texts as a list: what down, up, Init, Pop, Push make of it; no program in sight. -/
namespace Go.Proofs.Ytcimffpckcbdlaa
open Go.AM
abbrev Tx := List UInt8
def gt (L : List Tx) (i : Nat) : Tx := L.getD i []
def swp (L : List Tx) (i j : Nat) : List Tx := (L.set i (gt L j)).set j (gt L i)
theorem swp_len {L : List Tx} {i j : Nat} : (swp L i j).length = L.length := by simp [swp]
theorem gt_set {L : List Tx} {i k : Nat} {x : Tx} (hi : i < L.length) : gt (L.set i x) k = if k = i then x else gt L k := by
  unfold gt
  rw [List.getD_eq_getElem?_getD, List.getElem?_set, List.getD_eq_getElem?_getD]
  by_cases h : i = k
  · subst h
    simp [hi]
  · have h' : ¬ k = i := fun e => h e.symm
    simp [h, h']
theorem gt_swp {L : List Tx} {i j k : Nat} (hi : i < L.length) (hj : j < L.length) : gt (swp L i j) k = if k = j then gt L i else if k = i then gt L j else gt L k := by
  unfold swp
  rw [gt_set (by simpa using hj), gt_set hi]
theorem gt_get {L : List Tx} {i : Nat} (h : i < L.length) : gt L i = L[i] := by
  unfold gt
  rw [List.getD_eq_getElem?_getD, List.getElem?_eq_getElem h]
  rfl
theorem swp_perm {L : List Tx} {i j : Nat} (hi : i < L.length) (hj : j < L.length) : (swp L i j).Perm L := by
  rw [List.perm_iff_count]
  intro a
  unfold swp
  rw [List.count_set (by simpa using hj), List.count_set hi, List.getElem_set, gt_get hi, gt_get hj]
  have h1 : 0 < L.count L[i] := List.count_pos_iff.2 (List.getElem_mem hi)
  have h2 : 0 < L.count L[j] := List.count_pos_iff.2 (List.getElem_mem hj)
  by_cases hij : i = j
  · subst hij
    simp only [if_true]
    by_cases ha : L[i] = a
    · subst ha
      simp
    · have : (L[i] == a) = false := by simpa using ha
      simp [this]
  · simp only [if_neg hij]
    by_cases ha : L[i] = a
    · subst ha
      by_cases hb : L[j] = L[i]
      · simp [hb] <;> omega
      · have : (L[j] == L[i]) = false := by simpa using hb
        simp [this] <;> omega
    · have ha' : (L[i] == a) = false := by simpa using ha
      by_cases hb : L[j] = a
      · subst hb
        simp [ha'] <;> omega
      · have : (L[j] == a) = false := by simpa using hb
        simp [this, ha']
def downL : Nat → Nat → Nat → List Tx → Nat × List Tx
  | 0, i, _, L => (i, L)
  | k + 1, i, n, L => if n ≤ 2 * i + 1 then (i, L) else
    let j := if 2 * i + 2 < n ∧ bl (gt L (2 * i + 2)) (gt L (2 * i + 1)) = true then 2 * i + 2 else 2 * i + 1
    if bl (gt L j) (gt L i) = true then downL k j n (swp L i j) else (i, L)
/-- From lo on no child is less than the one above it. -/
def HpF (L : List Tx) (n lo : Nat) : Prop := ∀ p c, lo ≤ p → (c = 2 * p + 1 ∨ c = 2 * p + 2) → c < n → bl (gt L c) (gt L p) = false
/-- .. but perhaps at i. -/
structure HpX (L : List Tx) (n lo i : Nat) : Prop where
  a : ∀ p c, lo ≤ p → p ≠ i → (c = 2 * p + 1 ∨ c = 2 * p + 2) → c < n → bl (gt L c) (gt L p) = false
  b : ∀ p c, lo ≤ p → (i = 2 * p + 1 ∨ i = 2 * p + 2) → (c = 2 * i + 1 ∨ c = 2 * i + 2) → c < n → bl (gt L c) (gt L p) = false
theorem nlt_trans {a b c : Tx} (h1 : bl b a = false) (h2 : bl c b = false) : bl c a = false := by
  cases h : bl c a with
  | false => rfl
  | true =>
    cases h3 : bl a b with
    | true => have := bl_trans h h3; rw [h2] at this; cases this
    | false =>
      have := bl_tri h3 h1
      subst this
      rw [h2] at h
      cases h
theorem downL_ok : ∀ (k i n lo : Nat) (L : List Tx), n ≤ L.length → n ≤ i + k → lo ≤ i → i < n ∨ n ≤ 2 * i + 1 → HpX L n lo i →
    HpF (downL k i n L).2 n lo ∧ (downL k i n L).2.length = L.length ∧ (∀ j, n ≤ j → gt (downL k i n L).2 j = gt L j) ∧ (downL k i n L).2.Perm L
  | 0, i, n, lo, L, hn, hk, hlo, hi, hX => by
    refine ⟨fun p c h1 h2 h3 => ?_, rfl, fun _ _ => rfl, List.Perm.refl _⟩
    simp only [downL]
    by_cases hp : p = i
    · omega
    · exact hX.a p c h1 hp h2 h3
  | k + 1, i, n, lo, L, hn, hk, hlo, hi, hX => by
    unfold downL
    by_cases h0 : n ≤ 2 * i + 1
    · rw [if_pos h0]
      refine ⟨fun p c h1 h2 h3 => ?_, rfl, fun _ _ => rfl, List.Perm.refl _⟩
      by_cases hp : p = i
      · omega
      · exact hX.a p c h1 hp h2 h3
    · rw [if_neg h0]
      simp only
      obtain ⟨j, hj⟩ : ∃ j, (if 2 * i + 2 < n ∧ bl (gt L (2 * i + 2)) (gt L (2 * i + 1)) = true then 2 * i + 2 else 2 * i + 1) = j := ⟨_, rfl⟩
      rw [hj]
      have hjc : j = 2 * i + 1 ∨ j = 2 * i + 2 := by
        rw [← hj]
        split <;> simp
      have hjn : j < n := by
        rw [← hj]
        split <;> omega
      have hjm : ∀ c, (c = 2 * i + 1 ∨ c = 2 * i + 2) → c < n → bl (gt L c) (gt L j) = false := by
        intro c hc hcn
        rw [← hj]
        split
        · rename_i h
          rcases hc with rfl | rfl
          · exact bl_asymm h.2
          · exact bl_irrefl _
        · rename_i h
          rcases hc with rfl | rfl
          · exact bl_irrefl _
          · cases hb : bl (gt L (2 * i + 2)) (gt L (2 * i + 1)) with
            | false => rfl
            | true => exact absurd ⟨hcn, hb⟩ h
      clear hj
      by_cases hs : bl (gt L j) (gt L i) = true
      · rw [if_pos hs]
        have hil : i < L.length := by omega
        have hjl : j < L.length := by omega
        have hsl : (swp L i j).length = L.length := swp_len
        have hX2 : HpX (swp L i j) n lo j := by
          refine ⟨?_, ?_⟩
          · intro p c h1 h2 h3 h4
            rw [gt_swp hil hjl, gt_swp hil hjl]
            by_cases hpi : p = i
            · subst hpi
              rw [if_neg h2, if_pos rfl]
              by_cases hcj : c = j
              · rw [if_pos hcj]
                exact bl_asymm hs
              · rw [if_neg hcj, if_neg (by omega)]
                exact hjm c h3 h4
            · rw [if_neg h2, if_neg hpi, if_neg (by omega)]
              by_cases hci : c = i
              · subst hci
                rw [if_pos rfl]
                exact hX.b p j h1 h3 hjc hjn
              · rw [if_neg hci]
                exact hX.a p c h1 hpi h3 h4
          · intro p c h1 h2 h3 h4
            have hpi : p = i := by omega
            subst hpi
            rw [gt_swp hil hjl, gt_swp hil hjl, if_neg (by omega), if_neg (by omega), if_neg (by omega), if_pos rfl]
            exact hX.a j c (by omega) (by omega) h3 h4
        obtain ⟨r1, r2, r3, r4⟩ := downL_ok k j n lo (swp L i j) (by omega) (by omega) (by omega) (by omega) hX2
        refine ⟨r1, r2.trans hsl, fun m hm => (r3 m hm).trans ?_, r4.trans (swp_perm hil hjl)⟩
        rw [gt_swp hil hjl, if_neg (by omega), if_neg (by omega)]
      · rw [if_neg hs]
        have hs' : bl (gt L j) (gt L i) = false := by simpa using hs
        refine ⟨fun p c h1 h2 h3 => ?_, rfl, fun _ _ => rfl, List.Perm.refl _⟩
        by_cases hp : p = i
        · subst hp
          exact nlt_trans hs' (hjm c h2 h3)
        · exact hX.a p c h1 hp h2 h3
/-- The top is the least. -/
theorem top_min {L : List Tx} {n : Nat} (h : HpF L n 0) : ∀ i, i < n → bl (gt L i) (gt L 0) = false := by
  intro i
  induction i using Nat.strongRecOn with
  | _ i ih =>
    intro hi
    cases i with
    | zero => exact bl_irrefl _
    | succ i =>
      have h1 := ih (i / 2) (by omega) (by omega)
      exact nlt_trans h1 (h (i / 2) (i + 1) (by omega) (by omega) hi)
/-- Init: from the middle down. -/
def initL : Nat → Nat → List Tx → List Tx
  | 0, _, L => L
  | k + 1, n, L => initL k n (downL n k n L).2
theorem initL_ok : ∀ (k n : Nat) (L : List Tx), n = L.length → k ≤ n → HpF L n k → HpF (initL k n L) n 0 ∧ (initL k n L).Perm L
  | 0, n, L, hn, hk, h => ⟨h, List.Perm.refl _⟩
  | k + 1, n, L, hn, hk, h => by
    obtain ⟨r1, r2, r3, r4⟩ := downL_ok n k n k L (by omega) (by omega) (Nat.le_refl _) (by omega) ⟨fun p c h1 h2 h3 h4 => h p c (by omega) h3 h4, fun p c h1 h2 h3 h4 => by omega⟩
    obtain ⟨q1, q2⟩ := initL_ok k n (downL n k n L).2 (by omega) (by omega) r1
    exact ⟨q1, q2.trans r4⟩
def popL (L : List Tx) : List Tx := (downL (L.length - 1) 0 (L.length - 1) (swp L 0 (L.length - 1))).2
theorem popL_ok {L : List Tx} (h0 : 0 < L.length) (h : HpF L L.length 0) : (popL L).length = L.length ∧ gt (popL L) (L.length - 1) = gt L 0 ∧ HpF (popL L) (L.length - 1) 0 ∧ (popL L).Perm L := by
  have hsl : (swp L 0 (L.length - 1)).length = L.length := swp_len
  have hl : L.length - 1 < L.length := by omega
  have hX2 : HpX (swp L 0 (L.length - 1)) (L.length - 1) 0 0 := by
    refine ⟨?_, ?_⟩
    · intro p c h1 h2 h3 h4
      rw [gt_swp h0 hl, gt_swp h0 hl, if_neg (by omega), if_neg (by omega), if_neg (by omega), if_neg (by omega)]
      exact h p c (by omega) h3 (by omega)
    · intro p c h1 h2 h3 h4
      omega
  obtain ⟨r1, r2, r3, r4⟩ := downL_ok (L.length - 1) 0 (L.length - 1) 0 (swp L 0 (L.length - 1)) (by omega) (by omega) (Nat.le_refl _) (by omega) hX2
  refine ⟨r2.trans hsl, (r3 _ (Nat.le_refl _)).trans ?_, r1, r4.trans (swp_perm h0 hl)⟩
  rw [gt_swp h0 hl, if_pos rfl]
def upL : Nat → Nat → List Tx → List Tx
  | 0, _, L => L
  | k + 1, j, L => if j = 0 then L else if bl (gt L j) (gt L ((j - 1) / 2)) = true then upL k ((j - 1) / 2) (swp L ((j - 1) / 2) j) else L
/-- A heap but perhaps at j, against the one above. -/
structure HpU (L : List Tx) (n j : Nat) : Prop where
  a : ∀ p c, c ≠ j → (c = 2 * p + 1 ∨ c = 2 * p + 2) → c < n → bl (gt L c) (gt L p) = false
  b : ∀ p c, (j = 2 * p + 1 ∨ j = 2 * p + 2) → (c = 2 * j + 1 ∨ c = 2 * j + 2) → c < n → bl (gt L c) (gt L p) = false
theorem upL_ok : ∀ (k j n : Nat) (L : List Tx), n = L.length → j < n → j ≤ k → HpU L n j → HpF (upL k j L) n 0 ∧ (upL k j L).Perm L
  | 0, j, n, L, hn, hj, hk, h => by
    refine ⟨fun p c _ h2 h3 => ?_, List.Perm.refl _⟩
    simp only [upL]
    exact h.a p c (by omega) h2 h3
  | k + 1, j, n, L, hn, hj, hk, h => by
    unfold upL
    by_cases h0 : j = 0
    · rw [if_pos h0]
      exact ⟨fun p c _ h2 h3 => h.a p c (by omega) h2 h3, List.Perm.refl _⟩
    · rw [if_neg h0]
      obtain ⟨i, hi⟩ : ∃ i, (j - 1) / 2 = i := ⟨_, rfl⟩
      rw [hi]
      by_cases hs : bl (gt L j) (gt L i) = true
      · rw [if_pos hs]
        have hil : i < L.length := by omega
        have hjl : j < L.length := by omega
        have hsl : (swp L i j).length = L.length := swp_len
        have sg := fun k => gt_swp (k := k) hil hjl
        have hX2 : HpU (swp L i j) n i := by
          refine ⟨?_, ?_⟩
          · intro p c h1 h2 h3
            rw [sg, sg]
            by_cases hcj : c = j
            · subst hcj
              have : p = i := by omega
              subst this
              rw [if_pos rfl, if_neg (by omega), if_pos rfl]
              exact bl_asymm hs
            · rw [if_neg hcj, if_neg h1]
              by_cases hpj : p = j
              · subst hpj
                rw [if_pos rfl]
                exact h.b i c (by omega) h2 h3
              · rw [if_neg hpj]
                by_cases hpi : p = i
                · subst hpi
                  rw [if_pos rfl]
                  exact nlt_trans (bl_asymm hs) (h.a p c hcj h2 h3)
                · rw [if_neg hpi]
                  exact h.a p c hcj h2 h3
          · intro p c h1 h2 h3
            rw [sg, sg]
            have hpi : p ≠ i := by omega
            have hpj : p ≠ j := by omega
            rw [if_neg hpj, if_neg hpi]
            have hti := h.a p i (by omega) h1 (by omega)
            by_cases hcj : c = j
            · rw [if_pos hcj]
              exact hti
            · rw [if_neg hcj, if_neg (by omega)]
              exact nlt_trans hti (h.a i c hcj h2 h3)
        obtain ⟨r1, r2⟩ := upL_ok k i n (swp L i j) (by omega) (by omega) (by omega) hX2
        exact ⟨r1, r2.trans (swp_perm hil hjl)⟩
      · rw [if_neg hs]
        have hs' : bl (gt L j) (gt L i) = false := by simpa using hs
        refine ⟨fun p c _ h2 h3 => ?_, List.Perm.refl _⟩
        by_cases hcj : c = j
        · subst hcj
          have : p = i := by omega
          subst this
          exact hs'
        · exact h.a p c hcj h2 h3
theorem downL_len : ∀ (k i n : Nat) (L : List Tx), (downL k i n L).2.length = L.length
  | 0, i, n, L => rfl
  | k + 1, i, n, L => by
    unfold downL
    split
    · rfl
    · simp only
      generalize (if 2 * i + 2 < n ∧ bl (gt L (2 * i + 2)) (gt L (2 * i + 1)) = true then 2 * i + 2 else 2 * i + 1) = j
      split
      · rw [downL_len k _ n _, swp_len]
      · rfl
theorem upL_len : ∀ (k j : Nat) (L : List Tx), (upL k j L).length = L.length
  | 0, j, L => rfl
  | k + 1, j, L => by
    unfold upL
    split
    · rfl
    · split
      · rw [upL_len k _ _, swp_len]
      · rfl
theorem initL_len : ∀ (k n : Nat) (L : List Tx), (initL k n L).length = L.length
  | 0, n, L => rfl
  | k + 1, n, L => by rw [initL, initL_len k n _, downL_len]
theorem popL_len {L : List Tx} : (popL L).length = L.length := by unfold popL; rw [downL_len, swp_len]
def pushL (L : List Tx) (x : Tx) : List Tx := upL L.length L.length (L ++ [x])
theorem gt_app {L : List Tx} {x : Tx} {i : Nat} (h : i < L.length) : gt (L ++ [x]) i = gt L i := by
  unfold gt
  rw [List.getD_eq_getElem?_getD, List.getD_eq_getElem?_getD, List.getElem?_append_left h]
theorem pushL_ok {L : List Tx} {x : Tx} (h : HpF L L.length 0) : HpF (pushL L x) (L.length + 1) 0 ∧ (pushL L x).Perm (L ++ [x]) := by
  unfold pushL
  refine upL_ok L.length L.length (L.length + 1) (L ++ [x]) (by simp) (by omega) (Nat.le_refl _) ⟨fun p c h1 h2 h3 => ?_, fun p c h1 h2 h3 => by omega⟩
  rw [gt_app (by omega), gt_app (by omega)]
  exact h p c (by omega) h2 (by omega)
theorem pushL_len {L : List Tx} {x : Tx} : (pushL L x).length = L.length + 1 := by unfold pushL; rw [upL_len]; simp
end Go.Proofs.Ytcimffpckcbdlaa

/- Chapter 22: the methods of 'ready': Len, Less, Swap, Pop, Push. -/
namespace Go.Proofs.Ytcimffpckcbdlaa
open Go.AM
noncomputable def nP : FuncId → Option (List AV → Option AV) := fun _ => none
theorem nP_ok : (cfgP nP).Ok := cokN
theorem bare_s (l : Tx) : AV.bare (str l) = some (str l) := rfl
section
variable {C : Cfg}
/-- A cell of a row is written. -/
theorem store_row {t : TypeId} {b g i : Nat} {x y : AV} {xs : List AV} {H : Hp} (hb : H.blks[b]? = some ⟨g, 1, xs⟩) (hx : x.cells = [x]) (hf : x.flat = true) (hc : C.csz t = some 1) (hy : xs[i]? = some y) (hyc : ∀ cs, y ≠ .agg cs) :
    storeA C t b g i 0 x H = some { H with blks := H.blks.set b ⟨g, 1, xs.set i x⟩ } := by
  have hs : setCells y 0 [x] = some x := by
    unfold setCells
    split
    · rename_i cs; exact absurd rfl (hyc cs)
    · rfl
  have h1 : blkAt H b g = some ⟨g, 1, xs⟩ := by simp only [blkAt, hb, if_true]
  simp only [storeA, h1, hy, hx, List.length_singleton, hc, List.all_cons, hf, List.all_nil, Bool.and_self, and_self, if_true, hs, Option.map_some]
theorem blk_row {b g : Nat} {xs : List AV} {H : Hp} {es : Nat} (hb : H.blks[b]? = some ⟨g, es, xs⟩) : blkAt H b g = some ⟨g, es, xs⟩ := by simp only [blkAt, hb, if_true]
end
section
variable {prim : FuncId → Option (List AV → Option AV)}
theorem r_len {b g n : Nat} : lenA (cfgP prim) #[42] [.ex b g 1 0 n] = some (.v (.int .i64 n)) := len_ex (e := 9) (by kernel_rfl)
theorem r_ix {b g n i : Nat} {k : IntKind} (h : i < n) : indexAddrA (cfgP prim) 42 (.ex b g 1 0 n) (.v (.int k (i : Int))) = some (.ptr b g i 0) := by
  have h0 : (0 : Int) ≤ i := by omega
  have hu : (cfgP prim).und 42 = some (.slice 9) := by kernel_rfl
  have hc : (cfgP prim).csz 9 = some 1 := by kernel_rfl
  simp only [indexAddrA, idx, h0, if_true, hu, hc, Int.toNat_natCast, h, and_self, Nat.zero_add]
theorem p9 {cs : List AV} {j : Nat} : partA (cfgP prim) 9 cs j = cs[j]? := by kernel_rfl
theorem p42 {cs : List AV} {j : Nat} : partA (cfgP prim) 42 cs j = cs[j]? := by kernel_rfl
theorem u9 : (cfgP prim).und 9 = some .string := by kernel_rfl
theorem c9 : (cfgP prim).csz 9 = some 1 := by kernel_rfl
theorem c42 : (cfgP prim).csz 42 = some 1 := by kernel_rfl
end
/-- What an interface value of the heap's variable is. -/
def rIf (b0 : Nat) : AV := .iface 44 (.ptr b0 0 0 0)
theorem list_set_self {α : Type} {l : List α} {b : Nat} {k : α} (h : l[b]? = some k) : l.set b k = l := by
  apply List.ext_getElem?
  intro i
  rw [List.getElem?_set]
  split
  · rename_i e
    subst e
    rw [if_pos (List.getElem?_eq_some_iff.1 h).1, h]
  · rfl
/-- The heap's variable lies in block b0, its row in block b. -/
structure Rd (h : Hp) (b0 b g : Nat) (L : List Tx) (r : List AV) : Prop where
  v : h.blks[b0]? = some ⟨0, 1, [.ex b g 1 0 L.length]⟩
  w : h.blks[b]? = some ⟨g, 1, L.map str ++ r⟩
  n : b0 ≠ b
  l : L.length < 1099511627776
/-- .. turned. -/
def rS (h : Hp) (b0 b g n : Nat) (L : List Tx) (r : List AV) : Hp := { h with blks := (h.blks.set b ⟨g, 1, L.map str ++ r⟩).set b0 ⟨0, 1, [.ex b g 1 0 n]⟩ }
theorem Rd.lt {h : Hp} {b0 b g : Nat} {L : List Tx} {r : List AV} (R : Rd h b0 b g L r) : b0 < h.blks.length ∧ b < h.blks.length := ⟨(List.getElem?_eq_some_iff.1 R.v).1, (List.getElem?_eq_some_iff.1 R.w).1⟩
theorem rS_rd {h : Hp} {b0 b g g' : Nat} {L L' : List Tx} {r r' : List AV} (R : Rd h b0 b g L r) (hl : L'.length < 1099511627776) : Rd (rS h b0 b g' L'.length L' r') b0 b g' L' r' := by
  obtain ⟨h1, h2⟩ := R.lt
  have hn := R.n
  refine ⟨?_, ?_, hn, hl⟩
  · show ((h.blks.set b _).set b0 _)[b0]? = _
    rw [List.getElem?_set_self (by simpa using h1)]
  · show ((h.blks.set b _).set b0 _)[b]? = _
    rw [List.getElem?_set_ne hn, List.getElem?_set_self h2]
theorem rS_rS {h : Hp} {b0 b g g' n n' : Nat} {L L' : List Tx} {r r' : List AV} (hn : b0 ≠ b) : rS (rS h b0 b g n L r) b0 b g' n' L' r' = rS h b0 b g' n' L' r' := by
  unfold rS
  simp only
  congr 1
  apply List.ext_getElem?
  intro i
  simp only [List.getElem?_set, List.length_set]
  by_cases h1 : b0 = i
  · simp [h1]
  · by_cases h2 : b = i
    · simp [h1, h2]
    · simp [h1, h2]
theorem rS_self {h : Hp} {b0 b g : Nat} {L : List Tx} {r : List AV} (R : Rd h b0 b g L r) : rS h b0 b g L.length L r = h := by
  unfold rS
  obtain ⟨h1, h2⟩ := R.lt
  have : (h.blks.set b ⟨g, 1, L.map str ++ r⟩).set b0 ⟨0, 1, [.ex b g 1 0 L.length]⟩ = h.blks := by
    apply List.ext_getElem?
    intro i
    rw [List.getElem?_set, List.getElem?_set]
    by_cases h3 : b0 = i
    · subst h3
      rw [if_pos rfl, if_pos (by simpa using h1), R.v]
    · rw [if_neg h3]
      by_cases h4 : b = i
      · subst h4
        rw [if_pos rfl, if_pos h2, R.w]
      · rw [if_neg h4]
  rw [this]
theorem strs_inj : ∀ {a b : List Tx} {r s : List AV}, a.length = b.length → a.map str ++ r = b.map str ++ s → a = b ∧ r = s
  | [], [], r, s, _, h => ⟨rfl, h⟩
  | [], _ :: _, _, _, h, _ => by cases h
  | _ :: _, [], _, _, h, _ => by cases h
  | x :: a, y :: b, r, s, hl, h => by
    injection h with h1 h2
    obtain ⟨e1, e2⟩ := strs_inj (by simpa using hl) h2
    exact ⟨by rw [str_inj h1, e1], e2⟩
theorem Rd.inj {h : Hp} {b0 b g b' g' : Nat} {L L' : List Tx} {r r' : List AV} (R : Rd h b0 b g L r) (R' : Rd h b0 b' g' L' r') : b = b' ∧ g = g' ∧ L = L' ∧ r = r' := by
  have h1 := R.v
  rw [R'.v] at h1
  injection h1 with h1
  injection h1 with _ _ h1
  injection h1 with h1 _
  injection h1 with e1 e2 _ _ e3
  subst e1 e2
  have h2 := R.w
  rw [R'.w] at h2
  injection h2 with h2
  injection h2 with _ _ h2
  obtain ⟨e4, e5⟩ := strs_inj e3 h2
  exact ⟨rfl, rfl, e4.symm, e5.symm⟩
theorem gt_at {L : List Tx} {r : List AV} {i : Nat} (h : i < L.length) : (L.map str ++ r)[i]? = some (str (gt L i)) := by
  rw [List.getElem?_append_left (by simpa using h), List.getElem?_map, List.getElem?_eq_getElem h, gt_get h]
  rfl
theorem str_set {L : List Tx} {r : List AV} {i : Nat} {x : Tx} (h : i < L.length) : (L.map str ++ r).set i (str x) = (L.set i x).map str ++ r := by
  rw [List.set_append_left _ _ (by simpa using h), List.map_set]
theorem str_noagg {x : Tx} : ∀ cs, str x ≠ .agg cs := by
  intro cs h
  cases h
/-! ### Len, Less -/
theorem len_ok (H : Hp) (b g n : Nat) : CallOk (cfgP nP) 17 [.ex b g 1 0 n] H (.v (.int .i64 n)) H := by
  refine call_of_wk (call := noCall) (fn := Try.f17) (rs := [.tmp 2]) nP_ok noCall_ok (fns_cfg Try.func17 rfl) rfl rfl ?_
  intro env hl0 hargs
  have hn : env.length = 5 := hl0
  have h0 := hargs 0 _ rfl
  clear hargs hl0
  refine wkT_of ?_
  rw [fe_self hn]
  (try simp -dsimp (disch := omega) only [h0, r_len, AS, avals, apairs, bareP, AV.bare, AV.bares, Nat.reduceEqDiff, Nat.reduceLT, Nat.reduceAdd, ↓reduceIte, reduceCtorEq, resA, resA1, resVal, Nat.reduceLeDiff, nb_cfg, Nat.reduceBEq, AX, Int.reduceLT, Int.reduceLE, Int.reduceEq, Int.reduceAdd, Int.reduceSub, Int.reduceMul, Int.reduceNeg, Int.reduceNe])
structure Ls where
  h : Hp
  b : Nat
  g : Nat
  L : List Tx
  r : List AV
  i : Nat
  j : Nat
def Ls.ok (p : Ls) : Prop := p.h.blks[p.b]? = some ⟨p.g, 1, p.L.map str ++ p.r⟩ ∧ p.i < p.L.length ∧ p.j < p.L.length
def Ls.a (p : Ls) : List AV := [.ex p.b p.g 1 0 p.L.length, .v (.int .i64 (p.i : Int)), .v (.int .i64 (p.j : Int))]
theorem less_ok (p : Ls) (hp : p.ok) : CallOk (cfgP nP) 64 p.a p.h (.v (.bool (bl (gt p.L p.i) (gt p.L p.j)))) p.h := by
  obtain ⟨h, b, g, L, r, i, j⟩ := p
  obtain ⟨hb, hi, hj⟩ := hp
  simp only at hb hi hj
  unfold Ls.a
  have k := blk_row hb
  have e1 := gt_at (r := r) hi
  have e2 := gt_at (r := r) hj
  have x1 := r_ix (prim := nP) (b := b) (g := g) (k := .i64) hi
  have x2 := r_ix (prim := nP) (b := b) (g := g) (k := .i64) hj
  refine call_of_wk (call := noCall) (fn := Try.f64) (rs := [.tmp 6]) nP_ok noCall_ok (fns_cfg Try.func64 rfl) rfl rfl ?_
  intro env hl0 hargs
  have hn : env.length = 16 := hl0
  have h0 := hargs 0 _ rfl
  have h1 := hargs 1 _ rfl
  have h2 := hargs 2 _ rfl
  clear hargs hl0
  refine wkT_of ?_
  rw [fe_self hn]
  (try simp -dsimp (disch := omega) only [h0, h1, h2, x1, x2, k, e1, e2, p9, show ∀ x, (str x).cells = [str x] from fun _ => rfl, AS, avals, apairs, bareP, AV.bare, AV.bares, Nat.reduceEqDiff, Nat.reduceLT, Nat.reduceAdd, ↓reduceIte, reduceCtorEq, resA, resA1, resVal, Nat.reduceLeDiff, nb_cfg, Nat.reduceBEq, AX, Int.reduceLT, Int.reduceLE, Int.reduceEq, Int.reduceAdd, Int.reduceSub, Int.reduceMul, Int.reduceNeg, Int.reduceNe])
  exact ⟨by kernel_rfl, trivial⟩
theorem swap_ok (p : Ls) (hp : p.ok) : CallOk (cfgP nP) 65 p.a p.h (.tup []) { p.h with blks := p.h.blks.set p.b ⟨p.g, 1, (swp p.L p.i p.j).map str ++ p.r⟩ } := by
  obtain ⟨h, b, g, L, r, i, j⟩ := p
  obtain ⟨hb, hi, hj⟩ := hp
  simp only at hb hi hj
  unfold Ls.a
  have k := blk_row hb
  have e1 := gt_at (r := r) hi
  have e2 := gt_at (r := r) hj
  have x1 := r_ix (prim := nP) (b := b) (g := g) (k := .i64) hi
  have x2 := r_ix (prim := nP) (b := b) (g := g) (k := .i64) hj
  have hbl := (List.getElem?_eq_some_iff.1 hb).1
  have s1 := store_row (C := cfgP nP) (t := 9) (x := str (gt L j)) hb rfl rfl c9 e1 str_noagg
  rw [str_set hi] at s1
  have hb2 : (h.blks.set b ⟨g, 1, (L.set i (gt L j)).map str ++ r⟩)[b]? = some ⟨g, 1, (L.set i (gt L j)).map str ++ r⟩ := List.getElem?_set_self hbl
  have hj2 : j < (L.set i (gt L j)).length := by simpa using hj
  have s2 := store_row (C := cfgP nP) (t := 9) (x := str (gt L i)) (H := { h with blks := h.blks.set b ⟨g, 1, (L.set i (gt L j)).map str ++ r⟩ }) hb2 rfl rfl c9 (gt_at (r := r) hj2) str_noagg
  rw [str_set hj2] at s2
  simp only [List.set_set] at s2
  refine call_of_wk (call := noCall) (fn := Try.f65) (rs := []) nP_ok noCall_ok (fns_cfg Try.func65 rfl) rfl rfl ?_
  intro env hl0 hargs
  have hn : env.length = 20 := hl0
  have h0 := hargs 0 _ rfl
  have h1 := hargs 1 _ rfl
  have h2 := hargs 2 _ rfl
  clear hargs hl0
  refine wkT_of ?_
  rw [fe_self hn]
  (try simp -dsimp (disch := omega) only [h0, h1, h2, x1, x2, k, e1, e2, p9, show ∀ x, (str x).cells = [str x] from fun _ => rfl, s1, s2, AS, avals, apairs, bareP, AV.bare, AV.bares, Nat.reduceEqDiff, Nat.reduceLT, Nat.reduceAdd, ↓reduceIte, reduceCtorEq, resA, resA1, resVal, Nat.reduceLeDiff, nb_cfg, Nat.reduceBEq, AX, Int.reduceLT, Int.reduceLE, Int.reduceEq, Int.reduceAdd, Int.reduceSub, Int.reduceMul, Int.reduceNeg, Int.reduceNe])
  exact ⟨by kernel_rfl, rfl⟩
/-! ### Pop, Push -/
section
variable {prim : FuncId → Option (List AV → Option AV)}
theorem r_sl {b g n m : Nat} (h : m ≤ n) : sliceA (cfgP prim) 42 (.ex b g 1 0 n) none (some (.v (.int .i64 (m : Int)))) none = some (.ex b g 1 0 m) := by
  have he : elemT (cfgP prim) 42 = some 9 := by kernel_rfl
  have h0 : (0 : Int) ≤ m := by omega
  have h1 : ¬ (0 = m ∧ 0 ≠ 0) := by simp
  simp only [sliceA, he, Option.bind_some, c9, optIdx, idx, h0, if_true, Int.toNat_natCast, Nat.zero_le, h, and_self, h1, if_false, Nat.sub_zero, Nat.zero_add, ne_eq, not_true, and_false]
theorem r_apx {b g : Nat} {L : List Tx} {r : List AV} {x : Tx} {H : Hp} (hb : H.blks[b]? = some ⟨g, 1, L.map str ++ r⟩) (hl : L.length < 1099511627776) :
    appXA (cfgP prim) #[42, 42] [.ex b g 1 0 L.length, .cl true [str x]] H = some (.ex b (nextG g) 1 0 (L.length + 1), { H with blks := H.blks.set b ⟨nextG g, 1, (L ++ [x]).map str⟩ }) := by
  have h0 : ((#[42, 42] : Array TypeId)[0]?).bind (elemT (cfgP prim)) = some 9 := by kernel_rfl
  have h1 : ((#[42, 42] : Array TypeId)[1]?).bind (cfgP prim).und = some (.slice 9) := by kernel_rfl
  have hz : zeroA (cfgP prim) 9 = some (str []) := by kernel_rfl
  have hby : (cfgP prim).byt 9 = some 16 := by kernel_rfl
  have hx : (str x).cells.length = 0 + 1 := rfl
  have hr1 : roomOk (cfgP prim) 9 [str x].length = true := by simp only [roomOk, hby]; rfl
  have hr2 : roomOk (cfgP prim) 9 (L.length + 1) = true := by simp only [roomOk, hby, Bool.and_eq_true, decide_eq_true_eq]; omega
  have hzl : (str []).cells.length = 1 := rfl
  simp only [appXA, h0, h1, hz, c9, hzl, if_true, appendX, elems, hx, hr1, and_self, blk_row hb, Nat.zero_add]
  by_cases hr : r = []
  · subst hr
    have e1 : (L.map str ++ []).length = L.length := by simp
    simp only [List.length_map, hr2, and_self, if_true, List.length_singleton, List.map_append, List.append_nil, List.map_cons, List.map_nil]
  · have e1 : ¬ (L.map str ++ r).length = L.length := by
      have := List.length_pos_iff.2 hr
      simp
      exact hr
    have e2 : L.length < (L.map str ++ r).length := by
      have := List.length_pos_iff.2 hr
      simp
      exact this
    have e3 : (L.map str ++ r).take L.length = L.map str := by
      rw [List.take_append_of_le_length (by simp), List.take_of_length_le (by simp)]
    simp only [e1, e2, e3, hr2, false_and, and_false, and_self, if_true, if_false, List.length_singleton, List.map_append, List.map_cons, List.map_nil]
theorem r_bs {x : Tx} : buildSliceA (cfgP prim) 42 1 [(0, str x)] = some (.cl true [str x]) := by kernel_rfl
end
theorem gt_last {A : List Tx} {x : Tx} : gt (A ++ [x]) A.length = x := by
  unfold gt
  simp
theorem pop_ok (h : Hp) (b0 b g : Nat) (A : List Tx) (x : Tx) (r : List AV) (R : Rd h b0 b g (A ++ [x]) r) : CallOk (cfgP nP) 66 [.ptr b0 0 0 0] h (.iface 9 (str x)) (rS h b0 b g A.length A (str x :: r)) := by
  have hv := R.v
  have hw := R.w
  have hl := R.l
  have hn : (A ++ [x]).length = A.length + 1 := by simp
  rw [hn] at hv hl
  have k0 := blk_row hv
  have k1 := blk_row hw
  have e1 : ((A ++ [x]).map str ++ r)[A.length]? = some (str x) := by rw [gt_at (by omega), gt_last]
  have x1 := r_ix (prim := nP) (b := b) (g := g) (k := .i64) (n := A.length + 1) (i := A.length) (by omega)
  have e2 : ((A.length + 1 : Nat) : Int) - 1 = (A.length : Int) := by omega
  have s1 := store_row (C := cfgP nP) (t := 42) (i := 0) (x := .ex b g 1 0 A.length) hv rfl rfl c42 rfl (fun cs h => by cases h)
  have sl := r_sl (prim := nP) (b := b) (g := g) (n := A.length + 1) (m := A.length) (by omega)
  have fin : { h with blks := h.blks.set b0 ⟨0, 1, [AV.ex b g 1 0 (A.length + 1)].set 0 (.ex b g 1 0 A.length)⟩ } = rS h b0 b g A.length A (str x :: r) := by
    unfold rS
    have : h.blks.set b ⟨g, 1, A.map str ++ str x :: r⟩ = h.blks := by
      have : A.map str ++ str x :: r = (A ++ [x]).map str ++ r := by simp
      rw [this]
      exact list_set_self hw
    rw [this]
    rfl
  rw [← fin]
  refine call_of_wk (call := noCall) (fn := Try.f66) (rs := [.tmp 2]) nP_ok noCall_ok (fns_cfg Try.func66 rfl) rfl rfl ?_
  intro env hl0 hargs
  have hn : env.length = 25 := hl0
  have h0 := hargs 0 _ rfl
  clear hargs hl0
  refine wkT_of ?_
  rw [fe_self hn]
  (try simp -dsimp (disch := omega) only [h0, r_len, x1, k0, k1, e1, e2, p9, p42, wrap64, sl, s1, u9, List.getElem?_cons_zero, show ∀ x, (str x).cells = [str x] from fun _ => rfl, show ∀ b g e o n, (AV.ex b g e o n).cells = [.ex b g e o n] from fun _ _ _ _ _ => rfl, AS, avals, apairs, bareP, AV.bare, AV.bares, Nat.reduceEqDiff, Nat.reduceLT, Nat.reduceAdd, ↓reduceIte, reduceCtorEq, resA, resA1, resVal, Nat.reduceLeDiff, nb_cfg, Nat.reduceBEq, AX, Int.reduceLT, Int.reduceLE, Int.reduceEq, Int.reduceAdd, Int.reduceSub, Int.reduceMul, Int.reduceNeg, Int.reduceNe])
theorem push_ok (h : Hp) (b0 b g : Nat) (L : List Tx) (x : Tx) (r : List AV) (R : Rd h b0 b g L r) : CallOk (cfgP nP) 67 [.ptr b0 0 0 0, .iface 9 (str x)] h (.tup []) (rS h b0 b (nextG g) (L.length + 1) (L ++ [x]) []) := by
  have hv := R.v
  have hw := R.w
  have hl := R.l
  have k0 := blk_row hv
  have ap := r_apx (prim := nP) (x := x) hw hl
  have hv2 : (h.blks.set b ⟨nextG g, 1, (L ++ [x]).map str⟩)[b0]? = some ⟨0, 1, [.ex b g 1 0 L.length]⟩ := by rw [List.getElem?_set_ne (fun e => R.n e.symm), hv]
  have s1 := store_row (C := cfgP nP) (t := 42) (i := 0) (x := .ex b (nextG g) 1 0 (L.length + 1)) (H := { h with blks := h.blks.set b ⟨nextG g, 1, (L ++ [x]).map str⟩ }) hv2 rfl rfl c42 rfl (fun cs h => by cases h)
  have ty : tyaA (cfgP nP) 9 false (.iface 9 (str x)) = some (str x) := tya_at (d := .string) (by kernel_rfl) (fun i h => by cases h)
  have nb : nbOf (cfgP nP) 67 (some 11) = true := by rfl
  unfold rS
  rw [List.append_nil]
  refine call_of_wk (call := noCall) (fn := Try.f67) (rs := []) nP_ok noCall_ok (fns_cfg Try.func67 rfl) rfl rfl ?_
  intro env hl0 hargs
  have hn : env.length = 13 := hl0
  have h0 := hargs 0 _ rfl
  have h1 := hargs 1 _ rfl
  clear hargs hl0
  refine wkT_of ?_
  rw [fe_self hn]
  (try simp -dsimp (disch := omega) only [h0, h1, k0, p42, bare_s, r_bs, ty, nb, appB_t, ap, s1, List.getElem?_cons_zero, show ∀ b g e o n, (AV.ex b g e o n).cells = [.ex b g e o n] from fun _ _ _ _ _ => rfl, AS, avals, apairs, bareP, AV.bare, AV.bares, Nat.reduceEqDiff, Nat.reduceLT, Nat.reduceAdd, ↓reduceIte, reduceCtorEq, resA, resA1, resVal, Nat.reduceLeDiff, nb_cfg, Nat.reduceBEq, AX, Int.reduceLT, Int.reduceLE, Int.reduceEq, Int.reduceAdd, Int.reduceSub, Int.reduceMul, Int.reduceNeg, Int.reduceNe])
  exact ⟨by kernel_rfl, rfl⟩
end Go.Proofs.Ytcimffpckcbdlaa

/- Chapter 22: down and up of a heap of texts. -/
namespace Go.Proofs.Ytcimffpckcbdlaa
open Go.AM
structure Ln where
  H : Hp
  b : Nat
  g : Nat
  n : Nat
noncomputable def lenT := relT 17 (fun _ : Ln => True) (fun p => [.ex p.b p.g 1 0 p.n]) (fun p => p.H) (fun p => .v (.int .i64 (p.n : Int))) (fun p => p.H)
theorem lenT_ok : CallsOk (cfgP nP) lenT := relT_ok (fns_cfg Try.func17 rfl) rfl fun p _ => len_ok p.H p.b p.g p.n
theorem lenT_at {H : Hp} {b g n : Nat} : lenT 17 [.ex b g 1 0 n] H = some (.v (.int .i64 (n : Int)), H) :=
  relT_eq (f0 := 17) (X := fun _ : Ln => True) (a := fun p => [.ex p.b p.g 1 0 p.n]) (h := fun p => p.H) (r := fun p => .v (.int .i64 (p.n : Int))) (h' := fun p => p.H) (fun p q _ _ ha hh => by
    injection ha with ha _
    injection ha with _ _ _ _ ha
    exact ⟨by rw [ha], hh⟩) ⟨H, b, g, n⟩ trivial
theorem Ls.inj {p q : Ls} (hp : p.ok) (hq : q.ok) (ha : p.a = q.a) (hh : p.h = q.h) : p = q := by
  obtain ⟨h, b, g, L, r, i, j⟩ := p
  obtain ⟨h', b', g', L', r', i', j'⟩ := q
  unfold Ls.a at ha
  injection ha with a1 ha
  injection ha with a2 ha
  injection ha with a3 _
  injection a1 with e1 e2 _ _ e3
  injection a2 with a2; injection a2 with _ a2
  injection a3 with a3; injection a3 with _ a3
  simp only at e1 e2 e3 a2 a3 hh
  subst e1 e2 hh
  have h1 := hp.1
  rw [hq.1] at h1
  injection h1 with h1
  injection h1 with _ _ h1
  obtain ⟨e4, e5⟩ := strs_inj e3.symm h1
  simp only at e4 e5
  subst e4 e5
  have : i = i' := by omega
  subst this
  have : j = j' := by omega
  subst this
  rfl
noncomputable def lessT := relT 64 Ls.ok Ls.a (fun p => p.h) (fun p => .v (.bool (bl (gt p.L p.i) (gt p.L p.j)))) (fun p => p.h)
theorem lessT_ok : CallsOk (cfgP nP) lessT := relT_ok (fns_cfg Try.func64 rfl) rfl less_ok
theorem lessT_at (p : Ls) (hp : p.ok) : lessT 64 p.a p.h = some (.v (.bool (bl (gt p.L p.i) (gt p.L p.j))), p.h) :=
  relT_eq (f0 := 64) (X := Ls.ok) (a := Ls.a) (h := fun p => p.h) (r := fun p => .v (.bool (bl (gt p.L p.i) (gt p.L p.j)))) (h' := fun p => p.h) (fun p q hp hq ha hh => by
    have := Ls.inj hp hq ha hh
    subst this
    exact ⟨rfl, rfl⟩) p hp
noncomputable def swapT := relT 65 Ls.ok Ls.a (fun p => p.h) (fun _ => .tup []) (fun p => { p.h with blks := p.h.blks.set p.b ⟨p.g, 1, (swp p.L p.i p.j).map str ++ p.r⟩ })
theorem swapT_ok : CallsOk (cfgP nP) swapT := relT_ok (fns_cfg Try.func65 rfl) rfl swap_ok
theorem swapT_at (p : Ls) (hp : p.ok) : swapT 65 p.a p.h = some (.tup [], { p.h with blks := p.h.blks.set p.b ⟨p.g, 1, (swp p.L p.i p.j).map str ++ p.r⟩ }) :=
  relT_eq (f0 := 65) (X := Ls.ok) (a := Ls.a) (h := fun p => p.h) (r := fun _ => .tup []) (h' := fun p => { p.h with blks := p.h.blks.set p.b ⟨p.g, 1, (swp p.L p.i p.j).map str ++ p.r⟩ }) (fun p q hp hq ha hh => by
    have := Ls.inj hp hq ha hh
    subst this
    exact ⟨rfl, rfl⟩) p hp
noncomputable def mT := orT lenT (orT lessT swapT)
theorem mT_ok : CallsOk (cfgP nP) mT := orT_ok lenT_ok (orT_ok lessT_ok swapT_ok)
/-! ### The calls behind the interface value -/
theorem ptr42 {h : Hp} {b0 b g : Nat} {L : List Tx} {r : List AV} (R : Rd h b0 b g L r) : (((blkAt h b0 0).bind (·.xs[0]?)).bind fun y => partA (cfgP nP) 42 y.cells 0) = some (.ex b g 1 0 L.length) := by
  rw [blk_row R.v]
  simp only [Option.bind_some, List.getElem?_cons_zero, p42]
  rfl
theorem i_len {h : Hp} {b0 b g : Nat} {L : List Tx} {r : List AV} (R : Rd h b0 b g L r) : invkA (cfgP nP) mT "Len" (rIf b0) [] h = some (.v (.int .i64 (L.length : Int)), h) := by
  unfold rIf
  rw [inv_val (C := cfgP nP) (f := 17) (e := 42) (by rfl) rfl rfl (ptr42 R)]
  exact orT_l lenT_at
theorem i_less {h : Hp} {b0 b g : Nat} {L : List Tx} {r : List AV} (R : Rd h b0 b g L r) {i j : Nat} (hi : i < L.length) (hj : j < L.length) : invkA (cfgP nP) mT "Less" (rIf b0) [.v (.int .i64 (i : Int)), .v (.int .i64 (j : Int))] h = some (.v (.bool (bl (gt L i) (gt L j))), h) := by
  unfold rIf
  rw [inv_val (C := cfgP nP) (f := 64) (e := 42) (by rfl) rfl rfl (ptr42 R)]
  exact orT_r (relT_none (by decide)) (orT_l (lessT_at ⟨h, b, g, L, r, i, j⟩ ⟨R.w, hi, hj⟩))
theorem i_swap {h : Hp} {b0 b g : Nat} {L : List Tx} {r : List AV} (R : Rd h b0 b g L r) {i j : Nat} (hi : i < L.length) (hj : j < L.length) : invkA (cfgP nP) mT "Swap" (rIf b0) [.v (.int .i64 (i : Int)), .v (.int .i64 (j : Int))] h = some (.tup [], rS h b0 b g L.length (swp L i j) r) := by
  unfold rIf
  rw [inv_val (C := cfgP nP) (f := 65) (e := 42) (by rfl) rfl rfl (ptr42 R)]
  refine (orT_r (relT_none (by decide)) (orT_r (relT_none (by decide)) (swapT_at ⟨h, b, g, L, r, i, j⟩ ⟨R.w, hi, hj⟩))).trans ?_
  unfold rS
  simp only
  rw [list_set_self (l := h.blks.set b _) (by rw [List.getElem?_set_ne (fun e => R.n e.symm)]; exact R.v)]
theorem downL_stop {m i n : Nat} {L : List Tx} (h : n ≤ 2 * i + 1) : downL m i n L = (i, L) := by
  cases m with
  | zero => rfl
  | succ m => unfold downL; rw [if_pos h]
structure Dn where
  h : Hp
  b0 : Nat
  b : Nat
  g : Nat
  L : List Tx
  r : List AV
  i : Nat
  n : Nat
def Dn.ok (p : Dn) : Prop := Rd p.h p.b0 p.b p.g p.L p.r ∧ p.n ≤ p.L.length ∧ p.i ≤ p.L.length
def Dn.a (p : Dn) : List AV := [rIf p.b0, .v (.int .i64 (p.i : Int)), .v (.int .i64 (p.n : Int))]
def Dn.res (p : Dn) : AV := .v (.bool (decide (((downL p.n p.i p.n p.L).1 : Int) > (p.i : Int))))
def Dn.h' (p : Dn) : Hp := rS p.h p.b0 p.b p.g p.L.length (downL p.n p.i p.n p.L).2 p.r
structure DnI (b0 i0 n i : Nat) (h0 : Hp) (e : Env) (h : Hp) : Prop where
  len : e.length = 48
  a0 : aget e 0 = rIf b0
  a1 : aget e 1 = .v (.int .i64 (i0 : Int))
  a2 : aget e 2 = .v (.int .i64 (n : Int))
  a7 : aget e 7 = .v (.int .i64 (i : Int))
  hp : h = h0
set_option maxHeartbeats 4000000 in
set_option maxRecDepth 100000 in
theorem down_ok (p : Dn) (hp : p.ok) : CallOk (cfgP nP) 25 p.a p.h p.res p.h' := by
  obtain ⟨h, b0, b, g, L0, r, i0, n⟩ := p
  obtain ⟨R0, hn0, hi0⟩ := hp
  simp only at R0 hn0 hi0
  have hl := R0.l
  obtain ⟨T, hT⟩ : ∃ T, downL n i0 n L0 = T := ⟨_, rfl⟩
  show CallOk (cfgP nP) 25 [rIf b0, .v (.int .i64 (i0 : Int)), .v (.int .i64 (n : Int))] h (.v (.bool (decide (((downL n i0 n L0).1 : Int) > (i0 : Int))))) (rS h b0 b g L0.length (downL n i0 n L0).2 r)
  rw [hT]
  refine call_of_wk (call := mT) (fn := Try.f25) (rs := [.tmp 6]) nP_ok mT_ok (fns_cfg Try.func25 rfl) rfl rfl ?_
  intro env hl0 hargs
  have hn : env.length = 48 := hl0
  have h0 := hargs 0 _ rfl
  have h1 := hargs 1 _ rfl
  have h2 := hargs 2 _ rfl
  clear hargs hl0
  refine wkT_of ?_
  rw [fe_self hn]
  (try simp -dsimp (disch := omega) only [h0, h1, h2, AS, avals, apairs, bareP, AV.bare, AV.bares, Nat.reduceEqDiff, Nat.reduceLT, Nat.reduceAdd, ↓reduceIte, reduceCtorEq, resA, resA1, resVal, Nat.reduceLeDiff, nb_cfg, Nat.reduceBEq, AX, Int.reduceLT, Int.reduceLE, Int.reduceEq, Int.reduceAdd, Int.reduceSub, Int.reduceMul, Int.reduceNeg, Int.reduceNe])
  refine wt_loop (m := n) (fun m e h1 => ∃ i L, n ≤ i + m ∧ i ≤ L0.length ∧ L.length = L0.length ∧ downL m i n L = T ∧ DnI b0 i0 n i (rS h b0 b g L0.length L r) e h1) ?_ ?_
  · clear hn h0 h1 h2
    rintro m e h1 ⟨i, L, hm, hiL, hLL, hD, hn, h0, hq1, h2, h7, rfl⟩
    rw [fe_self hn]
    have R : Rd (rS h b0 b g L0.length L r) b0 b g L r := by
      have := rS_rd (g' := g) (L' := L) (r' := r) R0 (by omega)
      rwa [hLL] at this
    obtain ⟨H, hH⟩ : ∃ H, rS h b0 b g L0.length L r = H := ⟨_, rfl⟩
    have m2 : (2 : Int) * (i : Int) = ((2 * i : Nat) : Int) := by omega
    have a1 : ((2 * i : Nat) : Int) + 1 = ((2 * i + 1 : Nat) : Int) := by omega
    have a2 : ((2 * i + 1 : Nat) : Int) + 1 = ((2 * i + 2 : Nat) : Int) := by omega
    by_cases hz : n ≤ 2 * i + 1
    · rw [downL_stop hz] at hD
      subst hD
      (try simp -dsimp (disch := omega) only [h0, hq1, h2, h7, m2, a1, a2, wrap64, AS, avals, apairs, bareP, AV.bare, AV.bares, Nat.reduceEqDiff, Nat.reduceLT, Nat.reduceAdd, ↓reduceIte, reduceCtorEq, resA, resA1, resVal, Nat.reduceLeDiff, nb_cfg, Nat.reduceBEq, AX, Int.reduceLT, Int.reduceLE, Int.reduceEq, Int.reduceAdd, Int.reduceSub, Int.reduceMul, Int.reduceNeg, Int.reduceNe])
    · cases m with
      | zero => omega
      | succ m =>
        unfold downL at hD
        rw [if_neg hz] at hD
        simp only at hD
        obtain ⟨j, hj⟩ : ∃ j, (if 2 * i + 2 < n ∧ bl (gt L (2 * i + 2)) (gt L (2 * i + 1)) = true then 2 * i + 2 else 2 * i + 1) = j := ⟨_, rfl⟩
        rw [hj] at hD
        have hjn : j < n := by
          rw [← hj]
          split <;> omega
        have hji : 2 * i + 1 ≤ j := by
          rw [← hj]
          split <;> omega
        have q2 := i_less R (i := j) (j := i) (by omega) (by omega)
        have q3 := i_swap R (i := i) (j := j) (by omega) (by omega)
        rw [hLL] at q3
        have e3 : rS H b0 b g L0.length (swp L i j) r = rS h b0 b g L0.length (swp L i j) r := by rw [← hH, rS_rS R0.n]
        rw [hH] at q2 q3
        rw [e3] at q3
        by_cases hc : 2 * i + 2 < n
        · have q1 := i_less R (i := 2 * i + 2) (j := 2 * i + 1) (by omega) (by omega)
          rw [hH] at q1
          cases hb : bl (gt L (2 * i + 2)) (gt L (2 * i + 1)) with
          | true =>
            rw [if_pos ⟨hc, hb⟩] at hj
            subst hj
            rw [hb] at q1
            cases hs : bl (gt L (2 * i + 2)) (gt L i) with
            | true =>
              rw [if_pos hs] at hD
              rw [hs] at q2
              rw [hH]
              (try simp -dsimp (disch := omega) only [h0, hq1, h2, h7, m2, a1, a2, wrap64, q1, q2, q3, AS, avals, apairs, bareP, AV.bare, AV.bares, Nat.reduceEqDiff, Nat.reduceLT, Nat.reduceAdd, ↓reduceIte, reduceCtorEq, resA, resA1, resVal, Nat.reduceLeDiff, nb_cfg, Nat.reduceBEq, AX, Int.reduceLT, Int.reduceLE, Int.reduceEq, Int.reduceAdd, Int.reduceSub, Int.reduceMul, Int.reduceNeg, Int.reduceNe])
              refine ⟨m, by omega, 2 * i + 2, swp L i (2 * i + 2), by omega, by omega, swp_len.trans hLL, hD, fe_len, ?_, ?_, ?_, ?_, rfl⟩
              all_goals (try simp -dsimp (disch := omega) only [h0, hq1, h2, h7, AS, avals, apairs, bareP, AV.bare, AV.bares, Nat.reduceEqDiff, Nat.reduceLT, Nat.reduceAdd, ↓reduceIte, reduceCtorEq, resA, resA1, resVal, Nat.reduceLeDiff, nb_cfg, Nat.reduceBEq, AX, Int.reduceLT, Int.reduceLE, Int.reduceEq, Int.reduceAdd, Int.reduceSub, Int.reduceMul, Int.reduceNeg, Int.reduceNe])
            | false =>
              rw [if_neg (by simp [hs])] at hD
              rw [hs] at q2
              rw [← hD, hH]
              (try simp -dsimp (disch := omega) only [h0, hq1, h2, h7, m2, a1, a2, wrap64, q1, q2, q3, AS, avals, apairs, bareP, AV.bare, AV.bares, Nat.reduceEqDiff, Nat.reduceLT, Nat.reduceAdd, ↓reduceIte, reduceCtorEq, resA, resA1, resVal, Nat.reduceLeDiff, nb_cfg, Nat.reduceBEq, AX, Int.reduceLT, Int.reduceLE, Int.reduceEq, Int.reduceAdd, Int.reduceSub, Int.reduceMul, Int.reduceNeg, Int.reduceNe])
          | false =>
            rw [if_neg (by simp [hb])] at hj
            subst hj
            rw [hb] at q1
            cases hs : bl (gt L (2 * i + 1)) (gt L i) with
            | true =>
              rw [if_pos hs] at hD
              rw [hs] at q2
              rw [hH]
              (try simp -dsimp (disch := omega) only [h0, hq1, h2, h7, m2, a1, a2, wrap64, q1, q2, q3, AS, avals, apairs, bareP, AV.bare, AV.bares, Nat.reduceEqDiff, Nat.reduceLT, Nat.reduceAdd, ↓reduceIte, reduceCtorEq, resA, resA1, resVal, Nat.reduceLeDiff, nb_cfg, Nat.reduceBEq, AX, Int.reduceLT, Int.reduceLE, Int.reduceEq, Int.reduceAdd, Int.reduceSub, Int.reduceMul, Int.reduceNeg, Int.reduceNe])
              refine ⟨m, by omega, 2 * i + 1, swp L i (2 * i + 1), by omega, by omega, swp_len.trans hLL, hD, fe_len, ?_, ?_, ?_, ?_, rfl⟩
              all_goals (try simp -dsimp (disch := omega) only [h0, hq1, h2, h7, AS, avals, apairs, bareP, AV.bare, AV.bares, Nat.reduceEqDiff, Nat.reduceLT, Nat.reduceAdd, ↓reduceIte, reduceCtorEq, resA, resA1, resVal, Nat.reduceLeDiff, nb_cfg, Nat.reduceBEq, AX, Int.reduceLT, Int.reduceLE, Int.reduceEq, Int.reduceAdd, Int.reduceSub, Int.reduceMul, Int.reduceNeg, Int.reduceNe])
            | false =>
              rw [if_neg (by simp [hs])] at hD
              rw [hs] at q2
              rw [← hD, hH]
              (try simp -dsimp (disch := omega) only [h0, hq1, h2, h7, m2, a1, a2, wrap64, q1, q2, q3, AS, avals, apairs, bareP, AV.bare, AV.bares, Nat.reduceEqDiff, Nat.reduceLT, Nat.reduceAdd, ↓reduceIte, reduceCtorEq, resA, resA1, resVal, Nat.reduceLeDiff, nb_cfg, Nat.reduceBEq, AX, Int.reduceLT, Int.reduceLE, Int.reduceEq, Int.reduceAdd, Int.reduceSub, Int.reduceMul, Int.reduceNeg, Int.reduceNe])
        · rw [if_neg (fun h => hc h.1)] at hj
          subst hj
          cases hs : bl (gt L (2 * i + 1)) (gt L i) with
          | true =>
            rw [if_pos hs] at hD
            rw [hs] at q2
            rw [hH]
            (try simp -dsimp (disch := omega) only [h0, hq1, h2, h7, m2, a1, a2, wrap64, q2, q3, AS, avals, apairs, bareP, AV.bare, AV.bares, Nat.reduceEqDiff, Nat.reduceLT, Nat.reduceAdd, ↓reduceIte, reduceCtorEq, resA, resA1, resVal, Nat.reduceLeDiff, nb_cfg, Nat.reduceBEq, AX, Int.reduceLT, Int.reduceLE, Int.reduceEq, Int.reduceAdd, Int.reduceSub, Int.reduceMul, Int.reduceNeg, Int.reduceNe])
            refine ⟨m, by omega, 2 * i + 1, swp L i (2 * i + 1), by omega, by omega, swp_len.trans hLL, hD, fe_len, ?_, ?_, ?_, ?_, rfl⟩
            all_goals (try simp -dsimp (disch := omega) only [h0, hq1, h2, h7, AS, avals, apairs, bareP, AV.bare, AV.bares, Nat.reduceEqDiff, Nat.reduceLT, Nat.reduceAdd, ↓reduceIte, reduceCtorEq, resA, resA1, resVal, Nat.reduceLeDiff, nb_cfg, Nat.reduceBEq, AX, Int.reduceLT, Int.reduceLE, Int.reduceEq, Int.reduceAdd, Int.reduceSub, Int.reduceMul, Int.reduceNeg, Int.reduceNe])
          | false =>
            rw [if_neg (by simp [hs])] at hD
            rw [hs] at q2
            rw [← hD, hH]
            (try simp -dsimp (disch := omega) only [h0, hq1, h2, h7, m2, a1, a2, wrap64, q2, q3, AS, avals, apairs, bareP, AV.bare, AV.bares, Nat.reduceEqDiff, Nat.reduceLT, Nat.reduceAdd, ↓reduceIte, reduceCtorEq, resA, resA1, resVal, Nat.reduceLeDiff, nb_cfg, Nat.reduceBEq, AX, Int.reduceLT, Int.reduceLE, Int.reduceEq, Int.reduceAdd, Int.reduceSub, Int.reduceMul, Int.reduceNeg, Int.reduceNe])
  · refine ⟨i0, L0, by omega, hi0, rfl, hT, fe_len, ?_, ?_, ?_, ?_, (rS_self R0).symm⟩
    all_goals (try simp -dsimp (disch := omega) only [h0, h1, h2, AS, avals, apairs, bareP, AV.bare, AV.bares, Nat.reduceEqDiff, Nat.reduceLT, Nat.reduceAdd, ↓reduceIte, reduceCtorEq, resA, resA1, resVal, Nat.reduceLeDiff, nb_cfg, Nat.reduceBEq, AX, Int.reduceLT, Int.reduceLE, Int.reduceEq, Int.reduceAdd, Int.reduceSub, Int.reduceMul, Int.reduceNeg, Int.reduceNe])
end Go.Proofs.Ytcimffpckcbdlaa

/- Chapter 22: up, Init, Pop, Push of a heap of texts. -/
namespace Go.Proofs.Ytcimffpckcbdlaa
open Go.AM
theorem rIf_inj {a b : Nat} (h : rIf a = rIf b) : a = b := by
  unfold rIf at h
  injection h with _ h
  injection h
theorem Dn.inj {p q : Dn} (hp : p.ok) (hq : q.ok) (ha : p.a = q.a) (hh : p.h = q.h) : p = q := by
  obtain ⟨h, b0, b, g, L, r, i, n⟩ := p
  obtain ⟨h', b0', b', g', L', r', i', n'⟩ := q
  unfold Dn.a at ha
  injection ha with a1 ha
  injection ha with a2 ha
  injection ha with a3 _
  injection a2 with a2; injection a2 with _ a2
  injection a3 with a3; injection a3 with _ a3
  have e0 := rIf_inj a1
  simp only at e0 a2 a3 hh
  subst e0 hh
  obtain ⟨e1, e2, e3, e4⟩ := Rd.inj hp.1 hq.1
  simp only at e1 e2 e3 e4
  subst e1 e2 e3 e4
  have : i = i' := by omega
  subst this
  have : n = n' := by omega
  subst this
  rfl
noncomputable def downT := relT 25 Dn.ok Dn.a Dn.h Dn.res Dn.h'
theorem downT_ok : CallsOk (cfgP nP) downT := relT_ok (fns_cfg Try.func25 rfl) rfl down_ok
theorem downT_at (p : Dn) (hp : p.ok) : downT 25 p.a p.h = some (p.res, p.h') :=
  relT_eq (f0 := 25) (X := Dn.ok) (a := Dn.a) (h := Dn.h) (r := Dn.res) (h' := Dn.h') (fun p q hp hq ha hh => by
    have := Dn.inj hp hq ha hh
    subst this
    exact ⟨rfl, rfl⟩) p hp
/-! ### up -/
structure Up where
  h : Hp
  b0 : Nat
  b : Nat
  g : Nat
  L : List Tx
  r : List AV
  j : Nat
def Up.ok (p : Up) : Prop := Rd p.h p.b0 p.b p.g p.L p.r ∧ p.j < p.L.length
def Up.a (p : Up) : List AV := [rIf p.b0, .v (.int .i64 (p.j : Int))]
def Up.h' (p : Up) : Hp := rS p.h p.b0 p.b p.g p.L.length (upL p.j p.j p.L) p.r
structure UpI (b0 j : Nat) (h0 : Hp) (e : Env) (h : Hp) : Prop where
  len : e.length = 23
  a0 : aget e 0 = rIf b0
  a1 : aget e 1 = .v (.int .i64 (j : Int))
  hp : h = h0
theorem upL_zero {m : Nat} {L : List Tx} : upL m 0 L = L := by
  cases m with
  | zero => rfl
  | succ m => unfold upL; rw [if_pos rfl]
set_option maxHeartbeats 4000000 in
set_option maxRecDepth 100000 in
theorem up_ok (p : Up) (hp : p.ok) : CallOk (cfgP nP) 26 p.a p.h (.tup []) p.h' := by
  obtain ⟨h, b0, b, g, L0, r, j0⟩ := p
  obtain ⟨R0, hj0⟩ := hp
  simp only at R0 hj0
  have hl := R0.l
  obtain ⟨T, hT⟩ : ∃ T, upL j0 j0 L0 = T := ⟨_, rfl⟩
  show CallOk (cfgP nP) 26 [rIf b0, .v (.int .i64 (j0 : Int))] h (.tup []) (rS h b0 b g L0.length (upL j0 j0 L0) r)
  rw [hT]
  refine call_of_wk (call := mT) (fn := Try.f26) (rs := []) nP_ok mT_ok (fns_cfg Try.func26 rfl) rfl rfl ?_
  intro env hl0 hargs
  have hn : env.length = 23 := hl0
  have h0 := hargs 0 _ rfl
  have h1 := hargs 1 _ rfl
  clear hargs hl0
  refine wkT_of ?_
  rw [fe_self hn]
  (try simp -dsimp (disch := omega) only [h0, h1, AS, avals, apairs, bareP, AV.bare, AV.bares, Nat.reduceEqDiff, Nat.reduceLT, Nat.reduceAdd, ↓reduceIte, reduceCtorEq, resA, resA1, resVal, Nat.reduceLeDiff, nb_cfg, Nat.reduceBEq, AX, Int.reduceLT, Int.reduceLE, Int.reduceEq, Int.reduceAdd, Int.reduceSub, Int.reduceMul, Int.reduceNeg, Int.reduceNe])
  refine wt_loop (m := j0) (fun m e h1 => ∃ j L, j ≤ m ∧ j < L0.length ∧ L.length = L0.length ∧ upL m j L = T ∧ UpI b0 j (rS h b0 b g L0.length L r) e h1) ?_ ?_
  · clear hn h0 h1
    rintro m e h1 ⟨j, L, hm, hjL, hLL, hD, hn, h0, h1, rfl⟩
    rw [fe_self hn]
    have R : Rd (rS h b0 b g L0.length L r) b0 b g L r := by
      have := rS_rd (g' := g) (L' := L) (r' := r) R0 (by omega)
      rwa [hLL] at this
    obtain ⟨H, hH⟩ : ∃ H, rS h b0 b g L0.length L r = H := ⟨_, rfl⟩
    obtain ⟨i, hi⟩ : ∃ i, (j - 1) / 2 = i := ⟨_, rfl⟩
    have hq : ∀ {x y : Operand}, binA (cfgP nP) .quo 3 x y (.v (.int .i64 ((j : Int) - 1))) (.v (.int .i64 2)) = some (.v (.int .i64 (i : Int))) := by
      intro x y
      rw [bin_quo (by decide)]
      have : Int.tdiv ((j : Int) - 1) 2 = (i : Int) := by
        cases j with
        | zero => subst hi; decide
        | succ j =>
          rw [show ((j + 1 : Nat) : Int) - 1 = ((j : Nat) : Int) by omega]
          rw [Int.tdiv_eq_ediv_of_nonneg (by omega)]
          omega
      rw [this, wrap64 (by omega) (by omega)]
    cases j with
    | zero =>
      have hi0 : i = 0 := by omega
      subst hi0
      rw [upL_zero] at hD
      subst hD
      (try simp -dsimp (disch := omega) only [h0, h1, wrap64, hq, AS, avals, apairs, bareP, AV.bare, AV.bares, Nat.reduceEqDiff, Nat.reduceLT, Nat.reduceAdd, ↓reduceIte, reduceCtorEq, resA, resA1, resVal, Nat.reduceLeDiff, nb_cfg, Nat.reduceBEq, AX, Int.reduceLT, Int.reduceLE, Int.reduceEq, Int.reduceAdd, Int.reduceSub, Int.reduceMul, Int.reduceNeg, Int.reduceNe])
    | succ j =>
      cases m with
      | zero => omega
      | succ m =>
        unfold upL at hD
        rw [if_neg (by omega), hi] at hD
        have q2 := i_less R (i := j + 1) (j := i) (by omega) (by omega)
        have q3 := i_swap R (i := i) (j := j + 1) (by omega) (by omega)
        rw [hLL] at q3
        have e3 : rS H b0 b g L0.length (swp L i (j + 1)) r = rS h b0 b g L0.length (swp L i (j + 1)) r := by rw [← hH, rS_rS R0.n]
        rw [hH] at q2 q3
        rw [e3] at q3
        have dI : decide ((i : Int) = ((j + 1 : Nat) : Int)) = false := decide_eq_false (by omega)
        rw [hH]
        cases hs : bl (gt L (j + 1)) (gt L i) with
        | true =>
          rw [if_pos hs] at hD
          rw [hs] at q2
          (try simp -dsimp (disch := omega) only [h0, h1, wrap64, hq, dI, q2, q3, AS, avals, apairs, bareP, AV.bare, AV.bares, Nat.reduceEqDiff, Nat.reduceLT, Nat.reduceAdd, ↓reduceIte, reduceCtorEq, resA, resA1, resVal, Nat.reduceLeDiff, nb_cfg, Nat.reduceBEq, AX, Int.reduceLT, Int.reduceLE, Int.reduceEq, Int.reduceAdd, Int.reduceSub, Int.reduceMul, Int.reduceNeg, Int.reduceNe])
          refine ⟨m, by omega, i, swp L i (j + 1), by omega, by omega, swp_len.trans hLL, hD, fe_len, ?_, ?_, rfl⟩
          all_goals (try simp -dsimp (disch := omega) only [h0, h1, AS, avals, apairs, bareP, AV.bare, AV.bares, Nat.reduceEqDiff, Nat.reduceLT, Nat.reduceAdd, ↓reduceIte, reduceCtorEq, resA, resA1, resVal, Nat.reduceLeDiff, nb_cfg, Nat.reduceBEq, AX, Int.reduceLT, Int.reduceLE, Int.reduceEq, Int.reduceAdd, Int.reduceSub, Int.reduceMul, Int.reduceNeg, Int.reduceNe])
        | false =>
          rw [if_neg (by simp [hs])] at hD
          rw [hs] at q2
          rw [← hD, ← hH]
          rw [← hH] at q2
          (try simp -dsimp (disch := omega) only [h0, h1, wrap64, hq, dI, q2, AS, avals, apairs, bareP, AV.bare, AV.bares, Nat.reduceEqDiff, Nat.reduceLT, Nat.reduceAdd, ↓reduceIte, reduceCtorEq, resA, resA1, resVal, Nat.reduceLeDiff, nb_cfg, Nat.reduceBEq, AX, Int.reduceLT, Int.reduceLE, Int.reduceEq, Int.reduceAdd, Int.reduceSub, Int.reduceMul, Int.reduceNeg, Int.reduceNe])
  · refine ⟨j0, L0, Nat.le_refl _, hj0, rfl, hT, fe_len, ?_, ?_, (rS_self R0).symm⟩
    all_goals (try simp -dsimp (disch := omega) only [h0, h1, AS, avals, apairs, bareP, AV.bare, AV.bares, Nat.reduceEqDiff, Nat.reduceLT, Nat.reduceAdd, ↓reduceIte, reduceCtorEq, resA, resA1, resVal, Nat.reduceLeDiff, nb_cfg, Nat.reduceBEq, AX, Int.reduceLT, Int.reduceLE, Int.reduceEq, Int.reduceAdd, Int.reduceSub, Int.reduceMul, Int.reduceNeg, Int.reduceNe])
theorem Up.inj {p q : Up} (hp : p.ok) (hq : q.ok) (ha : p.a = q.a) (hh : p.h = q.h) : p = q := by
  obtain ⟨h, b0, b, g, L, r, j⟩ := p
  obtain ⟨h', b0', b', g', L', r', j'⟩ := q
  unfold Up.a at ha
  injection ha with a1 ha
  injection ha with a2 ha
  injection a2 with a2; injection a2 with _ a2
  have e0 := rIf_inj a1
  simp only at e0 a2 hh
  subst e0 hh
  obtain ⟨e1, e2, e3, e4⟩ := Rd.inj hp.1 hq.1
  simp only at e1 e2 e3 e4
  subst e1 e2 e3 e4
  have : j = j' := by omega
  subst this
  rfl
noncomputable def upT := relT 26 Up.ok Up.a Up.h (fun _ => .tup []) Up.h'
theorem upT_ok : CallsOk (cfgP nP) upT := relT_ok (fns_cfg Try.func26 rfl) rfl up_ok
theorem upT_at (p : Up) (hp : p.ok) : upT 26 p.a p.h = some (.tup [], p.h') :=
  relT_eq (f0 := 26) (X := Up.ok) (a := Up.a) (h := Up.h) (r := fun _ => .tup []) (h' := Up.h') (fun p q hp hq ha hh => by
    have := Up.inj hp hq ha hh
    subst this
    exact ⟨rfl, rfl⟩) p hp
/-! ### the methods Pop, Push as a table -/
structure Pp where
  h : Hp
  b0 : Nat
  b : Nat
  g : Nat
  A : List Tx
  x : Tx
  r : List AV
def Pp.ok (p : Pp) : Prop := Rd p.h p.b0 p.b p.g (p.A ++ [p.x]) p.r
def Pp.h' (p : Pp) : Hp := rS p.h p.b0 p.b p.g p.A.length p.A (str p.x :: p.r)
noncomputable def popmT := relT 66 Pp.ok (fun p => [.ptr p.b0 0 0 0]) Pp.h (fun p => .iface 9 (str p.x)) Pp.h'
theorem popmT_ok : CallsOk (cfgP nP) popmT := relT_ok (fns_cfg Try.func66 rfl) rfl fun p hp => pop_ok p.h p.b0 p.b p.g p.A p.x p.r hp
theorem popmT_at (p : Pp) (hp : p.ok) : popmT 66 [.ptr p.b0 0 0 0] p.h = some (.iface 9 (str p.x), p.h') :=
  relT_eq (f0 := 66) (X := Pp.ok) (a := fun p => [.ptr p.b0 0 0 0]) (h := Pp.h) (r := fun p => .iface 9 (str p.x)) (h' := Pp.h') (fun p q hp hq ha hh => by
    obtain ⟨h, b0, b, g, A, x, r⟩ := p
    obtain ⟨h', b0', b', g', A', x', r'⟩ := q
    injection ha with a1 _
    injection a1 with a1
    simp only at a1 hh
    subst a1 hh
    obtain ⟨e1, e2, e3, e4⟩ := Rd.inj hp hq
    simp only at e1 e2 e3 e4
    subst e1 e2 e4
    obtain ⟨e5, e6⟩ := List.append_inj' e3 rfl
    injection e6 with e6 _
    subst e5 e6
    exact ⟨rfl, rfl⟩) p hp
structure Ph where
  h : Hp
  b0 : Nat
  b : Nat
  g : Nat
  L : List Tx
  x : Tx
  r : List AV
def Ph.ok (p : Ph) : Prop := Rd p.h p.b0 p.b p.g p.L p.r
def Ph.h' (p : Ph) : Hp := rS p.h p.b0 p.b (nextG p.g) (p.L.length + 1) (p.L ++ [p.x]) []
noncomputable def pushmT := relT 67 Ph.ok (fun p => [.ptr p.b0 0 0 0, .iface 9 (str p.x)]) Ph.h (fun _ => .tup []) Ph.h'
theorem pushmT_ok : CallsOk (cfgP nP) pushmT := relT_ok (fns_cfg Try.func67 rfl) rfl fun p hp => push_ok p.h p.b0 p.b p.g p.L p.x p.r hp
theorem pushmT_at (p : Ph) (hp : p.ok) : pushmT 67 [.ptr p.b0 0 0 0, .iface 9 (str p.x)] p.h = some (.tup [], p.h') :=
  relT_eq (f0 := 67) (X := Ph.ok) (a := fun p => [.ptr p.b0 0 0 0, .iface 9 (str p.x)]) (h := Ph.h) (r := fun _ => .tup []) (h' := Ph.h') (fun p q hp hq ha hh => by
    obtain ⟨h, b0, b, g, L, x, r⟩ := p
    obtain ⟨h', b0', b', g', L', x', r'⟩ := q
    injection ha with a1 ha
    injection a1 with a1
    injection ha with a2 _
    injection a2 with _ a2
    have a3 := str_inj a2
    clear a2
    simp only at a1 a3 hh
    subst a1 a3 hh
    obtain ⟨e1, e2, e3, e4⟩ := Rd.inj hp hq
    simp only at e1 e2 e3 e4
    subst e1 e2 e3 e4
    exact ⟨rfl, rfl⟩) p hp
noncomputable def hT := orT mT (orT downT (orT upT (orT popmT pushmT)))
theorem hT_ok : CallsOk (cfgP nP) hT := orT_ok mT_ok (orT_ok downT_ok (orT_ok upT_ok (orT_ok popmT_ok pushmT_ok)))
theorem mT_none {f : FuncId} {xs : List AV} {H : Hp} (h1 : f ≠ 17) (h2 : f ≠ 64) (h3 : f ≠ 65) : mT f xs H = none := by
  unfold mT orT
  unfold lenT lessT swapT
  rw [relT_none h1]
  simp only
  rw [relT_none h2]
  simp only
  rw [relT_none h3]
theorem h_down (p : Dn) (hp : p.ok) : hT 25 p.a p.h = some (p.res, p.h') := orT_r (mT_none (by decide) (by decide) (by decide)) (orT_l (downT_at p hp))
theorem h_up (p : Up) (hp : p.ok) : hT 26 p.a p.h = some (.tup [], p.h') := orT_r (mT_none (by decide) (by decide) (by decide)) (orT_r (relT_none (by decide)) (orT_l (upT_at p hp)))
theorem h_inv {name : String} {x : AV} {args : List AV} {H : Hp} {y : AV × Hp} (h : invkA (cfgP nP) mT name x args H = some y) : invkA (cfgP nP) hT name x args H = some y := by
  unfold invkA at h ⊢
  split at h
  · rename_i t x
    (try simp only)
    split at h
    · rename_i f hm
      (try rw [hm])
      (try simp only)
      split at h
      · cases h
      · rename_i hc
        rw [if_neg hc]
        exact orT_l h
    · rename_i f e hm
      (try rw [hm])
      (try simp only)
      split at h
      · cases h
      · rename_i hc
        rw [if_neg hc]
        split at h
        · (try simp only)
          obtain ⟨z, hz, h⟩ := Option.bind_eq_some_iff.1 h
          rw [hz]
          exact orT_l h
        · cases h
    · cases h
  · cases h
theorem h_pop (p : Pp) (hp : p.ok) : invkA (cfgP nP) hT "Pop" (rIf p.b0) [] p.h = some (.iface 9 (str p.x), p.h') := by
  unfold rIf
  rw [inv_ptr (C := cfgP nP) (f := 66) (by rfl) rfl rfl]
  exact orT_r (mT_none (by decide) (by decide) (by decide)) (orT_r (relT_none (by decide)) (orT_r (relT_none (by decide)) (orT_l (popmT_at p hp))))
theorem h_push (p : Ph) (hp : p.ok) : invkA (cfgP nP) hT "Push" (rIf p.b0) [.iface 9 (str p.x)] p.h = some (.tup [], p.h') := by
  unfold rIf
  rw [inv_ptr (C := cfgP nP) (f := 67) (by rfl) rfl rfl]
  exact orT_r (mT_none (by decide) (by decide) (by decide)) (orT_r (relT_none (by decide)) (orT_r (relT_none (by decide)) (orT_r (relT_none (by decide)) (pushmT_at p hp))))
end Go.Proofs.Ytcimffpckcbdlaa

/- Chapter 22: container/heap's Init, Pop, Push over a heap of texts, as one table. -/
namespace Go.Proofs.Ytcimffpckcbdlaa
open Go.AM
/-! ### Init -/
structure Hs where
  h : Hp
  b0 : Nat
  b : Nat
  g : Nat
  L : List Tx
  r : List AV
def Hs.ok (p : Hs) : Prop := Rd p.h p.b0 p.b p.g p.L p.r
theorem Hs.inj {p q : Hs} (hp : p.ok) (hq : q.ok) (ha : p.b0 = q.b0) (hh : p.h = q.h) : p = q := by
  obtain ⟨h, b0, b, g, L, r⟩ := p
  obtain ⟨h', b0', b', g', L', r'⟩ := q
  simp only at ha hh
  subst ha hh
  obtain ⟨e1, e2, e3, e4⟩ := Rd.inj hp hq
  simp only at e1 e2 e3 e4
  subst e1 e2 e3 e4
  rfl
def Hs.h' (p : Hs) : Hp := rS p.h p.b0 p.b p.g p.L.length (initL (p.L.length / 2) p.L.length p.L) p.r
structure IiI (b0 n : Nat) (i : Int) (h0 : Hp) (e : Env) (h : Hp) : Prop where
  len : e.length = 17
  a0 : aget e 0 = rIf b0
  a2 : aget e 2 = .v (.int .i64 (n : Int))
  a3 : aget e 3 = .v (.int .i64 i)
  hp : h = h0
set_option maxHeartbeats 4000000 in
set_option maxRecDepth 100000 in
theorem init_ok (p : Hs) (hp : p.ok) : CallOk (cfgP nP) 16 [rIf p.b0] p.h (.tup []) p.h' := by
  obtain ⟨h, b0, b, g, L0, r⟩ := p
  have R0 : Rd h b0 b g L0 r := hp
  have hl := R0.l
  obtain ⟨T, hT1⟩ : ∃ T, initL (L0.length / 2) L0.length L0 = T := ⟨_, rfl⟩
  show CallOk (cfgP nP) 16 [rIf b0] h (.tup []) (rS h b0 b g L0.length (initL (L0.length / 2) L0.length L0) r)
  rw [hT1]
  obtain ⟨n, hn0⟩ : ∃ n, L0.length = n := ⟨_, rfl⟩
  have ql := h_inv (i_len R0)
  rw [hn0] at ql hl hT1 ⊢
  obtain ⟨k, hk⟩ : ∃ k, n / 2 = k := ⟨_, rfl⟩
  rw [hk] at hT1
  have hq : ∀ {x y : Operand}, binA (cfgP nP) .quo 3 x y (.v (.int .i64 (n : Int))) (.v (.int .i64 2)) = some (.v (.int .i64 (k : Int))) := by
    intro x y
    rw [bin_quo (by decide), Int.tdiv_eq_ediv_of_nonneg (by omega)]
    have : (n : Int) / 2 = (k : Int) := by omega
    rw [this, wrap64 (by omega) (by omega)]
  refine call_of_wk (call := hT) (fn := Try.f16) (rs := []) nP_ok hT_ok (fns_cfg Try.func16 rfl) rfl rfl ?_
  intro env hl0 hargs
  have hn : env.length = 17 := hl0
  have h0 := hargs 0 _ rfl
  clear hargs hl0
  refine wkT_of ?_
  rw [fe_self hn]
  (try simp -dsimp (disch := omega) only [h0, ql, hq, wrap64, AS, avals, apairs, bareP, AV.bare, AV.bares, Nat.reduceEqDiff, Nat.reduceLT, Nat.reduceAdd, ↓reduceIte, reduceCtorEq, resA, resA1, resVal, Nat.reduceLeDiff, nb_cfg, Nat.reduceBEq, AX, Int.reduceLT, Int.reduceLE, Int.reduceEq, Int.reduceAdd, Int.reduceSub, Int.reduceMul, Int.reduceNeg, Int.reduceNe])
  refine wt_loop (m := k) (fun m e h1 => ∃ L, m ≤ n / 2 ∧ L.length = n ∧ initL m n L = T ∧ IiI b0 n ((m : Int) - 1) (rS h b0 b g n L r) e h1) ?_ ?_
  · clear hn h0
    rintro m e h1 ⟨L, hm, hLL, hD, hn, h0, h2, h3, rfl⟩
    rw [fe_self hn]
    cases m with
    | zero =>
      have hD' : L = T := hD
      subst hD'
      have dI : decide (((0 : Nat) : Int) - 1 ≥ 0) = false := by decide
      (try simp -dsimp (disch := omega) only [h0, h2, h3, dI, AS, avals, apairs, bareP, AV.bare, AV.bares, Nat.reduceEqDiff, Nat.reduceLT, Nat.reduceAdd, ↓reduceIte, reduceCtorEq, resA, resA1, resVal, Nat.reduceLeDiff, nb_cfg, Nat.reduceBEq, AX, Int.reduceLT, Int.reduceLE, Int.reduceEq, Int.reduceAdd, Int.reduceSub, Int.reduceMul, Int.reduceNeg, Int.reduceNe])
    | succ m =>
      have R : Rd (rS h b0 b g n L r) b0 b g L r := by
        have := rS_rd (g' := g) (L' := L) (r' := r) R0 (by omega)
        rwa [hLL] at this
      have e1 : ((m + 1 : Nat) : Int) - 1 = (m : Int) := by omega
      have qd := h_down ⟨rS h b0 b g n L r, b0, b, g, L, r, m, n⟩ ⟨R, by simp only; omega, by simp only; omega⟩
      simp only [Dn.a, Dn.h', Dn.res, hLL, rS_rS R0.n] at qd
      have dI : decide ((m : Int) ≥ 0) = true := decide_eq_true (by omega)
      (try simp -dsimp (disch := omega) only [h0, h2, h3, e1, dI, wrap64, ct_own (C := cfgP nP) (f := 25) rfl rfl, qd, AS, avals, apairs, bareP, AV.bare, AV.bares, Nat.reduceEqDiff, Nat.reduceLT, Nat.reduceAdd, ↓reduceIte, reduceCtorEq, resA, resA1, resVal, Nat.reduceLeDiff, nb_cfg, Nat.reduceBEq, AX, Int.reduceLT, Int.reduceLE, Int.reduceEq, Int.reduceAdd, Int.reduceSub, Int.reduceMul, Int.reduceNeg, Int.reduceNe])
      refine ⟨m, by omega, (downL n m n L).2, by omega, (downL_len n m n L).trans hLL, hD, fe_len, ?_, ?_, ?_, rfl⟩
      all_goals (try simp -dsimp (disch := omega) only [h0, h2, h3, AS, avals, apairs, bareP, AV.bare, AV.bares, Nat.reduceEqDiff, Nat.reduceLT, Nat.reduceAdd, ↓reduceIte, reduceCtorEq, resA, resA1, resVal, Nat.reduceLeDiff, nb_cfg, Nat.reduceBEq, AX, Int.reduceLT, Int.reduceLE, Int.reduceEq, Int.reduceAdd, Int.reduceSub, Int.reduceMul, Int.reduceNeg, Int.reduceNe])
  · refine ⟨L0, by omega, hn0, hT1, fe_len, ?_, ?_, ?_, ?_⟩
    case refine_4 =>
      rw [← hn0]
      exact (rS_self R0).symm
    all_goals (try simp -dsimp (disch := omega) only [h0, AS, avals, apairs, bareP, AV.bare, AV.bares, Nat.reduceEqDiff, Nat.reduceLT, Nat.reduceAdd, ↓reduceIte, reduceCtorEq, resA, resA1, resVal, Nat.reduceLeDiff, nb_cfg, Nat.reduceBEq, AX, Int.reduceLT, Int.reduceLE, Int.reduceEq, Int.reduceAdd, Int.reduceSub, Int.reduceMul, Int.reduceNeg, Int.reduceNe])
noncomputable def initT := relT 16 Hs.ok (fun p => [rIf p.b0]) Hs.h (fun _ => .tup []) Hs.h'
theorem initT_ok : CallsOk (cfgP nP) initT := relT_ok (fns_cfg Try.func16 rfl) rfl init_ok
theorem initT_at (p : Hs) (hp : p.ok) : initT 16 [rIf p.b0] p.h = some (.tup [], p.h') :=
  relT_eq (f0 := 16) (X := Hs.ok) (a := fun p => [rIf p.b0]) (h := Hs.h) (r := fun _ => .tup []) (h' := Hs.h') (fun p q hp hq ha hh => by
    injection ha with ha _
    have := Hs.inj hp hq (rIf_inj ha) hh
    subst this
    exact ⟨rfl, rfl⟩) p hp
/-! ### Pop -/
def Hs.pa (p : Hs) : List Tx := (popL p.L).take (p.L.length - 1)
def Hs.px (p : Hs) : Tx := gt (popL p.L) (p.L.length - 1)
def Hs.ph (p : Hs) : Hp := rS p.h p.b0 p.b p.g (p.L.length - 1) p.pa (str p.px :: p.r)
theorem take_gt {L : List Tx} {n : Nat} (h : L.length = n + 1) : L = L.take n ++ [gt L n] := by
  rw [gt_get (by omega)]
  have h1 : L = L.take n ++ L.drop n := (List.take_append_drop _ _).symm
  rw [List.drop_eq_getElem_cons (by omega), List.drop_eq_nil_of_le (by omega)] at h1
  exact h1
theorem hpop_ok (p : Hs) (hp : p.ok ∧ p.L ≠ []) : CallOk (cfgP nP) 18 [rIf p.b0] p.h (.iface 9 (str p.px)) p.ph := by
  obtain ⟨h, b0, b, g, L, r⟩ := p
  obtain ⟨R, hne⟩ := hp
  replace R : Rd h b0 b g L r := R
  replace hne : L ≠ [] := hne
  have hl := R.l
  have hpos := List.length_pos_iff.2 hne
  obtain ⟨n, hn0⟩ : ∃ n, L.length = n + 1 := ⟨L.length - 1, by omega⟩
  have en : L.length - 1 = n := by omega
  have ql := h_inv (i_len R)
  have qs := h_inv (i_swap R (i := 0) (j := n) (by omega) (by omega))
  have R1 : Rd (rS h b0 b g L.length (swp L 0 n) r) b0 b g (swp L 0 n) r := by
    have := rS_rd (g' := g) (L' := swp L 0 n) (r' := r) R (by rw [swp_len]; omega)
    rwa [swp_len] at this
  have qd := h_down ⟨rS h b0 b g L.length (swp L 0 n) r, b0, b, g, swp L 0 n, r, 0, n⟩ ⟨R1, by simp only [swp_len]; omega, by simp only [swp_len]; omega⟩
  simp only [Dn.a, Dn.h', Dn.res, swp_len, rS_rS R.n] at qd
  obtain ⟨K, hK⟩ : ∃ K, (downL n 0 n (swp L 0 n)).2 = K := ⟨_, rfl⟩
  have hpL : popL L = K := by rw [← hK]; unfold popL; rw [en]
  have hKl : K.length = n + 1 := by rw [← hpL, popL_len, hn0]
  rw [hK] at qd
  have hKx := take_gt hKl
  have R2 : Rd (rS h b0 b g L.length K r) b0 b g (K.take n ++ [gt K n]) r := by
    rw [← hKx]
    have := rS_rd (g' := g) (L' := K) (r' := r) R (by omega)
    rwa [hKl, ← hn0] at this
  have qp := h_pop ⟨rS h b0 b g L.length K r, b0, b, g, K.take n, gt K n, r⟩ R2
  have hK2 : (K.take n).length = n := by rw [List.length_take]; omega
  simp only [Pp.h', rS_rS R.n, hK2] at qp
  show CallOk (cfgP nP) 18 [rIf b0] h (.iface 9 (str (gt (popL L) (L.length - 1)))) (rS h b0 b g (L.length - 1) ((popL L).take (L.length - 1)) (str (gt (popL L) (L.length - 1)) :: r))
  rw [hpL, en]
  have e1 : ((n + 1 : Nat) : Int) - 1 = (n : Int) := by omega
  rw [hn0] at ql qs qd qp
  have z0 : ((0 : Nat) : Int) = 0 := rfl
  rw [z0] at qs qd
  refine call_of_wk (call := hT) (fn := Try.f18) (rs := [.tmp 2]) nP_ok hT_ok (fns_cfg Try.func18 rfl) rfl rfl ?_
  intro env hl0 hargs
  have hn : env.length = 15 := hl0
  have h0 := hargs 0 _ rfl
  clear hargs hl0
  refine wkT_of ?_
  rw [fe_self hn]
  (try simp -dsimp (disch := omega) only [h0, ql, e1, wrap64, qs, ct_own (C := cfgP nP) (f := 25) rfl rfl, qd, qp, AS, avals, apairs, bareP, AV.bare, AV.bares, Nat.reduceEqDiff, Nat.reduceLT, Nat.reduceAdd, ↓reduceIte, reduceCtorEq, resA, resA1, resVal, Nat.reduceLeDiff, nb_cfg, Nat.reduceBEq, AX, Int.reduceLT, Int.reduceLE, Int.reduceEq, Int.reduceAdd, Int.reduceSub, Int.reduceMul, Int.reduceNeg, Int.reduceNe])
noncomputable def hpopT := relT 18 (fun p : Hs => p.ok ∧ p.L ≠ []) (fun p => [rIf p.b0]) Hs.h (fun p => .iface 9 (str p.px)) Hs.ph
theorem hpopT_ok : CallsOk (cfgP nP) hpopT := relT_ok (fns_cfg Try.func18 rfl) rfl hpop_ok
theorem hpopT_at (p : Hs) (hp : p.ok) (hne : p.L ≠ []) : hpopT 18 [rIf p.b0] p.h = some (.iface 9 (str p.px), p.ph) :=
  relT_eq (f0 := 18) (X := fun p : Hs => p.ok ∧ p.L ≠ []) (a := fun p => [rIf p.b0]) (h := Hs.h) (r := fun p => .iface 9 (str p.px)) (h' := Hs.ph) (fun p q hp hq ha hh => by
    injection ha with ha _
    have := Hs.inj hp.1 hq.1 (rIf_inj ha) hh
    subst this
    exact ⟨rfl, rfl⟩) p ⟨hp, hne⟩
/-! ### Push -/
def Ph.hh (p : Ph) : Hp := rS p.h p.b0 p.b (nextG p.g) (p.L.length + 1) (pushL p.L p.x) []
theorem hpush_ok (p : Ph) (hp : p.ok ∧ p.L.length < 1099511627775) : CallOk (cfgP nP) 19 [rIf p.b0, .iface 9 (str p.x)] p.h (.tup []) p.hh := by
  obtain ⟨h, b0, b, g, L, x, r⟩ := p
  obtain ⟨R, hl⟩ := hp
  replace R : Rd h b0 b g L r := R
  replace hl : L.length < 1099511627775 := hl
  obtain ⟨n, hn0⟩ : ∃ n, L.length = n := ⟨_, rfl⟩
  have qp := h_push ⟨h, b0, b, g, L, x, r⟩ R
  simp only [Ph.h'] at qp
  have hL1 : (L ++ [x]).length = n + 1 := by rw [List.length_append, hn0]; rfl
  have R1 : Rd (rS h b0 b (nextG g) (n + 1) (L ++ [x]) []) b0 b (nextG g) (L ++ [x]) [] := by
    have := rS_rd (g' := nextG g) (L' := L ++ [x]) (r' := []) R (by omega)
    rwa [hL1] at this
  have ql := h_inv (i_len R1)
  have qu := h_up ⟨rS h b0 b (nextG g) (n + 1) (L ++ [x]) [], b0, b, nextG g, L ++ [x], [], n⟩ ⟨R1, by simp only [hL1]; omega⟩
  simp only [Up.a, Up.h', hL1, rS_rS R.n] at qu
  rw [hL1] at ql
  rw [hn0] at qp
  show CallOk (cfgP nP) 19 [rIf b0, .iface 9 (str x)] h (.tup []) (rS h b0 b (nextG g) (L.length + 1) (upL L.length L.length (L ++ [x])) [])
  rw [hn0]
  have e1 : ((n + 1 : Nat) : Int) - 1 = (n : Int) := by omega
  refine call_of_wk (call := hT) (fn := Try.f19) (rs := []) nP_ok hT_ok (fns_cfg Try.func19 rfl) rfl rfl ?_
  intro env hl0 hargs
  have hn : env.length = 12 := hl0
  have h0 := hargs 0 _ rfl
  have h1 := hargs 1 _ rfl
  clear hargs hl0
  refine wkT_of ?_
  rw [fe_self hn]
  (try simp -dsimp (disch := omega) only [h0, h1, qp, ql, e1, wrap64, ct_own (C := cfgP nP) (f := 26) rfl rfl, qu, AS, avals, apairs, bareP, AV.bare, AV.bares, Nat.reduceEqDiff, Nat.reduceLT, Nat.reduceAdd, ↓reduceIte, reduceCtorEq, resA, resA1, resVal, Nat.reduceLeDiff, nb_cfg, Nat.reduceBEq, AX, Int.reduceLT, Int.reduceLE, Int.reduceEq, Int.reduceAdd, Int.reduceSub, Int.reduceMul, Int.reduceNeg, Int.reduceNe])
noncomputable def hpushT := relT 19 (fun p : Ph => p.ok ∧ p.L.length < 1099511627775) (fun p => [rIf p.b0, .iface 9 (str p.x)]) Ph.h (fun _ => .tup []) Ph.hh
theorem hpushT_ok : CallsOk (cfgP nP) hpushT := relT_ok (fns_cfg Try.func19 rfl) rfl hpush_ok
theorem hpushT_at (p : Ph) (hp : p.ok) (hl : p.L.length < 1099511627775) : hpushT 19 [rIf p.b0, .iface 9 (str p.x)] p.h = some (.tup [], p.hh) :=
  relT_eq (f0 := 19) (X := fun p : Ph => p.ok ∧ p.L.length < 1099511627775) (a := fun p => [rIf p.b0, .iface 9 (str p.x)]) (h := Ph.h) (r := fun _ => .tup []) (h' := Ph.hh) (fun p q hp hq ha hh => by
    obtain ⟨h, b0, b, g, L, x, r⟩ := p
    obtain ⟨h', b0', b', g', L', x', r'⟩ := q
    injection ha with a1 ha
    have a1 := rIf_inj a1
    injection ha with a2 _
    injection a2 with _ a2
    have a3 := str_inj a2
    clear a2
    simp only at a1 a3 hh
    subst a1 a3 hh
    obtain ⟨e1, e2, e3, e4⟩ := Rd.inj hp.1 hq.1
    simp only at e1 e2 e3 e4
    subst e1 e2 e3 e4
    exact ⟨rfl, rfl⟩) p ⟨hp, hl⟩
/-! ### Where nothing was put in -/
structure Nv where
  h : Hp
  b0 : Nat
abbrev nilS : AV := .v (.slice none 0 0)
def Nv.ok (p : Nv) : Prop := p.h.blks[p.b0]? = some ⟨0, 1, [nilS]⟩
theorem r_len0 {prim : FuncId → Option (List AV → Option AV)} : lenA (cfgP prim) #[42] [nilS] = some (.v (.int .i64 0)) := by kernel_rfl
theorem lenn_ok (H : Hp) : CallOk (cfgP nP) 17 [nilS] H (.v (.int .i64 0)) H := by
  refine call_of_wk (call := noCall) (fn := Try.f17) (rs := [.tmp 2]) nP_ok noCall_ok (fns_cfg Try.func17 rfl) rfl rfl ?_
  intro env hl0 hargs
  have hn : env.length = 5 := hl0
  have h0 := hargs 0 _ rfl
  clear hargs hl0
  refine wkT_of ?_
  rw [fe_self hn]
  (try simp -dsimp (disch := omega) only [h0, r_len0, AS, avals, apairs, bareP, AV.bare, AV.bares, Nat.reduceEqDiff, Nat.reduceLT, Nat.reduceAdd, ↓reduceIte, reduceCtorEq, resA, resA1, resVal, Nat.reduceLeDiff, nb_cfg, Nat.reduceBEq, AX, Int.reduceLT, Int.reduceLE, Int.reduceEq, Int.reduceAdd, Int.reduceSub, Int.reduceMul, Int.reduceNeg, Int.reduceNe])
noncomputable def lennT := relT 17 (fun _ : Hp => True) (fun _ => [nilS]) (fun p => p) (fun _ => .v (.int .i64 0)) (fun p => p)
theorem lennT_ok : CallsOk (cfgP nP) lennT := relT_ok (fns_cfg Try.func17 rfl) rfl fun p _ => lenn_ok p
theorem lennT_at {H : Hp} : lennT 17 [nilS] H = some (.v (.int .i64 0), H) :=
  relT_eq (f0 := 17) (X := fun _ : Hp => True) (a := fun _ => [nilS]) (h := fun p => p) (r := fun _ => .v (.int .i64 0)) (h' := fun p => p) (fun p q _ _ _ hh => ⟨rfl, hh⟩) H trivial
theorem i_len0 (p : Nv) (hp : p.ok) : invkA (cfgP nP) lennT "Len" (rIf p.b0) [] p.h = some (.v (.int .i64 0), p.h) := by
  unfold rIf
  have hy : (((blkAt p.h p.b0 0).bind (·.xs[0]?)).bind fun y => partA (cfgP nP) 42 y.cells 0) = some nilS := by
    rw [blk_row hp]
    simp only [Option.bind_some, List.getElem?_cons_zero, p42]
    rfl
  rw [inv_val (C := cfgP nP) (f := 17) (e := 42) (by rfl) rfl rfl hy]
  exact lennT_at
theorem initn_ok (p : Nv) (hp : p.ok) : CallOk (cfgP nP) 16 [rIf p.b0] p.h (.tup []) p.h := by
  have ql := i_len0 p hp
  have hq : ∀ {x y : Operand}, binA (cfgP nP) .quo 3 x y (.v (.int .i64 0)) (.v (.int .i64 2)) = some (.v (.int .i64 0)) := by
    intro x y
    rw [bin_quo (by decide)]
    rfl
  have w1 : IntKind.i64.wrap (-1) = -1 := by decide
  have dI : decide ((0 : Int) ≤ -1) = false := by decide
  refine call_of_wk (call := lennT) (fn := Try.f16) (rs := []) nP_ok lennT_ok (fns_cfg Try.func16 rfl) rfl rfl ?_
  intro env hl0 hargs
  have hn : env.length = 17 := hl0
  have h0 := hargs 0 _ rfl
  clear hargs hl0
  refine wkT_of ?_
  rw [fe_self hn]
  (try simp -dsimp (disch := omega) only [h0, ql, hq, w1, AS, avals, apairs, bareP, AV.bare, AV.bares, Nat.reduceEqDiff, Nat.reduceLT, Nat.reduceAdd, ↓reduceIte, reduceCtorEq, resA, resA1, resVal, Nat.reduceLeDiff, nb_cfg, Nat.reduceBEq, AX, Int.reduceLT, Int.reduceLE, Int.reduceEq, Int.reduceAdd, Int.reduceSub, Int.reduceMul, Int.reduceNeg, Int.reduceNe])
  rw [wt_loop_unfold]
  (try simp -dsimp (disch := omega) only [dI, AS, avals, apairs, bareP, AV.bare, AV.bares, Nat.reduceEqDiff, Nat.reduceLT, Nat.reduceAdd, ↓reduceIte, reduceCtorEq, resA, resA1, resVal, Nat.reduceLeDiff, nb_cfg, Nat.reduceBEq, AX, Int.reduceLT, Int.reduceLE, Int.reduceEq, Int.reduceAdd, Int.reduceSub, Int.reduceMul, Int.reduceNeg, Int.reduceNe])
noncomputable def initnT := relT 16 Nv.ok (fun p => [rIf p.b0]) Nv.h (fun _ => .tup []) Nv.h
theorem initnT_ok : CallsOk (cfgP nP) initnT := relT_ok (fns_cfg Try.func16 rfl) rfl initn_ok
theorem initnT_at (p : Nv) (hp : p.ok) : initnT 16 [rIf p.b0] p.h = some (.tup [], p.h) :=
  relT_eq (f0 := 16) (X := Nv.ok) (a := fun p => [rIf p.b0]) (h := Nv.h) (r := fun _ => .tup []) (h' := Nv.h) (fun p q _ _ _ hh => ⟨rfl, hh⟩) p hp
end Go.Proofs.Ytcimffpckcbdlaa
