/- Contracts of functions, and plain facts about what they compute. -/
import Derived.Test.YtcimffpckcbdlaaOa
import Derived.MapKept
set_option linter.unusedSimpArgs false
set_option linter.unusedVariables false
/- Chapter 22: the order of items, as it is meant; and that counting down with a heap makes it. No program in sight. -/
namespace Go.Proofs.Ytcimffpckcbdlaa
open Go.AM
abbrev It := Tx × List Tx
def ids (l : List It) : List Tx := l.map Prod.fst
/-- Where an ID stands. -/
def plc (l : List It) (t : Tx) : Option Nat := l.findIdx? fun x => x.1 == t
def wt (out : List Tx) (x : It) : Nat := (x.2.filter fun n => !out.contains n).length
def rdyB (out : List Tx) (x : It) : Bool := !out.contains x.1 && x.2.all fun n => out.contains n
def least : List Tx → Option Tx
  | [] => none
  | x :: r => match least r with
    | none => some x
    | some y => if bl y x = true then some y else some x
theorem least_none : ∀ {L : List Tx}, least L = none → L = []
  | [], _ => rfl
  | x :: r, h => by
    unfold least at h
    split at h
    · cases h
    · split at h <;> cases h
theorem least_mem : ∀ {L : List Tx} {x : Tx}, least L = some x → x ∈ L ∧ ∀ y ∈ L, bl y x = false
  | [], x, h => by cases h
  | a :: r, x, h => by
    unfold least at h
    split at h
    · rename_i hn
      injection h with h
      subst h
      have := least_none hn
      subst this
      exact ⟨by simp, fun y hy => by
        simp at hy
        subst hy
        exact bl_irrefl _⟩
    · rename_i y hy
      obtain ⟨h1, h2⟩ := least_mem hy
      split at h
      · rename_i hb
        injection h with h
        subst h
        refine ⟨List.mem_cons_of_mem _ h1, fun z hz => ?_⟩
        rcases List.mem_cons.1 hz with rfl | hz
        · exact bl_asymm hb
        · exact h2 z hz
      · rename_i hb
        injection h with h
        subst h
        refine ⟨by simp, fun z hz => ?_⟩
        rcases List.mem_cons.1 hz with rfl | hz
        · exact bl_irrefl _
        · exact nlt_trans (by simpa using hb) (h2 z hz)
theorem least_eq {L : List Tx} {x : Tx} (h1 : x ∈ L) (h2 : ∀ y ∈ L, bl y x = false) : least L = some x := by
  cases h : least L with
  | none => rw [least_none h] at h1; cases h1
  | some y =>
    obtain ⟨h3, h4⟩ := least_mem h
    rw [bl_tri (h4 x h1) (h2 y h3)]
def stepS (l : List It) (out : List Tx) : Option Tx := least (ids (l.filter (rdyB out)))
def runS (l : List It) : Nat → List Tx → List Tx
  | 0, out => out
  | k + 1, out => match stepS l out with
    | none => out
    | some x => runS l k (out ++ [x])
/-- The order, or why there is none. -/
def allS (l : List It) : List Tx × Nat := if (ids l).Nodup then (if (l.all fun x => x.2.all (ids l).contains) = true then (if (runS l l.length []).length < l.length then ([], 14) else (runS l l.length [], 0)) else ([], 13)) else ([], 4)
theorem mem_ready {l : List It} {out : List Tx} {t : Tx} : t ∈ ids (l.filter (rdyB out)) ↔ ∃ x ∈ l, x.1 = t ∧ rdyB out x = true := by
  unfold ids
  simp only [List.mem_map, List.mem_filter]
  constructor
  · rintro ⟨x, ⟨h1, h2⟩, h3⟩; exact ⟨x, h1, h3, h2⟩
  · rintro ⟨x, h1, h3, h2⟩; exact ⟨x, ⟨h1, h2⟩, h3⟩
theorem stepS_some {l : List It} {out : List Tx} {t : Tx} : stepS l out = some t ↔ (∃ x ∈ l, x.1 = t ∧ rdyB out x = true) ∧ ∀ x ∈ l, rdyB out x = true → bl x.1 t = false := by
  constructor
  · intro h
    obtain ⟨h1, h2⟩ := least_mem h
    exact ⟨mem_ready.1 h1, fun x hx hr => h2 _ (mem_ready.2 ⟨x, hx, rfl, hr⟩)⟩
  · rintro ⟨h1, h2⟩
    refine least_eq (mem_ready.2 h1) fun y hy => ?_
    obtain ⟨x, hx, rfl, hr⟩ := mem_ready.1 hy
    exact h2 x hx hr
theorem stepS_none {l : List It} {out : List Tx} : stepS l out = none ↔ ∀ x ∈ l, rdyB out x = false := by
  constructor
  · intro h x hx
    cases hr : rdyB out x with
    | false => rfl
    | true =>
      have := mem_ready.2 ⟨x, hx, rfl, hr⟩
      rw [least_none h] at this
      cases this
  · intro h
    have : ids (l.filter (rdyB out)) = [] := by
      rw [List.eq_nil_iff_forall_not_mem]
      intro t ht
      obtain ⟨x, hx, _, hr⟩ := mem_ready.1 ht
      rw [h x hx] at hr
      cases hr
    unfold stepS
    rw [this]
    rfl
theorem wt_zero {out : List Tx} {x : It} : wt out x = 0 ↔ (x.2.all fun n => out.contains n) = true := by
  unfold wt
  rw [List.length_eq_zero_iff, List.filter_eq_nil_iff, List.all_eq_true]
  constructor
  · intro h n hn
    have := h n hn
    simpa using this
  · intro h n hn
    have := h n hn
    simpa using this
theorem rdy_iff {out : List Tx} {x : It} : rdyB out x = true ↔ x.1 ∉ out ∧ wt out x = 0 := by
  unfold rdyB
  rw [Bool.and_eq_true, wt_zero]
  simp
theorem plc_some {l : List It} {t : Tx} {k : Nat} (h : plc l t = some k) : ∃ x, l[k]? = some x ∧ x.1 = t := by
  unfold plc at h
  rw [List.findIdx?_eq_some_iff_getElem] at h
  obtain ⟨h1, h2, _⟩ := h
  exact ⟨l[k], List.getElem?_eq_getElem h1, by simpa using h2⟩
theorem plc_none {l : List It} {t : Tx} : plc l t = none ↔ t ∉ ids l := by
  unfold plc ids
  rw [List.findIdx?_eq_none_iff]
  constructor
  · intro h hm
    obtain ⟨x, hx, rfl⟩ := List.mem_map.1 hm
    have := h x hx
    simp at this
  · intro h x hx
    rw [beq_eq_false_iff_ne]
    rintro rfl
    exact h (List.mem_map_of_mem hx)
theorem ids_get {l : List It} (hn : (ids l).Nodup) {i j : Nat} {x y : It} (hi : l[i]? = some x) (hj : l[j]? = some y) (h : x.1 = y.1) : i = j := by
  obtain ⟨hi1, rfl⟩ := List.getElem?_eq_some_iff.1 hi
  obtain ⟨hj1, rfl⟩ := List.getElem?_eq_some_iff.1 hj
  have hp := List.pairwise_iff_getElem.1 hn
  have hil : i < (ids l).length := by simpa [ids] using hi1
  have hjl : j < (ids l).length := by simpa [ids] using hj1
  have he : (ids l)[i] = (ids l)[j] := by simpa [ids] using h
  rcases Nat.lt_trichotomy i j with h1 | h1 | h1
  · exact absurd he (hp i j hil hjl h1)
  · exact h1
  · exact absurd he.symm (hp j i hjl hil h1)
theorem nodup_len : ∀ {L M : List Tx}, L.Nodup → (∀ t ∈ L, t ∈ M) → L.length ≤ M.length
  | [], _, _, _ => Nat.zero_le _
  | x :: L, M, h1, h2 => by
    have hx := h2 x (by simp)
    have h1' := List.nodup_cons.1 h1
    have ih := nodup_len (L := L) (M := M.erase x) h1'.2 (fun t ht => by
      have hne : t ≠ x := by
        rintro rfl
        exact h1'.1 ht
      exact (List.mem_erase_of_ne hne).2 (h2 t (by simp [ht])))
    rw [List.length_erase_of_mem hx] at ih
    have := List.length_pos_of_mem hx
    simp only [List.length_cons]
    omega
theorem plc_get {l : List It} (hn : (ids l).Nodup) {i : Nat} {x : It} (hi : l[i]? = some x) : plc l x.1 = some i := by
  cases h : plc l x.1 with
  | none => exact absurd (List.mem_map_of_mem (f := Prod.fst) (List.mem_of_getElem? hi)) (plc_none.1 h)
  | some k =>
    obtain ⟨y, hy, he⟩ := plc_some h
    rw [ids_get hn hy hi he]
/-! ### The pairs of who waits and for whom -/
def prsF : Nat → List It → List (Nat × Tx)
  | _, [] => []
  | i, x :: r => x.2.map (fun n => (i, n)) ++ prsF (i + 1) r
/-- Who waits for the k-th. -/
def byB (l : List It) (ps : List (Nat × Tx)) (k : Nat) : List Nat := (ps.filter fun p => plc l p.2 == some k).map Prod.fst
/-- How many the i-th waits for. -/
def wtB (ps : List (Nat × Tx)) (i : Nat) : Nat := (ps.filter fun p => p.1 == i).length
theorem byB_app {l : List It} {ps qs : List (Nat × Tx)} {k : Nat} : byB l (ps ++ qs) k = byB l ps k ++ byB l qs k := by
  unfold byB
  rw [List.filter_append, List.map_append]
theorem wtB_app {ps qs : List (Nat × Tx)} {i : Nat} : wtB (ps ++ qs) i = wtB ps i + wtB qs i := by
  unfold wtB
  rw [List.filter_append, List.length_append]
theorem prsF_app : ∀ {i : Nat} {a b : List It}, prsF i (a ++ b) = prsF i a ++ prsF (i + a.length) b
  | i, [], b => rfl
  | i, x :: r, b => by
    show x.2.map _ ++ prsF (i + 1) (r ++ b) = (x.2.map _ ++ prsF (i + 1) r) ++ prsF (i + (r.length + 1)) b
    rw [prsF_app, List.append_assoc, show i + 1 + r.length = i + (r.length + 1) by omega]
theorem prsF_lt : ∀ {i : Nat} {l : List It} {p : Nat × Tx}, p ∈ prsF i l → i ≤ p.1 ∧ p.1 < i + l.length
  | i, [], p, h => by cases h
  | i, x :: r, p, h => by
    rcases List.mem_append.1 h with h | h
    · obtain ⟨n, _, rfl⟩ := List.mem_map.1 h
      simp
    · have := prsF_lt h
      simp only [List.length_cons]
      omega
theorem wtB_none {ps : List (Nat × Tx)} {i : Nat} (h : ∀ p ∈ ps, p.1 ≠ i) : wtB ps i = 0 := by
  unfold wtB
  rw [List.length_eq_zero_iff, List.filter_eq_nil_iff]
  intro p hp
  simpa using h p hp
theorem wtB_row {i : Nat} {L : List Tx} : wtB (L.map fun n => (i, n)) i = L.length := by
  unfold wtB
  rw [List.filter_eq_self.2]
  · simp
  · intro p hp
    obtain ⟨n, _, rfl⟩ := List.mem_map.1 hp
    simp
theorem split_at {l : List It} {i : Nat} {x : It} (h : l[i]? = some x) : ∃ a b, l = a ++ x :: b ∧ a.length = i := by
  obtain ⟨hi, rfl⟩ := List.getElem?_eq_some_iff.1 h
  exact ⟨l.take i, l.drop (i + 1), by rw [← List.drop_eq_getElem_cons hi, List.take_append_drop], by rw [List.length_take]; omega⟩
theorem wtB_prs {l : List It} {i : Nat} {x : It} (h : l[i]? = some x) : wtB (prsF 0 l) i = x.2.length := by
  obtain ⟨a, b, rfl, rfl⟩ := split_at h
  rw [prsF_app, wtB_app, wtB_none (fun p hp => by have := prsF_lt hp; omega)]
  show 0 + wtB (x.2.map _ ++ prsF (0 + a.length + 1) b) a.length = _
  rw [wtB_app, Nat.zero_add, Nat.zero_add, wtB_row, wtB_none (fun p hp => by have := prsF_lt hp; omega)]
  omega
theorem cnt_none {l : List It} {ps : List (Nat × Tx)} {i k : Nat} (h : ∀ p ∈ ps, p.1 ≠ i) : (byB l ps k).count i = 0 := by
  rw [List.count_eq_zero]
  intro hm
  obtain ⟨p, hp, rfl⟩ := List.mem_map.1 hm
  exact h p (List.mem_filter.1 hp).1 rfl
theorem cnt_row {l : List It} {i k : Nat} : ∀ {L : List Tx}, (byB l (L.map fun n => (i, n)) k).count i = (L.filter fun n => plc l n == some k).length
  | [] => rfl
  | n :: L => by
    have ih := cnt_row (l := l) (i := i) (k := k) (L := L)
    unfold byB at ih ⊢
    simp only [List.map_cons, List.filter_cons]
    cases h : plc l n == some k with
    | true => simp only [if_true, List.map_cons, List.count_cons_self, List.length_cons, ih]
    | false => simp only [Bool.false_eq_true, if_false, ih]
theorem cnt_prs {l : List It} {i k : Nat} {x : It} (h : l[i]? = some x) : (byB l (prsF 0 l) k).count i = (x.2.filter fun n => plc l n == some k).length := by
  obtain ⟨a, b, hl, hi⟩ := split_at h
  have e : prsF 0 l = prsF 0 a ++ (x.2.map (fun n => (i, n)) ++ prsF (i + 1) b) := by
    rw [hl, prsF_app, ← hi]
    simp only [Nat.zero_add]
    rfl
  rw [e, byB_app, byB_app, List.count_append, List.count_append, cnt_none (fun p hp => by have := prsF_lt hp; omega), cnt_row, cnt_none (fun p hp => by have := prsF_lt hp; omega)]
  omega
theorem wt_snoc {l : List It} {out : List Tx} {t : Tx} {k : Nat} (hk : plc l t = some k) (ht : t ∉ out) (L : List Tx) : (L.filter fun n => !out.contains n).length = (L.filter fun n => !(out ++ [t]).contains n).length + (L.filter fun n => plc l n == some k).length := by
  have hp : ∀ n, (plc l n == some k) = (n == t) := by
    intro n
    cases hn : n == t with
    | true =>
      have : n = t := by simpa using hn
      rw [this, hk]
      simp
    | false =>
      rw [beq_eq_false_iff_ne]
      intro h
      obtain ⟨x, hx, rfl⟩ := plc_some h
      obtain ⟨y, hy, rfl⟩ := plc_some hk
      rw [hx] at hy
      injection hy with hy
      subst hy
      simp at hn
  induction L with
  | nil => rfl
  | cons n L ih =>
    simp only [List.filter_cons, hp] at ih ⊢
    by_cases hn : n = t
    · subst hn
      have h1 : out.contains n = false := by simpa using ht
      have h2 : (out ++ [n]).contains n = true := by simp
      rw [h1, h2]
      simp only [Bool.not_false, Bool.not_true, if_true, Bool.false_eq_true, if_false, beq_self_eq_true, List.length_cons, ih]
      omega
    · have h1 : (n == t) = false := by simpa using hn
      have h2 : (out ++ [t]).contains n = out.contains n := by
        have : ¬ n = t := hn
        simp [this]
      rw [h1, h2]
      cases hc : out.contains n with
      | true => simpa using ih
      | false =>
        simp only [Bool.not_false, if_true, Bool.false_eq_true, if_false, List.length_cons, ih]
        omega
/-- While what waits is counted down: rest: who is still to be counted. -/
structure P3 (l : List It) (out : List Tx) (rest : List Nat) (ws : List Nat) (L : List Tx) : Prop where
  wl : ws.length = l.length
  hw : ∀ (i : Nat) (x : It), l[i]? = some x → ws[i]? = some (wt out x + rest.count i)
  hp : HpF L L.length 0
  nd : L.Nodup
  mem : ∀ t, t ∈ L ↔ ∃ (i : Nat) (x : It), l[i]? = some x ∧ x.1 = t ∧ t ∉ out ∧ ws[i]? = some 0
  run : runS l (l.length - out.length) out = runS l l.length []
  ond : out.Nodup
  osub : ∀ t ∈ out, t ∈ ids l
  oz : ∀ (i : Nat) (x : It), l[i]? = some x → x.1 ∈ out → wt out x + rest.count i = 0
  rl : ∀ i ∈ rest, i < l.length
theorem P3.len {l : List It} {out : List Tx} {rest : List Nat} {ws : List Nat} {L : List Tx} (h : P3 l out rest ws L) : out.length ≤ l.length := by
  have := nodup_len h.ond h.osub
  simpa [ids] using this
theorem nodup_sub {l : List It} {L : List Tx} (h1 : L.Nodup) (h2 : ∀ t ∈ L, t ∈ ids l) : L.length ≤ l.length := by
  have := nodup_len h1 h2
  simpa [ids] using this
theorem P3.llen {l : List It} {out : List Tx} {rest : List Nat} {ws : List Nat} {L : List Tx} (h : P3 l out rest ws L) : L.length ≤ l.length :=
  nodup_sub h.nd fun t ht => by
    obtain ⟨i, x, hx, rfl, _⟩ := (h.mem t).1 ht
    exact List.mem_map_of_mem (List.mem_of_getElem? hx)
theorem P3.count {l : List It} (hn : (ids l).Nodup) {out : List Tx} {i : Nat} {rest : List Nat} {ws : List Nat} {L : List Tx} (h : P3 l out (i :: rest) ws L) :
    ∃ c x, ws[i]? = some (c + 1) ∧ l[i]? = some x ∧ c < 4611686018427387904 + c ∧ P3 l out rest (ws.set i c) (if c = 0 then pushL L x.1 else L) := by
  have hil : i < l.length := h.rl i (by simp)
  obtain ⟨x, hx⟩ : ∃ x, l[i]? = some x := ⟨_, List.getElem?_eq_getElem hil⟩
  have hwi := h.hw i x hx
  rw [List.count_cons_self] at hwi
  have hiw : i < ws.length := by rw [h.wl]; exact hil
  have hxo : x.1 ∉ out := by
    intro hm
    have := h.oz i x hx hm
    rw [List.count_cons_self] at this
    omega
  obtain ⟨c, hc⟩ : ∃ c, wt out x + rest.count i = c := ⟨_, rfl⟩
  have hwi' : ws[i]? = some (c + 1) := by rw [hwi, ← hc]; rfl
  have hcn : ∀ j, j ≠ i → (i :: rest).count j = rest.count j := fun j hj => List.count_cons_of_ne (fun e => hj e.symm)
  have hxl : x.1 ∉ L := by
    intro hm
    obtain ⟨j, y, hy, he, _, hz⟩ := (h.mem x.1).1 hm
    have := ids_get hn hy hx he
    subst this
    rw [hwi'] at hz
    cases hz
  have hpl : (if c = 0 then pushL L x.1 else L).Perm (if c = 0 then L ++ [x.1] else L) := by
    split
    · exact (pushL_ok h.hp).2
    · exact List.Perm.refl _
  refine ⟨c, x, hwi', hx, by omega, ⟨?_, ?_, ?_, ?_, ?_, h.run, h.ond, h.osub, ?_, fun j hj => h.rl j (List.mem_cons_of_mem _ hj)⟩⟩
  · rw [List.length_set, h.wl]
  · intro j y hy
    by_cases hj : j = i
    · subst hj
      rw [List.getElem?_set_self hiw]
      rw [hx] at hy
      injection hy with hy
      subst hy
      rw [hc]
    · rw [List.getElem?_set_ne (fun e => hj e.symm), h.hw j y hy, hcn j hj]
  · split
    · rw [pushL_len]
      exact (pushL_ok h.hp).1
    · exact h.hp
  · rw [hpl.nodup_iff]
    split
    · rw [List.nodup_append]
      refine ⟨h.nd, by simp, ?_⟩
      intro a ha b hb
      simp at hb
      subst hb
      rintro rfl
      exact hxl ha
    · exact h.nd
  · intro t
    rw [hpl.mem_iff]
    have hj : ∀ (j : Nat) (y : It), l[j]? = some y → y.1 ≠ x.1 → (ws.set i c)[j]? = ws[j]? := by
      intro j y hy hne
      rw [List.getElem?_set_ne]
      rintro rfl
      rw [hx] at hy
      injection hy with hy
      exact hne (by rw [hy])
    by_cases ht : t = x.1
    · subst ht
      constructor
      · intro hm
        split at hm
        · rename_i h0
          exact ⟨i, x, hx, rfl, hxo, by rw [List.getElem?_set_self hiw, h0]⟩
        · exact absurd hm hxl
      · rintro ⟨j, y, hy, he, _, hz⟩
        have := ids_get hn hy hx he
        subst this
        rw [List.getElem?_set_self hiw] at hz
        injection hz with hz
        rw [if_pos hz]
        simp
    · have e : t ∈ (if c = 0 then L ++ [x.1] else L) ↔ t ∈ L := by
        split
        · simp [ht]
        · exact Iff.rfl
      rw [e, h.mem t]
      constructor
      · rintro ⟨j, y, hy, rfl, h1, h2⟩
        exact ⟨j, y, hy, rfl, h1, by rw [hj j y hy ht]; exact h2⟩
      · rintro ⟨j, y, hy, rfl, h1, h2⟩
        exact ⟨j, y, hy, rfl, h1, by rw [← hj j y hy ht]; exact h2⟩
  · intro j y hy hm
    have := h.oz j y hy hm
    by_cases hji : j = i
    · subst hji
      rw [hx] at hy
      injection hy with hy
      subst hy
      exact absurd hm hxo
    · rwa [hcn j hji] at this
theorem P3.pop {l : List It} (hn : (ids l).Nodup) {out : List Tx} {ws : List Nat} {L : List Tx} (h : P3 l out [] ws L) (hne : L ≠ []) :
    ∃ k x, plc l (gt (popL L) (L.length - 1)) = some k ∧ l[k]? = some x ∧ out.length < l.length ∧ P3 l (out ++ [gt (popL L) (L.length - 1)]) (byB l (prsF 0 l) k) ws ((popL L).take (L.length - 1)) := by
  have hpos := List.length_pos_iff.2 hne
  obtain ⟨r1, r2, r3, r4⟩ := popL_ok hpos h.hp
  obtain ⟨t, ht⟩ : ∃ t, gt (popL L) (L.length - 1) = t := ⟨_, rfl⟩
  rw [ht] at r2 ⊢
  obtain ⟨A, hA⟩ : ∃ A, (popL L).take (L.length - 1) = A := ⟨_, rfl⟩
  have hsp : popL L = A ++ [t] := by
    rw [← hA, ← ht]
    have hlast : L.length - 1 < (popL L).length := by omega
    rw [gt_get hlast]
    have h1 : popL L = (popL L).take (L.length - 1) ++ (popL L).drop (L.length - 1) := (List.take_append_drop _ _).symm
    rw [List.drop_eq_getElem_cons hlast, List.drop_eq_nil_of_le (by omega)] at h1
    exact h1
  have hAl : A.length = L.length - 1 := by
    have := congrArg List.length hsp
    simp at this
    omega
  rw [hA]
  have hperm : L.Perm (A ++ [t]) := by rw [← hsp]; exact r4.symm
  have htL : t ∈ L := by rw [hperm.mem_iff]; simp
  obtain ⟨k, x, hx, he, hto, hz⟩ := (h.mem t).1 htL
  have hpk : plc l t = some k := by rw [← he]; exact plc_get hn hx
  have hnd2 : (A ++ [t]).Nodup := hperm.nodup_iff.1 h.nd
  have hol : out.length < l.length := by
    have h1 : (out ++ [t]).Nodup := by
      rw [List.nodup_append]
      refine ⟨h.ond, by simp, ?_⟩
      intro a ha b hb
      simp at hb
      subst hb
      rintro rfl
      exact hto ha
    have := nodup_sub (l := l) h1 (fun s hs => by
      rcases List.mem_append.1 hs with hs | hs
      · exact h.osub s hs
      · simp at hs
        subst hs
        rw [← he]
        exact List.mem_map_of_mem (List.mem_of_getElem? hx))
    simp at this
    omega
  have hmin : ∀ s ∈ L, bl s t = false := by
    intro s hs
    obtain ⟨i, hi⟩ := List.getElem?_of_mem hs
    obtain ⟨hi1, rfl⟩ := List.getElem?_eq_some_iff.1 hi
    rw [← gt_get hi1, r2]
    exact top_min h.hp i hi1
  have rdy : ∀ (i : Nat) (y : It), l[i]? = some y → (rdyB out y = true ↔ y.1 ∈ L) := by
    intro i y hy
    rw [rdy_iff, h.mem]
    have hwi := h.hw i y hy
    simp only [List.count_nil, Nat.add_zero] at hwi
    constructor
    · rintro ⟨h1, h2⟩
      exact ⟨i, y, hy, rfl, h1, by rw [hwi, h2]⟩
    · rintro ⟨j, z, hz, he, h1, h2⟩
      have := ids_get hn hz hy he
      subst this
      rw [hwi] at h2
      injection h2 with h2
      exact ⟨h1, h2⟩
  have hst : stepS l out = some t := by
    rw [stepS_some]
    refine ⟨⟨x, List.mem_of_getElem? hx, he, (rdy k x hx).2 (by rw [he]; exact htL)⟩, fun y hy hr => ?_⟩
    obtain ⟨i, hi⟩ := List.getElem?_of_mem hy
    exact hmin _ ((rdy i y hi).1 hr)
  have hwt : ∀ (i : Nat) (y : It), l[i]? = some y → wt out y = wt (out ++ [t]) y + (byB l (prsF 0 l) k).count i := by
    intro i y hy
    rw [cnt_prs hy]
    exact wt_snoc hpk hto y.2
  refine ⟨k, x, hpk, hx, hol, ⟨h.wl, ?_, ?_, ?_, ?_, ?_, ?_, ?_, ?_, ?_⟩⟩
  · intro i y hy
    rw [← hwt i y hy, h.hw i y hy]
    rfl
  · rw [hAl]
    rw [hsp] at r3
    intro p c h1 h2 h3
    have := r3 p c h1 h2 h3
    rwa [gt_app (by omega), gt_app (by omega)] at this
  · exact (List.nodup_append.1 hnd2).1
  · intro s
    by_cases hs : s = t
    · subst hs
      constructor
      · intro hm
        have := (List.nodup_append.1 hnd2).2.2 s hm s (by simp)
        exact absurd rfl this
      · rintro ⟨i, y, hy, _, h1, _⟩
        exact absurd (by simp) h1
    · have e1 : s ∈ A ↔ s ∈ L := by rw [hperm.mem_iff]; simp [hs]
      rw [e1, h.mem]
      constructor
      · rintro ⟨i, y, hy, he2, h1, h2⟩
        exact ⟨i, y, hy, he2, by simp [h1, hs], h2⟩
      · rintro ⟨i, y, hy, he2, h1, h2⟩
        exact ⟨i, y, hy, he2, by simp at h1; exact h1.1, h2⟩
  · rw [← h.run, List.length_append, List.length_singleton]
    obtain ⟨d, hd⟩ : ∃ d, l.length - out.length = d + 1 := ⟨l.length - out.length - 1, by omega⟩
    rw [hd, show l.length - (out.length + 1) = d by omega]
    show _ = (match stepS l out with | none => out | some x => runS l d (out ++ [x]))
    rw [hst]
  · rw [List.nodup_append]
    refine ⟨h.ond, by simp, ?_⟩
    intro a ha b hb
    simp at hb
    subst hb
    rintro rfl
    exact hto ha
  · intro s hs
    rcases List.mem_append.1 hs with hs | hs
    · exact h.osub s hs
    · simp at hs
      subst hs
      rw [← he]
      exact List.mem_map_of_mem (List.mem_of_getElem? hx)
  · intro i y hy hm
    rw [← hwt i y hy]
    rcases List.mem_append.1 hm with hm | hm
    · have := h.oz i y hy hm
      simpa using this
    · simp at hm
      have := ids_get hn hy hx (by rw [hm, he])
      subst this
      have hwi := h.hw i y hy
      rw [hz] at hwi
      injection hwi with hwi
      simp at hwi
      omega
  · intro i hi
    obtain ⟨p, hp, rfl⟩ := List.mem_map.1 hi
    have := prsF_lt (List.mem_filter.1 hp).1
    omega
theorem P3.done {l : List It} {out : List Tx} {ws : List Nat} (hn : (ids l).Nodup) (h : P3 l out [] ws []) : runS l l.length [] = out := by
  rw [← h.run]
  have : stepS l out = none := by
    rw [stepS_none]
    intro y hy
    cases hr : rdyB out y with
    | false => rfl
    | true =>
      obtain ⟨i, hi⟩ := List.getElem?_of_mem hy
      obtain ⟨h1, h2⟩ := rdy_iff.1 hr
      have hwi := h.hw i y hi
      rw [h2] at hwi
      have := (h.mem y.1).2 ⟨i, y, hi, rfl, h1, by simpa using hwi⟩
      cases this
  cases l.length - out.length with
  | zero => rfl
  | succ d =>
    show (match stepS l out with | none => out | some x => runS l d (out ++ [x])) = out
    rw [this]
theorem P3.init {l : List It} {ws : List Nat} {L : List Tx} (hn : (ids l).Nodup) (hl : ws.length = l.length) (hw : ∀ (i : Nat) (x : It), l[i]? = some x → ws[i]? = some x.2.length) (hL : L = ids (l.filter fun x => x.2.isEmpty)) : P3 l [] [] ws (initL (L.length / 2) L.length L) := by
  have hh : HpF L L.length (L.length / 2) := fun p c h1 h2 h3 => by omega
  obtain ⟨q1, q2⟩ := initL_ok (L.length / 2) L.length L rfl (by omega) hh
  have hwt : ∀ x : It, wt [] x = x.2.length := by
    intro x
    unfold wt
    rw [List.filter_eq_self.2]
    intro a _
    simp
  have hnd : L.Nodup := by
    rw [hL]
    exact List.Nodup.sublist (List.Sublist.map _ List.filter_sublist) hn
  refine ⟨hl, ?_, ?_, q2.nodup_iff.2 hnd, ?_, ?_, List.nodup_nil, (fun t ht => by cases ht), (fun i x _ hm => by cases hm), (fun i hi => by cases hi)⟩
  · intro i x hx
    rw [hw i x hx, hwt]
    rfl
  · rw [initL_len]
    exact q1
  · intro t
    rw [q2.mem_iff, hL]
    unfold ids
    simp only [List.mem_map, List.mem_filter]
    constructor
    · rintro ⟨x, ⟨h1, h2⟩, rfl⟩
      obtain ⟨i, hi⟩ := List.getElem?_of_mem h1
      refine ⟨i, x, hi, rfl, by simp, ?_⟩
      rw [hw i x hi]
      have : x.2 = [] := by simpa using h2
      rw [this]
      rfl
    · rintro ⟨i, x, hi, rfl, _, h2⟩
      rw [hw i x hi] at h2
      injection h2 with h2
      exact ⟨x, ⟨List.mem_of_getElem? hi, by simp [List.length_eq_zero_iff.1 h2]⟩, rfl⟩
  · simp
end Go.Proofs.Ytcimffpckcbdlaa

/- Chapter 22: what order.All's walk needs: items, the map, the rows of who waits, the heap's variable. -/
namespace Go.Proofs.Ytcimffpckcbdlaa
open Go.AM
noncomputable def aT := orT lenT (orT lennT (orT initT (orT initnT (orT hpopT hpushT))))
theorem aT_ok : CallsOk (cfgP nP) aT := orT_ok lenT_ok (orT_ok lennT_ok (orT_ok initT_ok (orT_ok initnT_ok (orT_ok hpopT_ok hpushT_ok))))
theorem lenT_nil {H : Hp} : lenT 17 [nilS] H = none := by
  unfold lenT relT
  rw [dif_neg]
  rintro ⟨_, p, _, h, _⟩
  injection h with h _
  cases h
theorem initT_nv (p : Nv) (hp : p.ok) : initT 16 [rIf p.b0] p.h = none := by
  unfold initT relT
  rw [dif_neg]
  rintro ⟨_, q, hq, h, hh⟩
  injection h with h _
  have e := rIf_inj h
  have h1 := hq.v
  rw [e, hh, hp] at h1
  injection h1 with h1
  injection h1 with _ _ h1
  injection h1 with h1 _
  cases h1
theorem a_len {H : Hp} {b g n : Nat} : aT 17 [.ex b g 1 0 n] H = some (.v (.int .i64 (n : Int)), H) := orT_l lenT_at
theorem a_lenn {H : Hp} : aT 17 [nilS] H = some (.v (.int .i64 0), H) := orT_r lenT_nil (orT_l lennT_at)
theorem a_init (p : Hs) (hp : p.ok) : aT 16 [rIf p.b0] p.h = some (.tup [], p.h') := orT_r (relT_none (by decide)) (orT_r (relT_none (by decide)) (orT_l (initT_at p hp)))
theorem a_initn (p : Nv) (hp : p.ok) : aT 16 [rIf p.b0] p.h = some (.tup [], p.h) := orT_r (relT_none (by decide)) (orT_r (relT_none (by decide)) (orT_r (initT_nv p hp) (orT_l (initnT_at p hp))))
theorem a_pop (p : Hs) (hp : p.ok) (hne : p.L ≠ []) : aT 18 [rIf p.b0] p.h = some (.iface 9 (str p.px), p.ph) := orT_r (relT_none (by decide)) (orT_r (relT_none (by decide)) (orT_r (relT_none (by decide)) (orT_r (relT_none (by decide)) (orT_l (hpopT_at p hp hne)))))
theorem a_push (p : Ph) (hp : p.ok) (hl : p.L.length < 1099511627775) : aT 19 [rIf p.b0, .iface 9 (str p.x)] p.h = some (.tup [], p.hh) := orT_r (relT_none (by decide)) (orT_r (relT_none (by decide)) (orT_r (relT_none (by decide)) (orT_r (relT_none (by decide)) (orT_r (relT_none (by decide)) (hpushT_at p hp hl)))))
/-! ### Items -/
def ItE (p : It) (x : AV) : Prop := ∃ N, x = .agg [str p.1, N] ∧ elems N = some (p.2.map str)
def ItsE : List It → List AV → Prop
  | [], ys => ys = []
  | p :: r, ys => ∃ y ys', ys = y :: ys' ∧ ItE p y ∧ ItsE r ys'
theorem ItsE.length : ∀ {l : List It} {ys : List AV}, ItsE l ys → ys.length = l.length
  | [], ys, h => by
    have h' : ys = [] := h
    rw [h']
    rfl
  | p :: r, ys, h => by
    obtain ⟨y, ys', rfl, _, h2⟩ := h
    simp [ItsE.length (l := r) h2]
theorem ItsE.get : ∀ {l : List It} {ys : List AV} {i : Nat} {p : It}, ItsE l ys → l[i]? = some p → ∃ N, ys[i]? = some (.agg [str p.1, N]) ∧ elems N = some (p.2.map str)
  | [], ys, i, p, h, hp => by simp at hp
  | q :: r, ys, 0, p, h, hp => by
    obtain ⟨y, ys', rfl, ⟨N, rfl, hN⟩, h2⟩ := h
    injection hp with hp
    subst hp
    exact ⟨N, rfl, hN⟩
  | q :: r, ys, i + 1, p, h, hp => by
    obtain ⟨y, ys', rfl, _, h2⟩ := h
    exact ItsE.get (l := r) (i := i) h2 hp
theorem elems_flat {x : AV} {xs : List AV} (h : elems x = some xs) : x.cells = [x] ∧ x.flat = true := by
  unfold elems at h
  split at h
  · exact ⟨rfl, rfl⟩
  · exact ⟨rfl, rfl⟩
  · exact ⟨rfl, rfl⟩
  · exact ⟨rfl, rfl⟩
  · cases h
section
variable {prim : FuncId → Option (List AV → Option AV)}
theorem p3 {cs : List AV} {j : Nat} : partA (cfgP prim) 3 cs j = cs[j]? := by kernel_rfl
theorem p25 {cs : List AV} {j : Nat} : partA (cfgP prim) 25 cs j = cs[j]? := by kernel_rfl
theorem p40 {cs : List AV} {j : Nat} : partA (cfgP prim) 40 cs j = cs[j]? := by kernel_rfl
theorem c3 : (cfgP prim).csz 3 = some 1 := by kernel_rfl
theorem c25 : (cfgP prim).csz 25 = some 1 := by kernel_rfl
theorem c40 : (cfgP prim).csz 40 = some 1 := by kernel_rfl
theorem p34 {x y : AV} : partA (cfgP prim) 34 [x, y] 0 = some (.agg [x, y]) := by kernel_rfl
theorem f0p {b g i j : Nat} : fieldAddrA (cfgP prim) 34 (.ptr b g i j) 0 = some (.ptr b g i (j + 0)) := by kernel_rfl
theorem f1p {b g i j : Nat} : fieldAddrA (cfgP prim) 34 (.ptr b g i j) 1 = some (.ptr b g i (j + 1)) := by kernel_rfl
theorem f0r {x : AV} {j : Nat} : fieldAddrA (cfgP prim) 34 (.rp x j) 0 = some (.rp x (j + 0)) := by kernel_rfl
theorem f1r {x : AV} {j : Nat} : fieldAddrA (cfgP prim) 34 (.rp x j) 1 = some (.rp x (j + 1)) := by kernel_rfl
theorem len22 {X : AV} {ys : List AV} (h : elems X = some ys) : lenA (cfgP prim) #[22] [X] = some (.v (.int .i64 ys.length)) := len_elems (e := 34) (by kernel_rfl) h
theorem len25 {X : AV} {ys : List AV} (h : elems X = some ys) : lenA (cfgP prim) #[25] [X] = some (.v (.int .i64 ys.length)) := len_elems (e := 9) (by kernel_rfl) h
theorem len40 {X : AV} {ys : List AV} (h : elems X = some ys) : lenA (cfgP prim) #[40] [X] = some (.v (.int .i64 ys.length)) := len_elems (e := 3) (by kernel_rfl) h
theorem ix22 {X : AV} {ys : List AV} {i : Nat} {k : IntKind} {x y : AV} (h : elems X = some ys) (hi : ys[i]? = some (.agg [x, y])) : indexAddrA (cfgP prim) 22 X (.v (.int k (i : Int))) = some (.rp (.agg [x, y]) 0) :=
  indexAddr_elems (e := 34) (n := 1) (by kernel_rfl) (by kernel_rfl) h hi rfl
theorem ix25 {X : AV} {ys : List AV} {i : Nat} {k : IntKind} {x : AV} (h : elems X = some ys) (hi : ys[i]? = some x) (hx : x.cells = [x]) : indexAddrA (cfgP prim) 25 X (.v (.int k (i : Int))) = some (.rp x 0) :=
  indexAddr_elems (e := 9) (n := 0) (by kernel_rfl) (by kernel_rfl) h hi (by rw [hx]; rfl)
theorem ix40 {X : AV} {ys : List AV} {i : Nat} {k : IntKind} {x : AV} (h : elems X = some ys) (hi : ys[i]? = some x) (hx : x.cells = [x]) : indexAddrA (cfgP prim) 40 X (.v (.int k (i : Int))) = some (.rp x 0) :=
  indexAddr_elems (e := 3) (n := 0) (by kernel_rfl) (by kernel_rfl) h hi (by rw [hx]; rfl)
theorem ixw {b n i : Nat} {k : IntKind} (h : i < n) : indexAddrA (cfgP prim) 40 (.ex b 0 1 0 n) (.v (.int k (i : Int))) = some (.ptr b 0 i 0) := by
  have h0 : (0 : Int) ≤ i := by omega
  have hu : (cfgP prim).und 40 = some (.slice 3) := by kernel_rfl
  simp only [indexAddrA, idx, h0, if_true, hu, c3, Int.toNat_natCast, h, and_self, Nat.zero_add]
theorem ixb {b n i : Nat} {k : IntKind} (h : i < n) : indexAddrA (cfgP prim) 41 (.ex b 0 1 0 n) (.v (.int k (i : Int))) = some (.ptr b 0 i 0) := by
  have h0 : (0 : Int) ≤ i := by omega
  have hu : (cfgP prim).und 41 = some (.slice 40) := by kernel_rfl
  simp only [indexAddrA, idx, h0, if_true, hu, c40, Int.toNat_natCast, h, and_self, Nat.zero_add]
theorem b40 {x : Int} : buildSliceA (cfgP prim) 40 1 [(0, .v (.int .i64 x))] = some (.cl true [.v (.int .i64 x)]) := by kernel_rfl
theorem b25 {x : Tx} : buildSliceA (cfgP prim) 25 1 [(0, str x)] = some (.cl true [str x]) := by kernel_rfl
end
/-! ### One block more -/
def nbk (h : Hp) (k : Blk) : Hp := { h with blks := h.blks ++ [k] }
theorem nbk_old {h : Hp} {k k' : Blk} {b : Nat} (hb : h.blks[b]? = some k) : (nbk h k').blks[b]? = some k := by
  show (h.blks ++ [k'])[b]? = some k
  rw [List.getElem?_append_left (List.getElem?_eq_some_iff.1 hb).1, hb]
theorem nbk_new {h : Hp} {k : Blk} : (nbk h k).blks[h.blks.length]? = some k := by
  show (h.blks ++ [k])[h.blks.length]? = some k
  simp
theorem nbk_ne {h : Hp} {k : Blk} {b : Nat} (hb : h.blks[b]? = some k) : b ≠ h.blks.length := by
  have := (List.getElem?_eq_some_iff.1 hb).1
  omega
section
variable {prim : FuncId → Option (List AV → Option AV)}
def itZ : Blk := ⟨0, 2, [.agg [str [], nilS]]⟩
def itB (a : Tx) (N : AV) : Blk := ⟨0, 2, [.agg [str a, N]]⟩
theorem al34 {H : Hp} : allocA (cfgP prim) 34 false H = some (.ptr H.blks.length 0 0 0, nbk H itZ, 4) := by
  have hz : zeroA (cfgP prim) 34 = some (.agg [str [], nilS]) := by kernel_rfl
  simp only [allocA, hz, Option.bind_some]
  rfl
theorem al42 {H : Hp} : allocA (cfgP prim) 42 false H = some (.ptr H.blks.length 0 0 0, nbk H ⟨0, 1, [nilS]⟩, 4) := by
  have hz : zeroA (cfgP prim) 42 = some nilS := by kernel_rfl
  simp only [allocA, hz, Option.bind_some]
  rfl
theorem st34 {H : Hp} {a : Tx} {N : AV} (hN : N.flat = true) : storeA (cfgP prim) 34 H.blks.length 0 0 0 (.agg [str a, N]) (nbk H itZ) = some (nbk H (itB a N)) := by
  have hb : (nbk H itZ).blks[H.blks.length]? = some ⟨0, 2, [.agg [str [], nilS]]⟩ := nbk_new
  rw [store_all (x := [str a, N]) hb (by kernel_rfl) rfl (by simp [hN]; rfl)]
  show some { nbk H itZ with blks := (H.blks ++ [itZ]).set H.blks.length (itB a N) } = _
  have : (H.blks ++ [itZ]).set H.blks.length (itB a N) = H.blks ++ [itB a N] := by
    rw [List.set_append_right _ _ (Nat.le_refl _), Nat.sub_self]
    rfl
  rw [this]
  rfl
theorem mk40 {H : Hp} {n : Nat} (hn : n < 1073741824) : makeA (cfgP prim) 40 (.v (.int .i64 (n : Int))) (.v (.int .i64 (n : Int))) H = some (.ex H.blks.length 0 1 0 n, nbk H ⟨0, 1, List.replicate n (.v (.int .i64 0))⟩) := by
  have he : elemT (cfgP prim) 40 = some 3 := by kernel_rfl
  have hz : zeroA (cfgP prim) 3 = some (.v (.int .i64 0)) := by kernel_rfl
  have hby : (cfgP prim).byt 3 = some 8 := by kernel_rfl
  have h0 : (0 : Int) ≤ n := by omega
  have hr : roomOk (cfgP prim) 3 n = true := by simp only [roomOk, hby, Bool.and_eq_true, decide_eq_true_eq]; omega
  simp only [makeA, he, idx, h0, if_true, Int.toNat_natCast, hz, c3, hr, true_and]
  rfl
theorem mk41 {H : Hp} {n : Nat} (hn : n < 1073741824) : makeA (cfgP prim) 41 (.v (.int .i64 (n : Int))) (.v (.int .i64 (n : Int))) H = some (.ex H.blks.length 0 1 0 n, nbk H ⟨0, 1, List.replicate n nilS⟩) := by
  have he : elemT (cfgP prim) 41 = some 40 := by kernel_rfl
  have hz : zeroA (cfgP prim) 40 = some nilS := by kernel_rfl
  have hby : (cfgP prim).byt 40 = some 24 := by kernel_rfl
  have h0 : (0 : Int) ≤ n := by omega
  have hr : roomOk (cfgP prim) 40 n = true := by simp only [roomOk, hby, Bool.and_eq_true, decide_eq_true_eq]; omega
  simp only [makeA, he, idx, h0, if_true, Int.toNat_natCast, hz, c40, hr, true_and]
  rfl
end
/-! ### The map -/
def LkM (h : Hp) (f : Tx → Option Nat) : Prop := ∃ es, h.mps = [es] ∧ ∀ t : Tx, lookM ⟨t.toArray⟩ es = (f t).map fun (k : Nat) => AV.v (.int .i64 (k : Int))
theorem ba_beq {a b : ByteArray} : (a == b) = true ↔ a = b := Go.MapKept.bytes_beq _ _
theorem lookM_put {b k : ByteArray} {x : AV} : ∀ {es : List (ByteArray × AV)}, lookM k (putM b x es) = if k = b then some x else lookM k es
  | [] => by
    unfold putM lookM
    by_cases h : k = b
    · rw [if_pos h, if_pos (ba_beq.2 h)]
    · rw [if_neg h, if_neg (by rw [ba_beq]; exact h)]
      rfl
  | p :: r => by
    unfold putM
    by_cases h : b = p.1
    · rw [if_pos (ba_beq.2 h)]
      unfold lookM
      by_cases hk : k = b
      · rw [if_pos hk, if_pos (ba_beq.2 hk)]
      · rw [if_neg hk, if_neg (by rw [ba_beq]; exact hk), if_neg (by rw [ba_beq, ← h]; exact hk)]
    · rw [if_neg (by rw [ba_beq]; exact h)]
      unfold lookM
      rw [lookM_put]
      by_cases hk : k = p.1
      · rw [if_pos (ba_beq.2 hk), if_neg (by rw [hk]; exact fun e => h e.symm), if_pos (ba_beq.2 hk)]
      · have hk' : ¬ (k == p.1) = true := by rw [ba_beq]; exact hk
        rw [if_neg hk', if_neg hk']
theorem ba_inj {a b : Tx} (h : (⟨a.toArray⟩ : ByteArray) = ⟨b.toArray⟩) : a = b := by
  injection h with h
  have := congrArg Array.toList h
  simpa using this
section
variable {prim : FuncId → Option (List AV → Option AV)}
theorem lk_some {h : Hp} {f : Tx → Option Nat} (L : LkM h f) {t : Tx} {k : Nat} (hf : f t = some k) {c : Bool} : lookA (cfgP prim) 31 (.mp 0) (str t) c h = some (if c then .tup [.v (.int .i64 (k : Int)), .v (.bool true)] else .v (.int .i64 (k : Int))) := by
  obtain ⟨es, h1, h2⟩ := L
  have hu : (cfgP prim).und 31 = some (.map 9 3) := by kernel_rfl
  show lookA (cfgP prim) 31 (.mp 0) (.v (.string ⟨t.toArray⟩)) c h = _
  simp only [lookA, hu, u9, h1, List.getElem?_cons_zero, h2 t, hf, Option.map_some]
theorem lk_none {h : Hp} {f : Tx → Option Nat} (L : LkM h f) {t : Tx} (hf : f t = none) {c : Bool} : lookA (cfgP prim) 31 (.mp 0) (str t) c h = some (if c then .tup [.v (.int .i64 0), .v (.bool false)] else .v (.int .i64 0)) := by
  obtain ⟨es, h1, h2⟩ := L
  have hu : (cfgP prim).und 31 = some (.map 9 3) := by kernel_rfl
  have hz : zeroA (cfgP prim) 3 = some (.v (.int .i64 0)) := by kernel_rfl
  show lookA (cfgP prim) 31 (.mp 0) (.v (.string ⟨t.toArray⟩)) c h = _
  simp only [lookA, hu, u9, h1, List.getElem?_cons_zero, h2 t, hf, Option.map_none, hz, Option.map_some]
def putH (h : Hp) (t : Tx) (k : Nat) : Hp := { h with mps := [putM ⟨t.toArray⟩ (.v (.int .i64 (k : Int))) (h.mps.headD [])] }
theorem up_map {h : Hp} {f : Tx → Option Nat} (L : LkM h f) {t : Tx} {k : Nat} : mapUpdA (cfgP prim) 31 (.mp 0) (str t) (.v (.int .i64 (k : Int))) h = some (.undef, putH h t k) := by
  obtain ⟨es, h1, h2⟩ := L
  have hu : (cfgP prim).und 31 = some (.map 9 3) := by kernel_rfl
  show mapUpdA (cfgP prim) 31 (.mp 0) (.v (.string ⟨t.toArray⟩)) (.v (.int .i64 (k : Int))) h = _
  simp only [mapUpdA, hu, u9, h1, List.getElem?_cons_zero, putH]
  rfl
theorem putH_lk {h : Hp} {f g : Tx → Option Nat} (L : LkM h f) {t : Tx} {k : Nat} (hg : ∀ s, g s = if s = t then some k else f s) : LkM (putH h t k) g := by
  obtain ⟨es, h1, h2⟩ := L
  refine ⟨_, rfl, fun s => ?_⟩
  rw [h1]
  show lookM ⟨s.toArray⟩ (putM ⟨t.toArray⟩ _ es) = _
  rw [lookM_put, hg]
  by_cases hs : s = t
  · subst hs
    simp
  · rw [if_neg hs, if_neg (fun e => hs (ba_inj e)), h2]
end
theorem plc_snoc {a : List It} {x : It} {t : Tx} (hx : plc a x.1 = none) : plc (a ++ [x]) t = if t = x.1 then some a.length else plc a t := by
  unfold plc at hx ⊢
  rw [List.findIdx?_append]
  by_cases h : t = x.1
  · subst h
    rw [hx, if_pos rfl]
    simp
  · rw [if_neg h]
    have : (x.1 == t) = false := by simpa using fun e : x.1 = t => h e.symm
    simp [List.findIdx?_cons, this]
/-! ### The heap of the walk -/
def ints (ws : List Nat) : List AV := ws.map fun (n : Nat) => AV.v (.int .i64 (n : Int))
structure AH (h : Hp) (l : List It) (ws : List Nat) (cs : List AV) (B : Nat → List Nat) (bw bb bh : Nat) : Prop where
  mp : LkM h (plc l)
  w : h.blks[bw]? = some ⟨0, 1, ints ws⟩
  b : h.blks[bb]? = some ⟨0, 1, cs⟩
  wl : ws.length = l.length
  cl : cs.length = l.length
  ce : ∀ (k : Nat) (c : AV), cs[k]? = some c → elems c = some (ints (B k))
  d1 : bw ≠ bb
  d2 : bw ≠ bh
  d3 : bb ≠ bh
def HV (h : Hp) (bw bb bh : Nat) (R : List Tx) : Prop := (R = [] ∧ h.blks[bh]? = some ⟨0, 1, [nilS]⟩) ∨ ∃ br g r, Rd h bh br g R r ∧ br ≠ bw ∧ br ≠ bb
structure TokOk (h : Hp) (cs : List AV) : Prop where
  t1 : ∀ (k t : Nat) (xs : List AV), cs[k]? = some (.ap t xs) → h.toks[t]? = some (xs.length, 3)
  t2 : ∀ (k k' t : Nat) (xs xs' : List AV), cs[k]? = some (.ap t xs) → cs[k']? = some (.ap t xs') → k = k'
  t3 : ∀ (k : Nat) (c : AV), cs[k]? = some c → c = nilS ∨ ∃ t xs, c = .ap t xs
theorem LkM.of {h h' : Hp} {f : Tx → Option Nat} (L : LkM h f) (e : h'.mps = h.mps) : LkM h' f := by
  obtain ⟨es, h1, h2⟩ := L
  exact ⟨es, e.trans h1, h2⟩
theorem AH.nbk {h : Hp} {l : List It} {ws : List Nat} {cs : List AV} {B : Nat → List Nat} {bw bb bh : Nat} (A : AH h l ws cs B bw bb bh) {k : Blk} : AH (nbk h k) l ws cs B bw bb bh :=
  ⟨A.mp.of rfl, nbk_old A.w, nbk_old A.b, A.wl, A.cl, A.ce, A.d1, A.d2, A.d3⟩
/-- Something else is turned. -/
theorem AH.set {h : Hp} {l : List It} {ws : List Nat} {cs : List AV} {B : Nat → List Nat} {bw bb bh : Nat} (A : AH h l ws cs B bw bb bh) {b : Nat} {k : Blk} (h1 : b ≠ bw) (h2 : b ≠ bb) : AH { h with blks := h.blks.set b k } l ws cs B bw bb bh :=
  ⟨A.mp.of rfl, by rw [List.getElem?_set_ne h1]; exact A.w, by rw [List.getElem?_set_ne h2]; exact A.b, A.wl, A.cl, A.ce, A.d1, A.d2, A.d3⟩
def setW (h : Hp) (b : Nat) (cs : List AV) : Hp := { h with blks := h.blks.set b ⟨0, 1, cs⟩ }
theorem AH.setw {h : Hp} {l : List It} {ws ws' : List Nat} {cs : List AV} {B : Nat → List Nat} {bw bb bh : Nat} (A : AH h l ws cs B bw bb bh) (hl : ws'.length = l.length) : AH (setW h bw (ints ws')) l ws' cs B bw bb bh :=
  ⟨A.mp.of rfl, by
    show (h.blks.set bw _)[bw]? = _
    rw [List.getElem?_set_self (List.getElem?_eq_some_iff.1 A.w).1], by
    show (h.blks.set bw _)[bb]? = _
    rw [List.getElem?_set_ne A.d1]; exact A.b, hl, A.cl, A.ce, A.d1, A.d2, A.d3⟩
theorem AH.setb {h : Hp} {l : List It} {ws : List Nat} {cs cs' : List AV} {B B' : Nat → List Nat} {bw bb bh : Nat} (A : AH h l ws cs B bw bb bh) (hl : cs'.length = l.length) (hc : ∀ (k : Nat) (c : AV), cs'[k]? = some c → elems c = some (ints (B' k))) : AH (setW h bb cs') l ws cs' B' bw bb bh :=
  ⟨A.mp.of rfl, by
    show (h.blks.set bb _)[bw]? = _
    rw [List.getElem?_set_ne (fun e => A.d1 e.symm)]; exact A.w, by
    show (h.blks.set bb _)[bb]? = _
    rw [List.getElem?_set_self (List.getElem?_eq_some_iff.1 A.b).1], A.wl, hl, hc, A.d1, A.d2, A.d3⟩
theorem AH.toks {h : Hp} {l : List It} {ws : List Nat} {cs : List AV} {B : Nat → List Nat} {bw bb bh : Nat} (A : AH h l ws cs B bw bb bh) (T : List (Nat × TypeId)) : AH { h with toks := T } l ws cs B bw bb bh :=
  ⟨A.mp.of rfl, A.w, A.b, A.wl, A.cl, A.ce, A.d1, A.d2, A.d3⟩
theorem AH.rS {h : Hp} {l : List It} {ws : List Nat} {cs : List AV} {B : Nat → List Nat} {bw bb bh : Nat} (A : AH h l ws cs B bw bb bh) {br g n : Nat} {L : List Tx} {r : List AV} (h1 : br ≠ bw) (h2 : br ≠ bb) : AH (rS h bh br g n L r) l ws cs B bw bb bh :=
  AH.set (AH.set A h1 h2) (fun e => A.d2 e.symm) (fun e => A.d3 e.symm)
theorem rd_set {h : Hp} {b0 b g : Nat} {L : List Tx} {r : List AV} (R : Rd h b0 b g L r) {c : Nat} {k : Blk} (h1 : c ≠ b0) (h2 : c ≠ b) : Rd { h with blks := h.blks.set c k } b0 b g L r :=
  ⟨by rw [List.getElem?_set_ne h1]; exact R.v, by rw [List.getElem?_set_ne h2]; exact R.w, R.n, R.l⟩
theorem rd_nbk {h : Hp} {b0 b g : Nat} {L : List Tx} {r : List AV} (R : Rd h b0 b g L r) {k : Blk} : Rd (nbk h k) b0 b g L r := ⟨nbk_old R.v, nbk_old R.w, R.n, R.l⟩
theorem HV.set {h : Hp} {bw bb bh : Nat} {R : List Tx} (V : HV h bw bb bh R) {c : Nat} {k : Blk} (h1 : c ≠ bh) (h2 : c = bw ∨ c = bb) : HV { h with blks := h.blks.set c k } bw bb bh R := by
  rcases V with ⟨e, hv⟩ | ⟨br, g, r, hr, n1, n2⟩
  · exact .inl ⟨e, by rw [List.getElem?_set_ne h1]; exact hv⟩
  · refine .inr ⟨br, g, r, rd_set hr h1 ?_, n1, n2⟩
    rcases h2 with rfl | rfl
    · exact fun e => n1 e.symm
    · exact fun e => n2 e.symm
theorem HV.nbk {h : Hp} {bw bb bh : Nat} {R : List Tx} (V : HV h bw bb bh R) {k : Blk} : HV (nbk h k) bw bb bh R := by
  rcases V with ⟨e, hv⟩ | ⟨br, g, r, hr, n1, n2⟩
  · exact .inl ⟨e, nbk_old hv⟩
  · exact .inr ⟨br, g, r, rd_nbk hr, n1, n2⟩
theorem HV.toks {h : Hp} {bw bb bh : Nat} {R : List Tx} (V : HV h bw bb bh R) (T : List (Nat × TypeId)) : HV { h with toks := T } bw bb bh R := by
  rcases V with ⟨e, hv⟩ | ⟨br, g, r, hr, n1, n2⟩
  · exact .inl ⟨e, hv⟩
  · exact .inr ⟨br, g, r, ⟨hr.v, hr.w, hr.n, hr.l⟩, n1, n2⟩
theorem ints_get {ws : List Nat} {i w : Nat} (h : ws[i]? = some w) : (ints ws)[i]? = some (.v (.int .i64 (w : Int))) := by
  unfold ints
  rw [List.getElem?_map, h]
  rfl
theorem ints_set {ws : List Nat} {i w : Nat} : (ints ws).set i (.v (.int .i64 (w : Int))) = ints (ws.set i w) := by
  unfold ints
  rw [List.map_set]
theorem ints_len {ws : List Nat} : (ints ws).length = ws.length := List.length_map ..
theorem st_w {prim : FuncId → Option (List AV → Option AV)} {h : Hp} {b i w v : Nat} {ws : List Nat} (hb : h.blks[b]? = some ⟨0, 1, ints ws⟩) (hi : ws[i]? = some v) : storeA (cfgP prim) 3 b 0 i 0 (.v (.int .i64 (w : Int))) h = some (setW h b (ints (ws.set i w))) := by
  rw [store_row (C := cfgP prim) (t := 3) hb rfl rfl c3 (ints_get hi) (fun cs h => by cases h), ints_set]
  rfl
/-! ### One more that waits -/
theorem appA40 {prim : FuncId → Option (List AV → Option AV)} {h : Hp} {cs : List AV} {c : AV} {k i : Nat} {xs : List AV} (T : TokOk h cs) (hk : cs[k]? = some c) (he : elems c = some xs) (hx : ∀ x ∈ xs, x.cells.length = 1) (hl : xs.length < 1073741824) :
    ∃ c' T', appA (cfgP prim) #[40, 40] [c, .cl true [.v (.int .i64 (i : Int))]] h = some (c', { h with toks := T' }) ∧ elems c' = some (xs ++ [.v (.int .i64 (i : Int))]) ∧ TokOk { h with toks := T' } (cs.set k c') ∧ c'.cells = [c'] ∧ c'.flat = true := by
  have h0 : ((#[40, 40] : Array TypeId)[0]?).bind (elemT (cfgP prim)) = some 3 := by kernel_rfl
  have h1 : ((#[40, 40] : Array TypeId)[1]?).bind (cfgP prim).und = some (.slice 3) := by kernel_rfl
  have hz : zeroA (cfgP prim) 3 = some (.v (.int .i64 0)) := by kernel_rfl
  have hby : (cfgP prim).byt 3 = some 8 := by kernel_rfl
  have hzl : (AV.v (.int .i64 0)).cells.length = 1 := rfl
  have hil : (AV.v (.int .i64 (i : Int))).cells.length = 0 + 1 := rfl
  have hkl := (List.getElem?_eq_some_iff.1 hk).1
  rcases T.t3 k c hk with rfl | ⟨t, ys, rfl⟩
  · have hxs : xs = [] := by
      injection he with he
      exact he.symm
    subst hxs
    have hr : roomOk (cfgP prim) 3 1 = true := by simp only [roomOk, hby]; rfl
    refine ⟨.ap h.toks.length [.v (.int .i64 (i : Int))], h.toks ++ [(1, 3)], ?_, rfl, ⟨?_, ?_, ?_⟩, rfl, rfl⟩
    · simp only [appA, h0, h1, hz, c3, hzl, if_true, appendA, srcA, elems, hil, ne_eq, not_true, if_false, hr, List.length_singleton]
    · intro k' t xs hc
      by_cases e : k' = k
      · subst e
        rw [List.getElem?_set_self hkl] at hc
        injection hc with hc
        injection hc with e1 e2
        subst e1 e2
        show (h.toks ++ [(1, 3)])[h.toks.length]? = _
        simp
      · rw [List.getElem?_set_ne (fun e' => e e'.symm)] at hc
        have := T.t1 k' t xs hc
        show (h.toks ++ [(1, 3)])[t]? = _
        rw [List.getElem?_append_left (List.getElem?_eq_some_iff.1 this).1, this]
    · intro k1 k2 t xs xs' h1 h2
      by_cases e1 : k1 = k
      · by_cases e2 : k2 = k
        · rw [e1, e2]
        · subst e1
          rw [List.getElem?_set_self hkl] at h1
          rw [List.getElem?_set_ne (fun e' => e2 e'.symm)] at h2
          injection h1 with h1
          injection h1 with h1 _
          have := (List.getElem?_eq_some_iff.1 (T.t1 k2 t xs' h2)).1
          omega
      · rw [List.getElem?_set_ne (fun e' => e1 e'.symm)] at h1
        by_cases e2 : k2 = k
        · subst e2
          rw [List.getElem?_set_self hkl] at h2
          injection h2 with h2
          injection h2 with h2 _
          have := (List.getElem?_eq_some_iff.1 (T.t1 k1 t xs h1)).1
          omega
        · rw [List.getElem?_set_ne (fun e' => e2 e'.symm)] at h2
          exact T.t2 k1 k2 t xs xs' h1 h2
    · intro k' c' hc
      by_cases e : k' = k
      · subst e
        rw [List.getElem?_set_self hkl] at hc
        injection hc with hc
        exact .inr ⟨_, _, hc.symm⟩
      · rw [List.getElem?_set_ne (fun e' => e e'.symm)] at hc
        exact T.t3 k' c' hc
  · have hys : ys = xs := by
      injection he with he
    subst hys
    have ht := T.t1 k t ys hk
    have htl := (List.getElem?_eq_some_iff.1 ht).1
    have hsz : szOk ys (0 + 1) = true := szOk_sized (n := 1) fun x h => hx x h
    have hr : roomOk (cfgP prim) 3 (ys.length + 1) = true := by simp only [roomOk, hby, Bool.and_eq_true, decide_eq_true_eq]; omega
    refine ⟨.ap t (ys ++ [.v (.int .i64 (i : Int))]), h.toks.set t (ys.length + 1, 3), ?_, rfl, ⟨?_, ?_, ?_⟩, rfl, rfl⟩
    · simp only [appA, h0, h1, hz, c3, hzl, if_true, appendA, srcA, elems, hil, ne_eq, not_true, if_false, ht, hsz, hr, and_self, if_true, List.length_singleton]
    · intro k' t' xs hc
      by_cases e : k' = k
      · subst e
        rw [List.getElem?_set_self hkl] at hc
        injection hc with hc
        injection hc with e1 e2
        subst e1 e2
        show (h.toks.set t _)[t]? = _
        rw [List.getElem?_set_self htl, List.length_append, List.length_singleton]
      · rw [List.getElem?_set_ne (fun e' => e e'.symm)] at hc
        have := T.t1 k' t' xs hc
        show (h.toks.set t _)[t']? = _
        rw [List.getElem?_set_ne, this]
        rintro rfl
        exact e (T.t2 _ _ _ _ _ hc hk)
    · intro k1 k2 t' xs xs' h1 h2
      by_cases e1 : k1 = k
      · by_cases e2 : k2 = k
        · rw [e1, e2]
        · subst e1
          rw [List.getElem?_set_self hkl] at h1
          rw [List.getElem?_set_ne (fun e' => e2 e'.symm)] at h2
          injection h1 with h1
          injection h1 with h1 _
          subst h1
          exact T.t2 _ _ _ _ _ hk h2
      · rw [List.getElem?_set_ne (fun e' => e1 e'.symm)] at h1
        by_cases e2 : k2 = k
        · subst e2
          rw [List.getElem?_set_self hkl] at h2
          injection h2 with h2
          injection h2 with h2 _
          subst h2
          exact T.t2 _ _ _ _ _ h1 hk
        · rw [List.getElem?_set_ne (fun e' => e2 e'.symm)] at h2
          exact T.t2 k1 k2 t' xs xs' h1 h2
    · intro k' c' hc
      by_cases e : k' = k
      · subst e
        rw [List.getElem?_set_self hkl] at hc
        injection hc with hc
        exact .inr ⟨_, _, hc.symm⟩
      · rw [List.getElem?_set_ne (fun e' => e e'.symm)] at hc
        exact T.t3 k' c' hc
theorem TokOk.of {h h' : Hp} {cs : List AV} (T : TokOk h cs) (e : h'.toks = h.toks) : TokOk h' cs := ⟨fun k t xs hc => by rw [e]; exact T.t1 k t xs hc, T.t2, T.t3⟩
/-! ### What is told grows -/
def OutOk (h : Hp) (v : AV) (out : List Tx) : Prop := (out = [] ∧ v = nilS) ∨ (out ≠ [] ∧ ∃ t, v = .ap t (out.map str) ∧ h.toks[t]? = some (out.length, 9))
theorem OutOk.of {h h' : Hp} {v : AV} {out : List Tx} (O : OutOk h v out) (e : h'.toks = h.toks) : OutOk h' v out := by
  rcases O with O | ⟨h1, t, h2, h3⟩
  · exact .inl O
  · exact .inr ⟨h1, t, h2, by rw [e]; exact h3⟩
theorem OutOk.el {h : Hp} {v : AV} {out : List Tx} (O : OutOk h v out) : elems v = some (out.map str) := by
  rcases O with ⟨rfl, rfl⟩ | ⟨h1, t, rfl, h3⟩
  · rfl
  · rfl
theorem appA25 {prim : FuncId → Option (List AV → Option AV)} {h : Hp} {v : AV} {out : List Tx} {x : Tx} (O : OutOk h v out) (hl : out.length < 1073741824) :
    ∃ v' T', appA (cfgP prim) #[25, 25] [v, .cl true [str x]] h = some (v', { h with toks := T' }) ∧ OutOk { h with toks := T' } v' (out ++ [x]) := by
  have h0 : ((#[25, 25] : Array TypeId)[0]?).bind (elemT (cfgP prim)) = some 9 := by kernel_rfl
  have h1 : ((#[25, 25] : Array TypeId)[1]?).bind (cfgP prim).und = some (.slice 9) := by kernel_rfl
  have hz : zeroA (cfgP prim) 9 = some (str []) := by kernel_rfl
  have hby : (cfgP prim).byt 9 = some 16 := by kernel_rfl
  have hzl : (str []).cells.length = 1 := rfl
  have hil : (str x).cells.length = 0 + 1 := rfl
  rcases O with ⟨rfl, rfl⟩ | ⟨hne, t, rfl, ht⟩
  · have hr : roomOk (cfgP prim) 9 1 = true := by simp only [roomOk, hby]; rfl
    refine ⟨.ap h.toks.length [str x], h.toks ++ [(1, 9)], ?_, .inr ⟨by simp, h.toks.length, rfl, by simp⟩⟩
    simp only [appA, h0, h1, hz, c9, hzl, if_true, appendA, srcA, elems, hil, ne_eq, not_true, if_false, hr, List.length_singleton]
  · have htl := (List.getElem?_eq_some_iff.1 ht).1
    have hsz : szOk (out.map str) (0 + 1) = true := szOk_sized (n := 1) fun y hy => by
      obtain ⟨z, _, rfl⟩ := List.mem_map.1 hy
      rfl
    have hml : (out.map str).length = out.length := List.length_map ..
    have hr : roomOk (cfgP prim) 9 (out.length + 1) = true := by simp only [roomOk, hby, Bool.and_eq_true, decide_eq_true_eq]; omega
    refine ⟨.ap t (out.map str ++ [str x]), h.toks.set t (out.length + 1, 9), ?_, .inr ⟨by simp, t, by simp, by rw [List.getElem?_set_self htl]; simp⟩⟩
    simp only [appA, h0, h1, hz, c9, hzl, if_true, appendA, srcA, elems, hil, ne_eq, not_true, if_false, hml, ht, hsz, hr, and_self, if_true, List.length_singleton]
end Go.Proofs.Ytcimffpckcbdlaa
