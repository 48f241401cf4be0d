/- Contracts of functions, and plain facts about what they compute. -/
import Derived.Test.YtjejeijldllloaaDoorWg
import Derived.Test.YtjejeijldllloaaDoorAmD
set_option linter.unusedSimpArgs false
set_option linter.unusedVariables false
/- slices.Insert of one member, into a row of its own: whatever room it has. -/
namespace Go.Proofs.YtjejeijldllloaaDoor
open Go.AM
section
variable {prim : FuncId → Option (List AV → Option AV)}
end
section
variable {b0 b1 : Blk} {g c i k n : Nat} {us ws : List AV} {y : AV}
end
end Go.Proofs.YtjejeijldllloaaDoor

/- slices.Insert of one member, as one contract. -/
namespace Go.Proofs.YtjejeijldllloaaDoor
open Go.AM
structure In where
  c0 : List AV
  c1 : List AV
  es : List E
  i : Nat
  z : E
structure In.ok (p : In) : Prop where
  h0 : ∀ c ∈ p.c0, c.bare = some c ∨ ∃ b g n, b < 3 ∧ c = .ex b g 6 0 n
  h1 : ∀ c ∈ p.c1, c.bare = some c ∨ ∃ b g n, b < 3 ∧ c = .ex b g 6 0 n
  o : okL p.es
  z : okE p.z
  i : p.i ≤ p.es.length
  l : p.es.length < 1073741824
def In.args (p : In) : List AV := [.ex 2 0 6 0 p.es.length, .v (.int .i64 (p.i : Int)), .cl true [enc p.z]]
def In.H (p : In) : Hp := nH [⟨0, 5, [.agg p.c0]⟩, ⟨0, 5, [.agg p.c1]⟩, ⟨0, 6, p.es.map enc⟩]
def In.r (p : In) : AV := .ex 2 (insG 0) 6 0 (p.es.length + 1)
/-! ### Into nothing -/
end Go.Proofs.YtjejeijldllloaaDoor

/- Chapter 2: Set with a new key: its walk. -/
namespace Go.Proofs.YtjejeijldllloaaDoor
open Go.AM
/-- Where a member goes into what rises. -/
def insK (p : List UInt8 × GV) : List (List UInt8 × GV) → List (List UInt8 × GV)
  | [] => [p]
  | y :: r => if bl y.1 p.1 = true then y :: insK p r else if y.1 = p.1 then p :: r else p :: y :: r
theorem fms_insK : ∀ {m : List (List UInt8 × GV)} {es : List E} {p : List UInt8 × GV} {q : E}, FMs m (es.map enc) → FMp p (enc q) → FMs (insK p m) ((insR q es).map enc)
  | [], [], _, _, _, hp => ⟨_, _, rfl, hp, rfl⟩
  | [], e :: es, _, _, h, _ => by cases (show (e :: es).map enc = [] from h)
  | p :: r, [], _, _, h, _ => by obtain ⟨y, ys, e, _⟩ := h; cases e
  | p :: r, e :: es, a, q, h, hp => by
    obtain ⟨y, ys, h0, h1, h2⟩ := h
    injection h0 with h3 h4
    subst h3 h4
    have k1 := fmp_key h1
    have k2 := fmp_key hp
    rw [insK, insR, k1, k2]
    split
    · exact ⟨_, _, rfl, h1, fms_insK h2 hp⟩
    · split
      · exact ⟨_, _, rfl, hp, h2⟩
      · exact ⟨_, _, rfl, hp, _, _, rfl, h1, h2⟩
theorem insK_len (p : List UInt8 × GV) : ∀ m, (insK p m).length ≤ m.length + 1
  | [] => by simp [insK]
  | y :: r => by
    have := insK_len p r
    rw [insK]
    split
    · simp only [List.length_cons]; omega
    · split <;> simp only [List.length_cons] <;> omega
def GV.putG (key : List UInt8) (w : GV) : GV → GV
  | .mk k n s l m => if k = 5 then .mk k n s l (insK (key, w) m) else .mk k n s l m
def putR (x : AV) (es : List E) : AV := match x with
  | .agg [k, n, s, L, _] => .agg [k, n, s, L, .ro (es.map enc)]
  | y => y
structure Sn where
  v : GV
  x : AV
  es : List E
  key : List UInt8
  w : GV
  ys : List AV
structure Sn.ok (p : Sn) : Prop where
  f : FV p.v p.x
  s : p.v.sml
  r : p.v.rise
  k : p.v.kind = 5
  m : memsA p.x = p.es.map enc
  l : p.es.length < 1000000000
  w : FV p.w (.agg p.ys)
  kl : p.key.length ≤ 9223372036854775807
def Sn.args (p : Sn) : List AV := [p.x, str p.key, .agg p.ys]
def Sn.res (p : Sn) : AV := putR p.x (insR (p.key, p.ys) p.es)
theorem Sn.facts {p : Sn} (h : p.ok) : ∃ n s l m L M, p.v = .mk 5 n s l m ∧ p.x = .agg [.v (.int .i64 5), .v (.int .i64 n), str s, L, M] ∧ elems M = some (p.es.map enc) ∧ slK M ∧ FMs m (p.es.map enc) ∧ okL p.es ∧ (∀ q ∈ p.es, okT q) ∧ Str p.es ∧ p.es.map Prod.fst = m.map Prod.fst := by
  obtain ⟨v, x, es, key, w, ys⟩ := p
  obtain ⟨hf, hs, hr, hk, hm, hl, hw⟩ := h
  simp only at hf hs hr hk hm hl hw ⊢
  cases v with
  | mk k n s l m =>
    have k5 : k = 5 := hk
    subst k5
    obtain ⟨L, M, xs, zs, rfl, hL, hM, k1, k2, b1, b2, f1, f2, sl, hl', hm', hv, hwm⟩ := hf
    have hys : zs = es.map enc := by simpa [memsA, hM] using hm
    subst hys
    obtain ⟨es', hes, ho, hT⟩ := fms_encs hwm
    obtain rfl := encs_inj hes
    have hks := fms_keys hwm
    exact ⟨n, s, l, m, L, M, rfl, rfl, hM, k2, hwm, ho, fun q hq => (hT q hq).1, str_keys (by rw [hks]; exact List.pairwise_map.2 (hr rfl)), hks⟩
theorem Sn.res_fv {p : Sn} (h : p.ok) : FV (GV.putG p.key p.w p.v) p.res := by
  obtain ⟨n, s, l, m, L, M, hv, hx, hM, hk2, hwm, ho, hT, hstr, hks⟩ := Sn.facts h
  have hf := h.f
  have hfm : FMp (p.key, p.w) (enc (p.key, p.ys)) := ⟨p.ys, rfl, h.kl, h.w⟩
  have hset := fms_insK hwm hfm
  have hml : m.length = p.es.length := by rw [← hwm.len, List.length_map]
  have hl := h.l
  unfold Sn.res
  rw [hv, hx] at hf ⊢
  obtain ⟨L', M', xs, zs, e, hL, hM', k1, k2, b1, b2, f1, f2, sl, hl', hm', hvv, _⟩ := hf
  injection e with e
  injection e with _ e
  injection e with _ e
  injection e with _ e
  injection e with e1 e
  injection e with e2 _
  subst e1 e2
  exact ⟨L, _, xs, _, rfl, hL, rfl, k1, .inr ⟨rfl, rfl⟩, b1, rfl, f1, rfl, sl, hl', by have := insK_len (p.key, p.w) m; omega, hvv, hset⟩
end Go.Proofs.YtjejeijldllloaaDoor

/- Chapter 2: IntAt, the program's and the document's. -/
namespace Go.Proofs.YtjejeijldllloaaDoor
open Go.AM
end Go.Proofs.YtjejeijldllloaaDoor

/- Chapter 2: Set, the program's and the document's, of whatever value. -/
namespace Go.Proofs.YtjejeijldllloaaDoor
open Go.AM
structure Sn.okA (p : Sn) : Prop where
  f : FV p.v p.x
  s : p.v.sml
  r : p.v.rise
  m : memsA p.x = p.es.map enc
  l : p.es.length < 1000000000
  w : FV p.w (.agg p.ys)
  kl : p.key.length ≤ 9223372036854775807
theorem Sn.okA.ok {p : Sn} (h : p.okA) (hk : p.v.kind = 5) : p.ok := ⟨h.f, h.s, h.r, hk, h.m, h.l, h.w, h.kl⟩
theorem Sn.inj {p q : Sn} (hp : p.okA) (hq : q.okA) (e : p.args = q.args) : p.v = q.v ∧ p.x = q.x ∧ p.es = q.es ∧ p.key = q.key ∧ p.ys = q.ys := by
  injection e with e1 e
  injection e with e2 e
  injection e with e3 _
  injection e3 with e3
  have h1 := hp.f.rv
  rw [e1] at h1
  have hm := hp.m
  rw [e1, hq.m] at hm
  exact ⟨RV.uniq h1 hq.f.rv, e1, (encs_inj hm).symm, str_inj e2, e3⟩
/-! ### The document's -/
end Go.Proofs.YtjejeijldllloaaDoor

/- Chapter 2: plain facts of Set: what is light is not deep; what was put. -/
namespace Go.Proofs.YtjejeijldllloaaDoor
open Go.AM
theorem wts_each {most : Int} (m0 : 0 ≤ most) (m1 : most ≤ 1000000) : ∀ {d n : Int} {l : List GV}, GV.smls l → 0 ≤ d → d ≤ 71 → 1 ≤ n → n ≤ most → GV.wts most d n l ≤ most → ∀ p ∈ l, GV.wt most d p ≤ most
  | d, n, [], _, _, _, _, _, _, p, hp => by cases hp
  | d, n, q :: r, h, h0, h1, g0, g1, hw, p, hp => by
    obtain ⟨a1, a2⟩ := h
    rw [GV.wts] at hw
    split at hw
    · have b := wt_bnd m0 m1 a1 h0 h1
      rw [wrap64 (n := n + GV.wt most d q) (by omega) (by omega)] at hw
      have c := wts_bnd m0 m1 (n := n + GV.wt most d q) a2 h0 h1 (by omega) (by omega)
      rcases List.mem_cons.1 hp with rfl | hp
      · omega
      · exact wts_each m0 m1 a2 h0 h1 (by omega) (by omega) hw p hp
    · omega
theorem dws_le {b : Int} (hb : 0 ≤ b) : ∀ {l : List GV}, (∀ v ∈ l, v.dw ≤ b) → GV.dws l ≤ b
  | [], _ => hb
  | v :: r, h => by
    have h1 := h v (by simp)
    have h2 := dws_le hb (l := r) fun w hw => h w (by simp [hw])
    rw [GV.dws]
    omega
theorem dwm_le {b : Int} (hb : 0 ≤ b) : ∀ {l : List (List UInt8 × GV)}, (∀ v ∈ l, v.2.dw ≤ b) → GV.dwm l ≤ b
  | [], _ => hb
  | (k, v) :: r, h => by
    have h1 := h (k, v) (by simp)
    have h2 := dwm_le hb (l := r) fun w hw => h w (by simp [hw])
    have h1 : v.dw ≤ b := h1
    rw [GV.dwm, GV.dwp]
    omega
theorem dws_nn : ∀ {l : List GV}, 0 ≤ GV.dws l
  | [] => by simp [GV.dws]
  | v :: r => by
    have := dws_nn (l := r)
    rw [GV.dws]
    omega
theorem dwm_nn : ∀ {l : List (List UInt8 × GV)}, 0 ≤ GV.dwm l
  | [] => by simp [GV.dwm]
  | (k, v) :: r => by
    have := dwm_nn (l := r)
    rw [GV.dwm]
    omega
theorem dwm_mem : ∀ {l : List (List UInt8 × GV)} {p : List UInt8 × GV}, p ∈ l → p.2.dw ≤ GV.dwm l
  | (k, v) :: r, p, h => by
    rw [GV.dwm, GV.dwp]
    rcases List.mem_cons.1 h with rfl | h
    · show v.dw ≤ _; omega
    · have := dwm_mem h; omega
theorem smls_all : ∀ {l : List GV}, GV.smls l → ∀ v ∈ l, v.sml
  | v :: r, h, w, hw => by
    rcases List.mem_cons.1 hw with rfl | hw
    · exact h.1
    · exact smls_all h.2 w hw
/-- What is light is not deep. -/
theorem light_dw {most : Int} (m0 : 0 ≤ most) (m1 : most ≤ 1000000) : ∀ (N : Nat) {d : Int} {v : GV}, v.sz < N → v.sml → 0 ≤ d → d ≤ 71 → GV.wt most d v ≤ most → v.dw ≤ 71 - d
  | 0, _, _, hN, _, _, _, _ => by omega
  | N + 1, d, .mk k n s l m, hN, hs, h0, h1, hw => by
    by_cases hd : 70 < d
    · rw [GV.wt, if_pos hd, wrap64 (by omega) (by omega)] at hw
      omega
    obtain ⟨a1, a2, a3, a4, a5⟩ := hs
    rw [GV.wt, if_neg hd, wrap64 (by omega) (by omega)] at hw
    have b1 := wts_bnd m0 m1 (d := d + 1) (n := 1 + (s.length : Int)) a4 (by omega) (by omega) (by omega) (by omega)
    have b2 := wtm_bnd m0 m1 (d := d + 1) (n := GV.wts most (d + 1) (1 + (s.length : Int)) l) a5 (by omega) (by omega) (by omega) (by omega)
    have e1 := wts_each m0 m1 (d := d + 1) (n := 1 + (s.length : Int)) a4 (by omega) (by omega) (by omega) (by omega) (by omega)
    have e2 := wtm_each m0 m1 (d := d + 1) (n := GV.wts most (d + 1) (1 + (s.length : Int)) l) a5 (by omega) (by omega) (by omega) (by omega) hw
    have f1 : GV.dws l ≤ 70 - d := dws_le (by omega) fun v hv => by
      have hsz : v.sz < N := by
        obtain ⟨i, hi⟩ := List.getElem?_of_mem hv
        have := szs_get hi
        rw [GV.sz] at hN
        omega
      have := light_dw m0 m1 N hsz (smls_all a4 v hv) (by omega) (by omega) (e1 v hv)
      omega
    have f2 : GV.dwm m ≤ 70 - d := dwm_le (by omega) fun p hp => by
      obtain ⟨pk, pv⟩ := p
      have hsz : pv.sz < N := by
        obtain ⟨i, hi⟩ := List.getElem?_of_mem hp
        have := szm_get hi
        rw [GV.sz] at hN
        omega
      have he : GV.wt most (d + 1) pv ≤ most := e2 _ hp
      have hps : pv.sml := (smlm_all a5 (pk, pv) hp).2
      have := light_dw m0 m1 N hsz hps (by omega) (by omega) he
      show pv.dw ≤ _
      omega
    have g1 := dws_nn (l := l)
    have g2 := dwm_nn (l := m)
    rw [GV.dw]
    split
    · rw [wrap64 (by omega) (by omega)]; omega
    · split
      · rw [wrap64 (by omega) (by omega)]; omega
      · omega
/-! ### What was put -/
theorem insK_mem {p q : List UInt8 × GV} : ∀ {m : List (List UInt8 × GV)}, q ∈ insK p m → q = p ∨ q ∈ m
  | [], h => by simpa [insK] using h
  | y :: r, h => by
    rw [insK] at h
    split at h
    · rcases List.mem_cons.1 h with rfl | h
      · exact .inr List.mem_cons_self
      · rcases insK_mem h with h | h
        · exact .inl h
        · exact .inr (List.mem_cons_of_mem _ h)
    · split at h
      · rcases List.mem_cons.1 h with h | h
        · exact .inl h
        · exact .inr (List.mem_cons_of_mem _ h)
      · rcases List.mem_cons.1 h with h | h
        · exact .inl h
        · exact .inr h
theorem pw_first {m : List (List UInt8 × GV)} (h : m.Pairwise fun a b => bl a.1 b.1 = true) {i j : Nat} {p q : List UInt8 × GV} (hi : m[i]? = some p) (hj : m[j]? = some q) (hji : j < i) : q.1 ≠ p.1 := by
  obtain ⟨a, rfl⟩ := List.getElem?_eq_some_iff.1 hi
  obtain ⟨b, rfl⟩ := List.getElem?_eq_some_iff.1 hj
  have := List.pairwise_iff_getElem.1 h j i b a hji
  intro e
  rw [e, bl_irrefl] at this
  cases this
theorem maym_utf : ∀ (m : List (List UInt8 × GV)) (o : Option (List UInt8)), GV.maym o m = true → ∀ p ∈ m, utfB p.1 = true
  | [], _, _, p, hp => by cases hp
  | (k, v) :: r, o, h, p, hp => by
    have h2 : utfB k = true ∧ GV.maym (some k) r = true := by
      cases o with
      | none =>
        rw [GV.maym] at h
        simp only [Bool.and_eq_true] at h
        exact ⟨h.1.1.1, h.2⟩
      | some q =>
        rw [GV.maym] at h
        simp only [Bool.and_eq_true] at h
        exact ⟨h.1.1.1, h.2⟩
    rcases List.mem_cons.1 hp with rfl | hp
    · exact h2.1
    · exact maym_utf r _ h2.2 p hp
end Go.Proofs.YtjejeijldllloaaDoor

/- ValueParts: what Get, Set, Keep, Drop, TextAt, IntAt, Same tell is as the document says. -/
namespace Go.Proofs.YtjejeijldllloaaDoor
open Go.AM
theorem may_rise {v : GV} (h : v.may = true) : v.rise := by
  cases v with
  | mk k n s l m =>
    intro k5
    subst k5
    exact (may_map h).2.2.2.1
theorem good_may {v : GV} (h : v.good = true) : v.may = true := by
  unfold GV.good at h
  exact (Bool.and_eq_true _ _ ▸ h).2
end Go.Proofs.YtjejeijldllloaaDoor

/- ValueSets: what was set is found. -/
namespace Go.Proofs.YtjejeijldllloaaDoor
open Go.AM
section
variable {prim : FuncId → Option (List AV → Option AV)}
end
theorem keepG_G5 (m : List (List UInt8 × GV)) (b : Bool) (ks : List (List UInt8)) : (G5 m).keepG b ks = G5 (m.filter fun q => !delB b ks q.1) := by
  unfold G5 GV.keepG
  exact if_pos rfl
end Go.Proofs.YtjejeijldllloaaDoor

/- Chapter 13: plain facts of what stays: twice it is as once; what is added changes nothing. -/
namespace Go.Proofs.YtjejeijldllloaaDoor
open Go.AM
abbrev Ms := List (List UInt8 × GV)
theorem idxG_G5 (m : Ms) (key : List UInt8) : idxG (G5 m) key = (m.map Prod.fst).findIdx? (fun x => decide (x = key)) := by
  unfold idxG
  exact if_pos rfl
theorem getV_find (key : List UInt8) : ∀ m : Ms, getV (G5 m) key = (m.find? fun q => decide (q.1 = key)).map Prod.snd
  | [] => by unfold G5 getV; simp [idxG_none, idxG, GV.kind, GV.keys]
  | q :: r => by
    have ih := getV_find key r
    have h1 : getV (G5 (q :: r)) key = (idxG (G5 (q :: r)) key).bind fun i => (q :: r)[i]?.map Prod.snd := rfl
    have h2 : getV (G5 r) key = (idxG (G5 r) key).bind fun i => r[i]?.map Prod.snd := rfl
    rw [h2, idxG_G5] at ih
    rw [h1, idxG_G5, List.map_cons, List.findIdx?_cons, List.find?_cons]
    by_cases hq : q.1 = key
    · simp [hq]
    · simp only [hq, decide_false, Bool.false_eq_true, if_false]
      rw [← ih]
      cases hf : (r.map Prod.fst).findIdx? (fun x => decide (x = key)) with
      | none => rfl
      | some i => rfl
theorem getV_set {a key : List UInt8} (hn : key ≠ a) : ∀ {m : Ms} {i : Nat} {c c0 : GV}, m[i]? = some (a, c0) → getV (G5 (m.set i (a, c))) key = getV (G5 m) key := by
  intro m i c c0 h
  rw [getV_find, getV_find]
  congr 1
  induction m generalizing i with
  | nil => cases h
  | cons q r ih =>
    cases i with
    | zero =>
      injection h with h
      subst h
      rw [List.set_cons_zero, List.find?_cons, List.find?_cons]
      have h1 : decide (a = key) = false := decide_eq_false fun e => hn e.symm
      simp only [h1]
    | succ i =>
      rw [List.set_cons_succ, List.find?_cons, List.find?_cons]
      cases decide (q.1 = key) with
      | true => rfl
      | false => exact ih h
theorem map_fst_set {a : List UInt8} : ∀ {m : Ms} {i : Nat} {c c0 : GV}, m[i]? = some (a, c0) → (m.set i (a, c)).map Prod.fst = m.map Prod.fst
  | [], _, _, _, h => by cases h
  | q :: r, 0, c, c0, h => by
    injection h with h
    subst h
    rfl
  | q :: r, i + 1, c, c0, h => by
    rw [List.set_cons_succ, List.map_cons, List.map_cons, map_fst_set (m := r) (i := i) h]
theorem idxG_set {a key : List UInt8} {m : Ms} {i : Nat} {c c0 : GV} (h : m[i]? = some (a, c0)) : idxG (G5 (m.set i (a, c))) key = idxG (G5 m) key := by
  rw [idxG_G5, idxG_G5, map_fst_set h]
theorem filter_set {f : List UInt8 → Bool} {a : List UInt8} : ∀ {m : Ms} {i : Nat} {c c0 : GV}, m[i]? = some (a, c0) → (∀ q ∈ m, f q.1 = true) → (m.set i (a, c)).filter (fun q => f q.1) = m.set i (a, c) := by
  intro m i c c0 h hf
  rw [List.filter_eq_self]
  intro q hq
  obtain ⟨x, hx, he⟩ : ∃ x ∈ m, x.1 = q.1 := by
    have h1 : q.1 ∈ (m.set i (a, c)).map Prod.fst := List.mem_map_of_mem hq
    rw [map_fst_set h] at h1
    obtain ⟨x, hx, he⟩ := List.mem_map.1 h1
    exact ⟨x, hx, he⟩
  show f q.1 = true
  rw [← he]
  exact hf x hx
/-- What a content's part is. -/
def gT : Option (List UInt8) → List UInt8 → Bool
  | none, _ => false
  | some t, k => !delB true (kL t) k
/-- What becomes of the members that stay. -/
def redC (o : GV) : GV := match idxG o ctK, getV o ctK with
    | some i, some c => if c.kind = 5 then
        match textG o tyK with
        | none => GV.setG i ctK (G5 []) o
        | some t => GV.setG i ctK (c.keepG true (kL t)) o
      else o
    | _, _ => o
theorem redG_eq (v : GV) : redG v = if v.good = true ∧ v.kind = 5 then redC (redO v) else v := rfl
theorem redO_G5 (m : Ms) : redO (G5 m) = G5 (m.filter fun q => !delB true mL q.1) := keepG_G5 m true mL
/-- What it is, of members that stay. -/
theorem redC_cases (mo : Ms) (hm : ∀ p ∈ mo, p.2.may = true) : (redC (G5 mo) = G5 mo ∧ ∀ (i : Nat) (c : GV), idxG (G5 mo) ctK = some i → mo[i]? = some (ctK, c) → c.kind ≠ 5) ∨ ∃ i mc, idxG (G5 mo) ctK = some i ∧ mo[i]? = some (ctK, G5 mc) ∧ redC (G5 mo) = G5 (mo.set i (ctK, G5 (mc.filter fun q => gT (textG (G5 mo) tyK) q.1))) := by
  cases hi : idxG (G5 mo) ctK with
  | none =>
    left
    refine ⟨?_, fun i c h => by cases h⟩
    unfold redC
    rw [hi]
  | some i =>
    obtain ⟨_, hil, ⟨c, hc⟩, _⟩ := idxG_some hi
    have hg : getV (G5 mo) ctK = some c := by
      have : getV (G5 mo) ctK = (idxG (G5 mo) ctK).bind fun i => mo[i]?.map Prod.snd := rfl
      rw [this, hi, Option.bind_some, hc]
      rfl
    by_cases hk : c.kind = 5
    · right
      have hmay := hm _ (List.mem_of_getElem? hc)
      cases c with
      | mk k n s l mc =>
        have k5 : k = 5 := hk
        subst k5
        obtain ⟨rfl, rfl, rfl, _, _⟩ := may_map hmay
        refine ⟨i, mc, rfl, hc, ?_⟩
        unfold redC
        rw [hi, hg]
        simp only [hk, if_true]
        cases ht : textG (G5 mo) tyK with
        | none =>
          have : mc.filter (fun q => gT none q.1) = [] := by
            rw [List.filter_eq_nil_iff]
            intro q _
            simp [gT]
          rw [this]
          rfl
        | some t =>
          have := keepG_G5 mc true (kL t)
          unfold G5 at this
          simp only [this]
          rfl
    · left
      refine ⟨?_, fun j c' hj hc' => ?_⟩
      · unfold redC
        rw [hi, hg]
        simp only [hk, if_false]
      · injection hj with hj
        subst hj
        rw [hc] at hc'
        injection hc' with hc'
        injection hc' with _ hc'
        rw [← hc']
        exact hk
theorem textG_set {m : Ms} {i : Nat} {c c0 : GV} (h : m[i]? = some (ctK, c0)) : textG (G5 (m.set i (ctK, c))) tyK = textG (G5 m) tyK := by
  unfold textG
  rw [getV_set (by decide) h]
theorem filter_twice (f : List UInt8 → Bool) (m : Ms) : (m.filter fun q => f q.1).filter (fun q => f q.1) = m.filter fun q => f q.1 := by
  rw [List.filter_filter]
  congr 1
  funext q
  simp
/-- Once more changes nothing. -/
theorem redC_twice {mo : Ms} (hm : ∀ p ∈ mo, p.2.may = true) {m' : Ms} (h : redC (G5 mo) = G5 m') (hm' : ∀ p ∈ m', p.2.may = true) : redC (G5 m') = G5 m' := by
  rcases redC_cases mo hm with ⟨h1, _⟩ | ⟨i, mc, hi, hc, h1⟩
  · rw [h1] at h
    have : mo = m' := by unfold G5 at h; injection h
    rw [← this, h1]
  · rw [h1] at h
    have he : mo.set i (ctK, G5 (mc.filter fun q => gT (textG (G5 mo) tyK) q.1)) = m' := by unfold G5 at h; injection h
    have hil := (List.getElem?_eq_some_iff.1 hc).1
    have hi' : idxG (G5 m') ctK = some i := by rw [← he, idxG_set hc, hi]
    have hc' : m'[i]? = some (ctK, G5 (mc.filter fun q => gT (textG (G5 mo) tyK) q.1)) := by rw [← he, List.getElem?_set_self hil]
    have ht' : textG (G5 m') tyK = textG (G5 mo) tyK := by rw [← he, textG_set hc]
    rcases redC_cases m' hm' with ⟨h2, _⟩ | ⟨j, mc', hj, hcj, h2⟩
    · exact h2
    · rw [hi'] at hj
      injection hj with hj
      subst hj
      rw [hc'] at hcj
      injection hcj with hcj
      injection hcj with _ hcj
      have hmc : (mc.filter fun q => gT (textG (G5 mo) tyK) q.1) = mc' := by unfold G5 at hcj; injection hcj
      rw [h2, ht', ← hmc, filter_twice, ← he, List.set_set]
/-- What holds of a part that is good. -/
theorem G5_good_of {m m' : Ms} (hg : (G5 m).good = true) (hl : GV.dwm m ≤ 1000) (hr : m'.Pairwise fun a b => bl a.1 b.1 = true) (h : ∀ p ∈ m', utfB p.1 = true ∧ p.2.may = true ∧ p.2.dw ≤ GV.dwm m) : (G5 m').good = true := by
  unfold GV.good at hg ⊢
  rw [Bool.and_eq_true, decide_eq_true_eq] at hg ⊢
  have n1 := dwm_nn (l := m)
  have n2 := dwm_nn (l := m')
  have e1 : (G5 m).dw = GV.dwm m + 1 := by
    unfold G5
    rw [GV.dw, if_neg (by decide), if_pos rfl, wrap64 (by omega) (by omega)]
  rw [e1] at hg
  have b1 : GV.dwm m' ≤ GV.dwm m := dwm_le n1 fun p hp => (h p hp).2.2
  constructor
  · unfold G5
    rw [GV.dw, if_neg (by decide), if_pos rfl, wrap64 (by omega) (by omega)]
    omega
  · rw [G5_may]
    exact maym_of _ _ (fun p hp => ⟨(h p hp).1, (h p hp).2.1⟩) hr fun q e => by cases e
theorem rise_keys {m m' : Ms} (h : m'.map Prod.fst = m.map Prod.fst) (hr : m.Pairwise fun a b => bl a.1 b.1 = true) : m'.Pairwise fun a b => bl a.1 b.1 = true := by
  have h1 := (List.pairwise_map (f := Prod.fst) (R := fun a b => bl a b = true) (l := m)).2 hr
  rw [← h] at h1
  exact List.pairwise_map.1 h1
theorem G5_filter_dw {mc : Ms} {f : List UInt8 → Bool} (hl : GV.dwm mc ≤ 1000) : (G5 (mc.filter fun q => f q.1)).dw ≤ (G5 mc).dw := by
  have n1 := dwm_nn (l := mc)
  have n2 := dwm_nn (l := mc.filter fun q => f q.1)
  have b1 : GV.dwm (mc.filter fun q => f q.1) ≤ GV.dwm mc := dwm_le n1 fun p hp => dwm_mem (List.mem_filter.1 hp).1
  unfold G5
  rw [GV.dw, if_neg (by decide), if_pos rfl, GV.dw, if_neg (by decide), if_pos rfl, wrap64 (by omega) (by omega), wrap64 (by omega) (by omega)]
  omega
theorem G5_filter_may {mc : Ms} {f : List UInt8 → Bool} (h : (G5 mc).may = true) : (G5 (mc.filter fun q => f q.1)).may = true := by
  rw [G5_may] at h ⊢
  obtain ⟨r1, _, r3⟩ := maym_rise mc none h
  exact maym_of _ _ (fun p hp => ⟨maym_utf mc none h p (List.mem_filter.1 hp).1, r3 p (List.mem_filter.1 hp).1⟩) (r1.filter _) fun q e => by cases e
end Go.Proofs.YtjejeijldllloaaDoor

/- Chapter 13: plain facts: redacted twice; each member that stays. -/
namespace Go.Proofs.YtjejeijldllloaaDoor
open Go.AM
theorem may_mems {v : GV} (h : v.may = true) (hk : v.kind ≠ 5) : v.mems = [] := by
  cases v with
  | mk k n s l m =>
    have hk : k ≠ 5 := hk
    show m = []
    have h0 : m.length = 0 ∨ k = 5 := by
      rw [GV.may] at h
      split at h
      · simp only [Bool.and_eq_true, decide_eq_true_eq] at h; omega
      · split at h
        · simp only [Bool.and_eq_true, decide_eq_true_eq] at h; omega
        · split at h
          · simp only [Bool.and_eq_true, decide_eq_true_eq] at h; omega
          · split at h
            · simp only [Bool.and_eq_true, decide_eq_true_eq] at h; omega
            · split at h
              · simp only [Bool.and_eq_true, decide_eq_true_eq] at h; omega
              · cases h
    rcases h0 with h0 | h0
    · exact List.eq_nil_of_length_eq_zero h0
    · exact absurd h0 hk
/-- A member is found. -/
def found (u : GV) (q : List UInt8 × GV) : Prop := ∃ j, idxG u q.1 = some j ∧ u.mems[j]? = some q
theorem found_of {m : Ms} (hr : m.Pairwise fun a b => bl a.1 b.1 = true) {q : List UInt8 × GV} (hq : q ∈ m) : found (G5 m) q := by
  obtain ⟨j, hj⟩ := List.getElem?_of_mem hq
  exact ⟨j, idxG_of (w := q.2) rfl hj fun i p hi hp => pw_first hr hj hp hi, hj⟩
theorem found_may {u : GV} (h : u.may = true) {q : List UInt8 × GV} (hq : q ∈ u.mems) : found u q := by
  by_cases hk : u.kind = 5
  · cases u with
    | mk k n s l m =>
      have k5 : k = 5 := hk
      subst k5
      obtain ⟨rfl, rfl, rfl, hr, _⟩ := may_map h
      exact found_of hr hq
  · rw [may_mems h hk] at hq
    cases hq
/-- How a member stays. -/
def stays (v : GV) (p : List UInt8 × GV) : Prop := ∃ j u, idxG v p.1 = some j ∧ v.mems[j]? = some (p.1, u) ∧ (p.1 ≠ ctK → p.2 = u) ∧ ∀ q ∈ p.2.mems, found u q
theorem stays_same {v : GV} (h : v.may = true) {p : List UInt8 × GV} (hp : p ∈ v.mems) (hm : p.2.may = true) : stays v p := by
  obtain ⟨j, h1, h2⟩ := found_may h hp
  exact ⟨j, p.2, h1, h2, fun _ => rfl, fun q hq => found_may hm hq⟩
structure Tw (v w : GV) : Prop where
  g : w.good = true
  r : redG w = w
  k : w.kind = v.kind
  l : w.mems.length ≤ v.mems.length
  s : w.sml
  f : few2 w
  m : ∀ p ∈ w.mems, stays v p
theorem few2_G5 {m m' : Ms} (h : few2 (G5 m)) (hl : m'.length ≤ m.length) (hm : ∀ p ∈ m', ∃ q ∈ m, p.2.mems.length ≤ q.2.mems.length) : few2 (G5 m') := by
  refine ⟨Nat.le_trans hl h.1, fun p hp => ?_⟩
  obtain ⟨q, hq, hle⟩ := hm p hp
  exact Nat.le_trans hle (h.2 q hq)
theorem tw_of {v : GV} (hg : v.good = true) (hs : v.sml) (hf : few2 v) (hd : GV.dwm v.mems ≤ 1000) (hd2 : ∀ p ∈ v.mems, GV.dwm p.2.mems ≤ 1000) : Tw v (redG v) := by
  have hmay := good_may hg
  by_cases hk : v.kind = 5
  case neg =>
    have hr : redG v = v := by rw [redG_eq, if_neg (fun h => hk h.2)]
    rw [hr]
    refine ⟨hg, hr, rfl, Nat.le_refl _, hs, hf, fun p hp => ?_⟩
    rw [may_mems hmay hk] at hp
    cases hp
  cases v with
  | mk k n s l m =>
    have k5 : k = 5 := hk
    subst k5
    obtain ⟨rfl, rfl, rfl, hri, hme⟩ := may_map hmay
    have hmm : GV.maym none m = true := by
      have := hmay
      rw [show GV.mk 5 0 [] [] m = G5 m from rfl, G5_may] at this
      exact this
    have hut := maym_utf m none hmm
    have hd : GV.dwm m ≤ 1000 := hd
    have hd2 : ∀ p ∈ m, GV.dwm p.2.mems ≤ 1000 := hd2
    have hf : few2 (G5 m) := hf
    obtain ⟨mo, hmo⟩ : ∃ mo, m.filter (fun q => !delB true mL q.1) = mo := ⟨_, rfl⟩
    have hro : redO (G5 m) = G5 mo := by rw [redO_G5, hmo]
    have hsub : ∀ p ∈ mo, p ∈ m := fun p hp => by rw [← hmo] at hp; exact (List.mem_filter.1 hp).1
    have hsel : ∀ p ∈ mo, (!delB true mL p.1) = true := fun p hp => by rw [← hmo] at hp; exact (List.mem_filter.1 hp).2
    have hmol : mo.length ≤ m.length := by rw [← hmo]; exact List.length_filter_le _ _
    have hori : mo.Pairwise fun a b => bl a.1 b.1 = true := by rw [← hmo]; exact hri.filter _
    have hred : redG (G5 m) = redC (G5 mo) := by rw [redG_eq, if_pos ⟨hg, rfl⟩, hro]
    have hsm : ∀ p ∈ m, GV.smlp p := smlm_all hs.2.2.2.2
    have hlen : m.length ≤ 140737488355328 := hs.2.2.1
    show Tw (G5 m) (redG (G5 m))
    rw [hred]
    have hmay' : (G5 m).may = true := hmay
    rcases redC_cases mo (fun p hp => hme p (hsub p hp)) with ⟨h1, _⟩ | ⟨i, mc, hi, hc, h1⟩
    · rw [h1]
      have hgo : (G5 mo).good = true := G5_good_of hg hd hori fun p hp => ⟨hut p (hsub p hp), hme p (hsub p hp), dwm_mem (hsub p hp)⟩
      refine ⟨hgo, ?_, rfl, hmol, G5_sml (fun p hp => hsm p (hsub p hp)) (by omega), few2_G5 hf hmol fun p hp => ⟨p, hsub p hp, Nat.le_refl _⟩, fun p hp => stays_same hmay' (hsub p hp) (hme p (hsub p hp))⟩
      have hro2 : redO (G5 mo) = G5 mo := by rw [redO_G5, List.filter_eq_self.2 fun p hp => hsel p hp]
      rw [redG_eq, if_pos ⟨hgo, rfl⟩, hro2, h1]
    · rw [h1]
      have hcm : (ctK, G5 mc) ∈ m := hsub _ (List.mem_of_getElem? hc)
      have hcmay : (G5 mc).may = true := hme _ hcm
      obtain ⟨g, hgd⟩ : ∃ g, gT (textG (G5 mo) tyK) = g := ⟨_, rfl⟩
      rw [hgd] at h1 ⊢
      obtain ⟨m', hm'⟩ : ∃ m', mo.set i (ctK, G5 (mc.filter fun q => g q.1)) = m' := ⟨_, rfl⟩
      rw [hm'] at h1 ⊢
      have hmem : ∀ p ∈ m', p ∈ mo ∨ p = (ctK, G5 (mc.filter fun q => g q.1)) := fun p hp => by
        rw [← hm'] at hp
        exact List.mem_or_eq_of_mem_set hp
      have hkeys : m'.map Prod.fst = mo.map Prod.fst := by rw [← hm', map_fst_set hc]
      have hri' := rise_keys hkeys hori
      have hdc : GV.dwm mc ≤ 1000 := hd2 _ hcm
      have hmayc : (G5 (mc.filter fun q => g q.1)).may = true := G5_filter_may hcmay
      have hgo : (G5 m').good = true := G5_good_of hg hd hri' fun p hp => by
        rcases hmem p hp with h | rfl
        · exact ⟨hut p (hsub p h), hme p (hsub p h), dwm_mem (hsub p h)⟩
        · exact ⟨show utfB ctK = true from hut (ctK, G5 mc) hcm, hmayc, Int.le_trans (G5_filter_dw hdc) (dwm_mem hcm)⟩
      have hlen' : m'.length = mo.length := by rw [← hm', List.length_set]
      have hml' : ∀ p ∈ m', p.2.may = true := fun p hp => by
        rcases hmem p hp with h | rfl
        · exact hme p (hsub p h)
        · exact hmayc
      refine ⟨hgo, ?_, rfl, by show m'.length ≤ m.length; omega, ?_, ?_, fun p hp => ?_⟩
      · have hro2 : redO (G5 m') = G5 m' := by
          rw [redO_G5, ← hm', filter_set (f := fun k => !delB true mL k) hc fun q hq => hsel q hq]
        rw [redG_eq, if_pos ⟨hgo, rfl⟩, hro2]
        exact redC_twice (fun p hp => hme p (hsub p hp)) h1 hml'
      · refine G5_sml (fun p hp => ?_) (by omega)
        rcases hmem p hp with h | rfl
        · exact hsm p (hsub p h)
        · have hcs : (G5 mc).sml := (hsm (ctK, G5 mc) hcm).2
          refine ⟨by decide, G5_sml (fun q hq => smlm_all hcs.2.2.2.2 q (List.mem_filter.1 hq).1) ?_⟩
          have := hcs.2.2.1
          have := List.length_filter_le (fun q : List UInt8 × GV => g q.1) mc
          omega
      · refine few2_G5 hf (by omega) fun p hp => ?_
        rcases hmem p hp with h | rfl
        · exact ⟨p, hsub p h, Nat.le_refl _⟩
        · exact ⟨_, hcm, List.length_filter_le _ _⟩
      · have hp : p ∈ m' := hp
        rcases hmem p hp with h | rfl
        · exact stays_same hmay' (hsub p h) (hme p (hsub p h))
        · obtain ⟨j, e1, e2⟩ := found_may hmay' hcm
          refine ⟨j, G5 mc, e1, e2, fun hn => absurd rfl hn, fun q hq => ?_⟩
          have hq : q ∈ mc.filter fun q => g q.1 := hq
          exact found_may hcmay (List.mem_filter.1 hq).1
/-- Where a member lies. -/
theorem FMs.atE {m : Ms} {es : List E} (h : FMs m (es.map enc)) {i : Nat} {p : List UInt8 × GV} (hi : m[i]? = some p) : ∃ cs, es[i]? = some (p.1, cs) ∧ FV p.2 (.agg cs) := by
  obtain ⟨y, hy, hp⟩ := h.get hi
  rw [List.getElem?_map] at hy
  obtain ⟨e, he, rfl⟩ := Option.map_eq_some_iff.1 hy
  obtain ⟨k, v⟩ := p
  obtain ⟨cs, e1, _, hv⟩ := hp
  injection e1 with e1
  injection e1 with e1 e2
  refine ⟨cs, ?_, hv⟩
  rw [he]
  congr 1
  exact Prod.ext (str_inj e1) e2
/-- What Get says of a member that is found. -/
theorem getR_found {v : GV} {x : AV} (h : FV v x) {key : List UInt8} {j : Nat} {u : GV} (hi : idxG v key = some j) (hj : v.mems[j]? = some (key, u)) : ∃ us, FV u (.agg us) ∧ getR v x key = .tup [.agg us, .v (.bool true)] := by
  obtain ⟨w', ws, f1, f2, f3, f4⟩ := getR_some h hi
  cases v with
  | mk k n s l m =>
    have := f4 _ _ _ _ _ rfl
    have hj : m[j]? = some (key, u) := hj
    rw [hj] at this
    injection this with this
    injection this with _ this
    rw [← this] at f1
    exact ⟨ws, f1, f3⟩
end Go.Proofs.YtjejeijldllloaaDoor

/- RedactTwice: redacted twice it is as once. -/
namespace Go.Proofs.YtjejeijldllloaaDoor
open Go.AM
theorem wt_deep {most : Int} (m0 : 0 ≤ most) (m1 : most ≤ 1000000) {d : Int} {v : GV} (hs : v.sml) (h0 : 0 ≤ d) (h1 : d ≤ 71) (hl : v.wt most d ≤ most) : ∀ p ∈ v.mems, p.2.sml ∧ p.2.wt most (d + 1) ≤ most := by
  cases v with
  | mk k n s l m =>
    intro p hp
    have hp : p ∈ m := hp
    by_cases hd : 70 < d
    · rw [GV.wt, if_pos hd, wrap64 (by omega) (by omega)] at hl
      omega
    obtain ⟨a1, a2, a3, a4, a5⟩ := hs
    rw [GV.wt, if_neg hd, wrap64 (by omega) (by omega)] at hl
    have b1 := wts_bnd m0 m1 (d := d + 1) (n := 1 + (s.length : Int)) a4 (by omega) (by omega) (by omega) (by omega)
    have b2 := wtm_bnd m0 m1 (d := d + 1) (n := GV.wts most (d + 1) (1 + (s.length : Int)) l) a5 (by omega) (by omega) (by omega) (by omega)
    have he := wtm_each m0 m1 (d := d + 1) (n := GV.wts most (d + 1) (1 + (s.length : Int)) l) a5 (by omega) (by omega) (by omega) (by omega) hl p hp
    obtain ⟨pk, pv⟩ := p
    exact ⟨(smlm_all a5 (pk, pv) hp).2, he⟩
theorem light_dwm {most : Int} (m0 : 0 ≤ most) (m1 : most ≤ 1000000) {v : GV} (hs : v.sml) (hl : v.wt most 0 ≤ most) : GV.dwm v.mems ≤ 1000 ∧ ∀ p ∈ v.mems, GV.dwm p.2.mems ≤ 1000 := by
  have h1 := wt_deep m0 m1 hs (by decide) (by decide) hl
  refine ⟨dwm_le (by decide) fun p hp => ?_, fun p hp => dwm_le (by decide) fun q hq => ?_⟩
  · obtain ⟨a, b⟩ := h1 p hp
    have := light_dw m0 m1 (p.2.sz + 1) (d := 0 + 1) (Nat.lt_succ_self _) a (by decide) (by decide) b
    omega
  · obtain ⟨a, b⟩ := h1 p hp
    obtain ⟨a2, b2⟩ := wt_deep m0 m1 a (d := 0 + 1) (by decide) (by decide) b q hq
    have := light_dw m0 m1 (q.2.sz + 1) (d := 0 + 1 + 1) (Nat.lt_succ_self _) a2 (by decide) (by decide) b2
    omega
/-- A value as it lies. -/
theorem FV.opn {v : GV} {x : AV} (h : FV v x) : ∃ (vs : List AV) (es : List E) (M : AV), x = .agg vs ∧ vs.length = 5 ∧ AV.bares vs = some vs ∧ vs.all AV.flat = true ∧ vs[0]? = some (.v (.int .i64 v.kind)) ∧ vs[4]? = some M ∧ elems M = some (es.map enc) ∧ memsA x = es.map enc ∧ es.length = v.mems.length ∧ FMs v.mems (es.map enc) ∧ okL es := by
  obtain ⟨vs, e, h1, h2, h3⟩ := h.shape
  cases v with
  | mk k n s l m =>
    obtain ⟨L, M, xs, ys, e', _, hM, _, _, _, _, _, _, _, _, _, _, hw⟩ := h
    rw [e] at e'
    injection e' with e'
    obtain ⟨es, rfl, ho, _⟩ := fms_encs hw
    refine ⟨vs, es, M, e, h1, h2, h3, by rw [e']; rfl, by rw [e']; rfl, hM, by rw [e, e']; simp [memsA, hM], ?_, hw, ho⟩
    have hlen := hw.len
    rw [List.length_map] at hlen
    exact hlen
theorem blk_app {L : List Blk} {c d : Blk} {j g : Nat} (h : blkAt (nH L) j g = some c) : blkAt (nH (L ++ [d])) j g = some c := by
  unfold blkAt nH at h ⊢
  simp only at h ⊢
  cases hj : L[j]? with
  | none => rw [hj] at h; cases h
  | some b =>
    rw [hj] at h
    rw [List.getElem?_append_left (List.getElem?_eq_some_iff.1 hj).1, hj]
    exact h
theorem GV.sml_mems {v : GV} (h : v.sml) : GV.smlm v.mems := by
  cases v with
  | mk k n s l m => exact h.2.2.2.2
theorem may_mem {v : GV} (h : v.may = true) {p : List UInt8 × GV} (hp : p ∈ v.mems) : p.2.may = true := by
  by_cases hk : v.kind = 5
  · cases v with
    | mk k n s l m =>
      have k5 : k = 5 := hk
      subst k5
      exact (may_map h).2.2.2.2 p hp
  · rw [may_mems h hk] at hp
    cases hp
noncomputable def rt1 : FuncId → Option (List AV → Option AV) := tab [(53, vawakeP), (29, lightT), (32, (vP gdA)), (54, rpQ), (37, eqP), (39, getQ)]
theorem rt1_ok : (cfgP rt1).Ok := cfg_ok (tab_ok ⟨prim_at Tryd.func53 (by kernel_rfl) rfl ((fun xs r h => pureOk_prim (prim' := fun _ => none) (rawake_ok xs r h))), prim_at Tryd.func29 (by kernel_rfl) rfl (lightT_ok), prim_at Tryd.func32 (by kernel_rfl) rfl (gdP_ok), prim_at Tryd.func54 (by kernel_rfl) rfl (rpQ_ok), prim_at Tryd.func37 (by kernel_rfl) rfl (samePv_ok), prim_at Tryd.func39 (by kernel_rfl) rfl (getQ_ok), trivial⟩)
theorem rt1_53 : (cfgP rt1).prim 53 = some vawakeP := rfl
theorem rt1_29 : (cfgP rt1).prim 29 = some lightT := rfl
theorem rt1_32 : (cfgP rt1).prim 32 = some (vP gdA) := rfl
theorem rt1_54 : (cfgP rt1).prim 54 = some rpQ := rfl
theorem rt1_37 : (cfgP rt1).prim 37 = some eqP := rfl
theorem rt1_39 : (cfgP rt1).prim 39 = some getQ := rfl
structure RtI (x b0 : AV) (i : Nat) (e : Env) (h : Hp) : Prop where
  len : e.length = 143
  a1 : aget e 1 = .rp x 0
  a3 : aget e 3 = .ptr 0 0 0 0
  a4 : aget e 4 = .v (.int .i64 (i : Int))
  hp : ∃ L, h = nH L ∧ blkAt (nH L) 0 0 = some ⟨0, 5, [b0]⟩
structure RtJ (x b0 u : AV) (i b k : Nat) (e : Env) (h : Hp) : Prop where
  len : e.length = 143
  a1 : aget e 1 = .rp x 0
  a3 : aget e 3 = .ptr 0 0 0 0
  a4 : aget e 4 = .v (.int .i64 (i : Int))
  a5 : aget e 5 = .ptr b 0 0 0
  a7 : aget e 7 = .v (.int .i64 (k : Int))
  hp : ∃ L, h = nH L ∧ blkAt (nH L) 0 0 = some ⟨0, 5, [b0]⟩ ∧ blkAt (nH L) b 0 = some ⟨0, 5, [u]⟩
set_option maxHeartbeats 16000000 in
set_option maxRecDepth 100000 in
theorem redactTwice_core (x : AV) (hx : Arg Tryd.prog 39 x) (sx : Small x) : PureOk (cfgP rt1) 15 [x] (.v (.bool true)) := by
  obtain ⟨v, h⟩ := arg_val hx
  have hsm := h.sml sx
  have qa : vawakeP [] = some (.v (.bool true)) := rfl
  have ql := lightT_eq (most := 3000) h
  have qg := vP_eq (r := gdA) h hsm
  simp only [gdA] at qg
  have hfv := h
  obtain ⟨cs, es, M, rfl, h5, hbs, hfl, c0, c4, hM, hme, hel, hfm, hok⟩ := FV.opn h
  have hb := h.bare
  have r1 : (cfgP rt1).roBox 15 1 = true := rfl
  have r3 : (cfgP rt1).roBox 15 3 = false := rfl
  have r5 : (cfgP rt1).roBox 15 5 = false := rfl
  have r8 : (cfgP rt1).roBox 15 8 = false := rfl
  cases hlv : decide (v.wt 3000 0 ≤ 3000) with
  | false =>
    rw [hlv] at ql
    refine pure_of_wk (call := noCall) (fn := Tryd.f15) (rs := [.tmp 2]) rt1_ok noCall_ok (fns_cfg Tryd.func15 rfl) rfl rfl ?_
    intro env hl0 hargs
    have hn : env.length = 143 := hl0
    have h0 := hargs 0 _ rfl
    clear hargs hl0
    refine wkT_of ?_
    rw [fe_self hn]
    (try simp -dsimp (disch := omega) only [h0, r1, bxt_ro hb hfl, cellsA, vp39 h5, ct_prim rt1_53, ct_prim rt1_29, hbs, qa, ql, Bool.not_true, Bool.not_false, AS, avals, apairs, bareP, AV.bare, AV.bares, Nat.reduceEqDiff, Nat.reduceLT, Nat.reduceAdd, ↓reduceIte, reduceCtorEq, resA, resA1, resVal, Nat.reduceLeDiff, nb_cfg, Nat.reduceBEq, AX, Int.reduceLT, Int.reduceLE, Int.reduceEq, Int.reduceAdd, Int.reduceSub, Int.reduceMul, Int.reduceNeg, Int.reduceNe])
    exact ⟨1, rfl⟩
  | true =>
    rw [hlv] at ql
    cases hgd : v.good with
    | false =>
      rw [hgd] at qg
      refine pure_of_wk (call := noCall) (fn := Tryd.f15) (rs := [.tmp 2]) rt1_ok noCall_ok (fns_cfg Tryd.func15 rfl) rfl rfl ?_
      intro env hl0 hargs
      have hn : env.length = 143 := hl0
      have h0 := hargs 0 _ rfl
      clear hargs hl0
      refine wkT_of ?_
      rw [fe_self hn]
      (try simp -dsimp (disch := omega) only [h0, r1, bxt_ro hb hfl, cellsA, vp39 h5, ct_prim rt1_53, ct_prim rt1_29, ct_prim rt1_32, hbs, qa, ql, qg, Bool.not_true, Bool.not_false, AS, avals, apairs, bareP, AV.bare, AV.bares, Nat.reduceEqDiff, Nat.reduceLT, Nat.reduceAdd, ↓reduceIte, reduceCtorEq, resA, resA1, resVal, Nat.reduceLeDiff, nb_cfg, Nat.reduceBEq, AX, Int.reduceLT, Int.reduceLE, Int.reduceEq, Int.reduceAdd, Int.reduceSub, Int.reduceMul, Int.reduceNeg, Int.reduceNe])
      exact ⟨1, rfl⟩
    | true =>
      rw [hgd] at qg
      have hlt := of_decide_eq_true hlv
      have hfew := light_few2 (by decide) (by decide) hsm hlt
      obtain ⟨hd1, hd2⟩ := light_dwm (by decide) (by decide) hsm hlt
      have htw := tw_of hgd hsm hfew hd1 hd2
      have hX : RdX (v, .agg cs) := ⟨hfv, hsm, hfew⟩
      have qp := rpQ_eq hX
      have fp := (rpR_ok hX).2
      obtain ⟨RP, hRP⟩ : ∃ RP, rpR (v, .agg cs) = RP := ⟨_, rfl⟩
      rw [hRP] at qp fp
      obtain ⟨w, hw⟩ : ∃ w, redG v = w := ⟨_, rfl⟩
      have fp : FV w RP := by rw [← hw]; exact fp
      rw [hw] at htw
      obtain ⟨tg, tr, tk, tl, ts, tf, tm⟩ := htw
      have hX2 : RdX (w, RP) := ⟨fp, ts, tf⟩
      have qp2 := rpQ_eq hX2
      have fp2 := (rpR_ok hX2).2
      obtain ⟨RP2, hRP2⟩ : ∃ RP2, rpR (w, RP) = RP2 := ⟨_, rfl⟩
      rw [hRP2] at qp2 fp2
      have fp2 : FV w RP2 := by
        have h1 : FV (redG w) RP2 := fp2
        rw [tr] at h1
        exact h1
      have qg2 := vP_eq (r := gdA) fp ts
      simp only [gdA, tg] at qg2
      have qs := eqP_eq fp2 fp
      rw [dq_eq rfl] at qs
      have bp2 := fp2.bare
      have hfvw := fp
      obtain ⟨ws, ew, MW, rfl, w5, wbs, wfl, w0, w4, hMW, hmew, helw, hfmw, hokw⟩ := FV.opn fp
      replace qp : rpQ [.agg cs] = some (.agg ws) := qp
      replace qp2 : rpQ [.agg ws] = some RP2 := qp2
      have st0 := o_st0 (prim := rt1) [] w5 wfl
      have lM := len37 (prim := rt1) hM
      have lW := len37 (prim := rt1) hMW
      rw [List.length_map] at lM lW
      rw [tk] at w0
      have dk : decide (v.kind = v.kind) = true := decide_eq_true rfl
      have dl : decide ((es.length : Int) < (ew.length : Int)) = false := decide_eq_false (by omega)
      obtain ⟨n, hn0⟩ : ∃ n, ew.length = n := ⟨_, rfl⟩
      rw [hn0] at lW dl
      have hnb : n ≤ 1000000 := by have := hfew.1; omega
      clear hX hX2 hRP hRP2
      refine pure_of_wk (call := noCall) (fn := Tryd.f15) (rs := [.tmp 2]) rt1_ok noCall_ok (fns_cfg Tryd.func15 rfl) rfl rfl ?_
      intro env hl0 hargs
      have hn : env.length = 143 := hl0
      have h0 := hargs 0 _ rfl
      clear hargs hl0
      refine wkT_of ?_
      rw [fe_self hn]
      (try simp -dsimp (disch := omega) only [h0, r1, r3, bxt_ro hb hfl, cellsA, vp39 h5, vp39 w5, ct_prim rt1_53, ct_prim rt1_29, ct_prim rt1_32, ct_prim rt1_54, ct_prim rt1_37, hbs, wbs, bp2, qa, ql, qg, qg2, qp, qp2, qs, o_al0, st0, o_blk, List.getElem?_cons_zero, gfp0, gp4, gf0, gf4, vp3, vp37, c0, c4, w0, w4, lM, lW, dk, dl, Bool.not_true, Bool.not_false, AS, avals, apairs, bareP, AV.bare, AV.bares, Nat.reduceEqDiff, Nat.reduceLT, Nat.reduceAdd, ↓reduceIte, reduceCtorEq, resA, resA1, resVal, Nat.reduceLeDiff, nb_cfg, Nat.reduceBEq, AX, Int.reduceLT, Int.reduceLE, Int.reduceEq, Int.reduceAdd, Int.reduceSub, Int.reduceMul, Int.reduceNeg, Int.reduceNe])
      refine ⟨by kernel_rfl, ?_⟩
      refine wt_loop (m := n) (fun q e h => ∃ i, i + q = n ∧ RtI (.agg cs) (.agg ws) i e h) ?_ ?_
      · clear hn h0
        rintro q e h ⟨i, hi, hn, h1, h3, h4, L, rfl, hbk⟩
        rw [fe_self hn]
        cases q with
        | zero =>
          obtain rfl : i = n := by omega
          have di : decide ((i : Int) < (i : Int)) = false := decide_eq_false (by omega)
          (try simp -dsimp (disch := omega) only [h1, h3, h4, gp4, hbk, List.getElem?_cons_zero, cellsA, vp37, w4, lW, di, AS, avals, apairs, bareP, AV.bare, AV.bares, Nat.reduceEqDiff, Nat.reduceLT, Nat.reduceAdd, ↓reduceIte, reduceCtorEq, resA, resA1, resVal, Nat.reduceLeDiff, nb_cfg, Nat.reduceBEq, AX, Int.reduceLT, Int.reduceLE, Int.reduceEq, Int.reduceAdd, Int.reduceSub, Int.reduceMul, Int.reduceNeg, Int.reduceNe])
          exact ⟨1, rfl⟩
        | succ q =>
          have di : decide ((i : Int) < (n : Int)) = true := decide_eq_true (by omega)
          obtain ⟨p, hp⟩ : ∃ p, w.mems[i]? = some p := ⟨w.mems[i]'(by omega), List.getElem?_eq_getElem (by omega)⟩
          obtain ⟨ps, hps, fps⟩ := FMs.atE hfmw hp
          obtain ⟨j, u, u1, u2, u3, u4⟩ := tm p (List.mem_of_getElem? hp)
          obtain ⟨us, fus, egt⟩ := getR_found hfv u1 u2
          have qget := getQ_eq (p := ⟨v, .agg cs, p.1⟩) ⟨hfv, hsm, may_rise (good_may hgd)⟩
          replace qget : getQ [.agg cs, str p.1] = some (.tup [.agg us, .v (.bool true)]) := qget.trans (congrArg some egt)
          have us5 := fus.l5
          have usf := fus.fl
          have usb := fus.bs
          have ps5 := fps.l5
          have psb := fps.bs
          have p6 : (str p.1 :: ps).length = 6 := by rw [List.length_cons, ps5]
          have ixm := ix37 (prim := rt1) hMW (HB_get hps) p6
          have st1 := nH_store39 (prim := rt1) (ext := L) us5 usf
          have hbk1 := blk_app (d := ⟨0, 5, [.agg us]⟩) hbk
          have hbl1 := nH_blk (ext := L) (n := 5) (x := .agg us)
          have ei : (i : Int) + 1 = ((i + 1 : Nat) : Int) := by omega
          have wi : IntKind.i64.wrap ((i + 1 : Nat) : Int) = ((i + 1 : Nat) : Int) := wrap64 (by omega) (by omega)
          obtain ⟨ps', ep, PM, e1, _, _, _, _, p4, hPM, _, hepl, hfmp, hokp⟩ := FV.opn fps
          injection e1 with e1
          subst e1
          have lP := len37 (prim := rt1) hPM
          rw [List.length_map] at lP
          obtain ⟨n2, hn2⟩ : ∃ n2, ep.length = n2 := ⟨_, rfl⟩
          rw [hn2] at lP
          have hn2b : n2 ≤ 1000000 := by have := tf.2 p (List.mem_of_getElem? hp); omega
          cases hcb : decide (p.1 = [99, 111, 110, 116, 101, 110, 116]) with
          | false =>
            have hpu : p.2 = u := u3 (of_decide_eq_false hcb)
            have qsm := eqP_eq fus (show FV u (.agg ps) by rw [← hpu]; exact fps)
            rw [dq_eq rfl] at qsm
            (try simp -dsimp (disch := omega) only [h1, h3, h4, r5, gp4, hbk, hbk1, hbl1, List.getElem?_cons_zero, List.getElem?_cons_succ, cellsA, vp39 h5, vp39 us5, vp39m ps5, vp37, mp9, w4, lW, di, ixm, mf0, mf1, ct_prim rt1_39, ct_prim rt1_37, hbs, usb, psb, bare_s, qget, qsm, nH_alloc39, st1, hcb, Bool.not_true, Bool.not_false, AS, avals, apairs, bareP, AV.bare, AV.bares, Nat.reduceEqDiff, Nat.reduceLT, Nat.reduceAdd, ↓reduceIte, reduceCtorEq, resA, resA1, resVal, Nat.reduceLeDiff, nb_cfg, Nat.reduceBEq, AX, Int.reduceLT, Int.reduceLE, Int.reduceEq, Int.reduceAdd, Int.reduceSub, Int.reduceMul, Int.reduceNeg, Int.reduceNe])
            refine ⟨by kernel_rfl, by kernel_rfl, ?_⟩
            refine wt_loop (m := 0) (fun q e h => RtJ (.agg cs) (.agg ws) (.agg us) i L.length 0 e h) ?_ ?_
            · clear hn h1 h3 h4
              rintro q' e h ⟨hn, h1, h3, h4, h5', h7, L2, rfl, g1, g2⟩
              rw [fe_self hn]
              (try simp -dsimp (disch := omega) only [h1, h3, h4, h5', h7, gp4, gf4, g1, g2, List.getElem?_cons_zero, List.getElem?_cons_succ, cellsA, vp37, mp9, w4, p4, lP, ixm, mf0, mf1, hcb, wi, ei, AS, avals, apairs, bareP, AV.bare, AV.bares, Nat.reduceEqDiff, Nat.reduceLT, Nat.reduceAdd, ↓reduceIte, reduceCtorEq, resA, resA1, resVal, Nat.reduceLeDiff, nb_cfg, Nat.reduceBEq, AX, Int.reduceLT, Int.reduceLE, Int.reduceEq, Int.reduceAdd, Int.reduceSub, Int.reduceMul, Int.reduceNeg, Int.reduceNe]); (try (rw [ct_eq]; refine ⟨fun hc0 => ?_, fun hc0 => ?_⟩ <;> (try simp only [decide_eq_true_eq, decide_eq_false_iff_not, Bool.not_eq_true', Bool.not_eq_false', Bool.and_eq_true, Bool.and_eq_false_iff] at hc0) <;> ((try simp -dsimp (disch := omega) only [h1, h3, h4, h5', h7, gp4, gf4, g1, g2, List.getElem?_cons_zero, List.getElem?_cons_succ, cellsA, vp37, mp9, w4, p4, lP, ixm, mf0, mf1, hcb, wi, ei, hc0, AS, avals, apairs, bareP, AV.bare, AV.bares, Nat.reduceEqDiff, Nat.reduceLT, Nat.reduceAdd, ↓reduceIte, reduceCtorEq, resA, resA1, resVal, Nat.reduceLeDiff, nb_cfg, Nat.reduceBEq, AX, Int.reduceLT, Int.reduceLE, Int.reduceEq, Int.reduceAdd, Int.reduceSub, Int.reduceMul, Int.reduceNeg, Int.reduceNe]))))
              all_goals refine ⟨q, by omega, i + 1, by omega, fe_len, ?_, ?_, ?_, _, rfl, g1⟩
              all_goals (try simp -dsimp (disch := omega) only [h1, h3, h4, AS, avals, apairs, bareP, AV.bare, AV.bares, Nat.reduceEqDiff, Nat.reduceLT, Nat.reduceAdd, ↓reduceIte, reduceCtorEq, resA, resA1, resVal, Nat.reduceLeDiff, nb_cfg, Nat.reduceBEq, AX, Int.reduceLT, Int.reduceLE, Int.reduceEq, Int.reduceAdd, Int.reduceSub, Int.reduceMul, Int.reduceNeg, Int.reduceNe])
            · refine ⟨fe_len, ?_, ?_, ?_, ?_, ?_, _, rfl, hbk1, hbl1⟩
              all_goals (try simp -dsimp (disch := omega) only [h1, h3, h4, AS, avals, apairs, bareP, AV.bare, AV.bares, Nat.reduceEqDiff, Nat.reduceLT, Nat.reduceAdd, ↓reduceIte, reduceCtorEq, resA, resA1, resVal, Nat.reduceLeDiff, nb_cfg, Nat.reduceBEq, AX, Int.reduceLT, Int.reduceLE, Int.reduceEq, Int.reduceAdd, Int.reduceSub, Int.reduceMul, Int.reduceNeg, Int.reduceNe])
              all_goals rfl
          | true =>
            (try simp -dsimp (disch := omega) only [h1, h3, h4, r5, gp4, hbk, hbk1, hbl1, List.getElem?_cons_zero, List.getElem?_cons_succ, cellsA, vp39 h5, vp39 us5, vp39m ps5, vp37, mp9, w4, lW, di, ixm, mf0, mf1, ct_prim rt1_39, ct_prim rt1_37, hbs, usb, psb, bare_s, qget, nH_alloc39, st1, hcb, Bool.not_true, Bool.not_false, AS, avals, apairs, bareP, AV.bare, AV.bares, Nat.reduceEqDiff, Nat.reduceLT, Nat.reduceAdd, ↓reduceIte, reduceCtorEq, resA, resA1, resVal, Nat.reduceLeDiff, nb_cfg, Nat.reduceBEq, AX, Int.reduceLT, Int.reduceLE, Int.reduceEq, Int.reduceAdd, Int.reduceSub, Int.reduceMul, Int.reduceNeg, Int.reduceNe])
            refine ⟨by kernel_rfl, by kernel_rfl, ?_⟩
            refine wt_loop (m := n2) (fun q e h => ∃ k, k + q = n2 ∧ RtJ (.agg cs) (.agg ws) (.agg us) i L.length k e h) ?_ ?_
            · clear hn h1 h3 h4
              rintro q' e h ⟨k, hk, hn, h1, h3, h4, h5', h7, L2, rfl, g1, g2⟩
              rw [fe_self hn]
              cases q' with
              | zero =>
                have dk2 : decide ((k : Int) < (n2 : Int)) = false := decide_eq_false (by omega)
                (try simp -dsimp (disch := omega) only [h1, h3, h4, h5', h7, gp4, gf4, g1, g2, List.getElem?_cons_zero, List.getElem?_cons_succ, cellsA, vp37, mp9, w4, p4, lP, ixm, mf0, mf1, hcb, dk2, wi, ei, AS, avals, apairs, bareP, AV.bare, AV.bares, Nat.reduceEqDiff, Nat.reduceLT, Nat.reduceAdd, ↓reduceIte, reduceCtorEq, resA, resA1, resVal, Nat.reduceLeDiff, nb_cfg, Nat.reduceBEq, AX, Int.reduceLT, Int.reduceLE, Int.reduceEq, Int.reduceAdd, Int.reduceSub, Int.reduceMul, Int.reduceNeg, Int.reduceNe])
                refine ⟨q, by omega, i + 1, by omega, fe_len, ?_, ?_, ?_, _, rfl, g1⟩
                all_goals (try simp -dsimp (disch := omega) only [h1, h3, h4, AS, avals, apairs, bareP, AV.bare, AV.bares, Nat.reduceEqDiff, Nat.reduceLT, Nat.reduceAdd, ↓reduceIte, reduceCtorEq, resA, resA1, resVal, Nat.reduceLeDiff, nb_cfg, Nat.reduceBEq, AX, Int.reduceLT, Int.reduceLE, Int.reduceEq, Int.reduceAdd, Int.reduceSub, Int.reduceMul, Int.reduceNeg, Int.reduceNe])
              | succ q' =>
                have dk2 : decide ((k : Int) < (n2 : Int)) = true := decide_eq_true (by omega)
                obtain ⟨p2, hp2⟩ : ∃ p2, p.2.mems[k]? = some p2 := ⟨p.2.mems[k]'(by omega), List.getElem?_eq_getElem (by omega)⟩
                obtain ⟨qs2, hqs2, fqs2⟩ := FMs.atE hfmp hp2
                obtain ⟨j2, v1, v2⟩ := u4 p2 (List.mem_of_getElem? hp2)
                obtain ⟨ys, fys, egt2⟩ := getR_found (u := p2.2) fus v1 v2
                have husm : u.sml := (smlm_all (GV.sml_mems hsm) _ (List.mem_of_getElem? u2)).2
                have humay : u.may = true := may_mem (good_may hgd) (List.mem_of_getElem? u2)
                have qget2 := getQ_eq (p := ⟨u, .agg us, p2.1⟩) ⟨fus, husm, may_rise humay⟩
                replace qget2 : getQ [.agg us, str p2.1] = some (.tup [.agg ys, .v (.bool true)]) := qget2.trans (congrArg some egt2)
                have qsm2 := eqP_eq fys fqs2
                rw [dq_eq rfl] at qsm2
                have ys5 := fys.l5
                have ysf := fys.fl
                have ysb := fys.bs
                have qs25 := fqs2.l5
                have qs2b := fqs2.bs
                have q6 : (str p2.1 :: qs2).length = 6 := by rw [List.length_cons, qs25]
                have ixk := ix37 (prim := rt1) hPM (HB_get hqs2) q6
                have st2 := nH_store39 (prim := rt1) (ext := L2) ys5 ysf
                have g1' := blk_app (d := ⟨0, 5, [.agg ys]⟩) g1
                have g2' := blk_app (d := ⟨0, 5, [.agg ys]⟩) g2
                have g3' := nH_blk (ext := L2) (n := 5) (x := .agg ys)
                have ek : (k : Int) + 1 = ((k + 1 : Nat) : Int) := by omega
                have wk : IntKind.i64.wrap ((k + 1 : Nat) : Int) = ((k + 1 : Nat) : Int) := wrap64 (by omega) (by omega)
                (try simp -dsimp (disch := omega) only [h1, h3, h4, h5', h7, r8, gp4, gf4, g1, g2, g1', g2', g3', List.getElem?_cons_zero, List.getElem?_cons_succ, cellsA, vp37, mp9, vp39 us5, vp39 ys5, vp39m qs25, w4, p4, lP, ixm, ixk, mf0, mf1, hcb, dk2, ct_prim rt1_39, ct_prim rt1_37, usb, ysb, qs2b, bare_s, qget2, qsm2, nH_alloc39, st2, wk, ek, Bool.not_true, Bool.not_false, AS, avals, apairs, bareP, AV.bare, AV.bares, Nat.reduceEqDiff, Nat.reduceLT, Nat.reduceAdd, ↓reduceIte, reduceCtorEq, resA, resA1, resVal, Nat.reduceLeDiff, nb_cfg, Nat.reduceBEq, AX, Int.reduceLT, Int.reduceLE, Int.reduceEq, Int.reduceAdd, Int.reduceSub, Int.reduceMul, Int.reduceNeg, Int.reduceNe])
                refine ⟨by kernel_rfl, by kernel_rfl, q', by omega, k + 1, by omega, fe_len, ?_, ?_, ?_, ?_, ?_, _, rfl, g1', g2'⟩
                all_goals (try simp -dsimp (disch := omega) only [h1, h3, h4, h5', h7, AS, avals, apairs, bareP, AV.bare, AV.bares, Nat.reduceEqDiff, Nat.reduceLT, Nat.reduceAdd, ↓reduceIte, reduceCtorEq, resA, resA1, resVal, Nat.reduceLeDiff, nb_cfg, Nat.reduceBEq, AX, Int.reduceLT, Int.reduceLE, Int.reduceEq, Int.reduceAdd, Int.reduceSub, Int.reduceMul, Int.reduceNeg, Int.reduceNe])
            · refine ⟨0, by omega, fe_len, ?_, ?_, ?_, ?_, ?_, _, rfl, hbk1, hbl1⟩
              all_goals (try simp -dsimp (disch := omega) only [h1, h3, h4, AS, avals, apairs, bareP, AV.bare, AV.bares, Nat.reduceEqDiff, Nat.reduceLT, Nat.reduceAdd, ↓reduceIte, reduceCtorEq, resA, resA1, resVal, Nat.reduceLeDiff, nb_cfg, Nat.reduceBEq, AX, Int.reduceLT, Int.reduceLE, Int.reduceEq, Int.reduceAdd, Int.reduceSub, Int.reduceMul, Int.reduceNeg, Int.reduceNe])
              all_goals rfl
      · refine ⟨0, by omega, fe_len, ?_, ?_, ?_, _, rfl, rfl⟩
        all_goals (try simp -dsimp (disch := omega) only [h0, AS, avals, apairs, bareP, AV.bare, AV.bares, Nat.reduceEqDiff, Nat.reduceLT, Nat.reduceAdd, ↓reduceIte, reduceCtorEq, resA, resA1, resVal, Nat.reduceLeDiff, nb_cfg, Nat.reduceBEq, AX, Int.reduceLT, Int.reduceLE, Int.reduceEq, Int.reduceAdd, Int.reduceSub, Int.reduceMul, Int.reduceNeg, Int.reduceNe])
        all_goals rfl
end Go.Proofs.YtjejeijldllloaaDoor
