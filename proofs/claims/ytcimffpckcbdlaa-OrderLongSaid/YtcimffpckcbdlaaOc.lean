/- Contracts of functions, and plain facts about what they compute. -/
import Derived.Test.YtcimffpckcbdlaaOb
set_option linter.unusedSimpArgs false
set_option linter.unusedVariables false
/- Chapter 22: order.All: what it hands back is the order as it is meant, or why there is none. -/
namespace Go.Proofs.Ytcimffpckcbdlaa
open Go.AM
def slS (out : List Tx) : AV := if out = [] then nilS else .ro (out.map str)
def allV (l : List It) : AV := .tup [slS (allS l).1, .v (.int .i64 ((allS l).2 : Int))]
theorem allV_twice {l : List It} (h : ¬ (ids l).Nodup) : allV l = .tup [nilS, .v (.int .i64 4)] := by
  unfold allV allS
  rw [if_neg h]
  rfl
theorem allV_lack {l : List It} (h : (ids l).Nodup) {x : It} {t : Tx} (hx : x ∈ l) (ht : t ∈ x.2) (hn : plc l t = none) : allV l = .tup [nilS, .v (.int .i64 13)] := by
  unfold allV allS
  have : ¬ (l.all fun x => x.2.all (ids l).contains) = true := by
    intro hc
    rw [List.all_eq_true] at hc
    have h1 := hc x hx
    rw [List.all_eq_true] at h1
    have h2 := h1 t ht
    exact plc_none.1 hn (by simpa using h2)
  rw [if_pos h, if_neg this]
  rfl
theorem ids_split {l : List It} {i : Nat} {x : It} (h : l[i]? = some x) : ids l = ids (l.take i) ++ x.1 :: ids (l.drop (i + 1)) := by
  obtain ⟨a, b, rfl, rfl⟩ := split_at h
  unfold ids
  simp
theorem take_snoc {l : List It} {i : Nat} {x : It} (h : l[i]? = some x) : l.take (i + 1) = l.take i ++ [x] := by
  rw [List.take_add_one, h]
  rfl
theorem byB_snoc {l : List It} {ps : List (Nat × Tx)} {i k k' : Nat} {t : Tx} (hk : plc l t = some k) : byB l (ps ++ [(i, t)]) k' = if k' = k then byB l ps k' ++ [i] else byB l ps k' := by
  rw [byB_app]
  unfold byB
  simp only [List.filter_cons, List.filter_nil, hk]
  by_cases h : k' = k
  · subst h
    simp
  · have : (some k == some k') = false := by simpa using fun e : k = k' => h e.symm
    rw [this, if_neg h]
    simp
def wsL (n : Nat) (ps : List (Nat × Tx)) : List Nat := (List.range n).map (wtB ps)
theorem wsL_len {n : Nat} {ps : List (Nat × Tx)} : (wsL n ps).length = n := by simp [wsL]
theorem wsL_get {n i : Nat} {ps : List (Nat × Tx)} (h : i < n) : (wsL n ps)[i]? = some (wtB ps i) := by
  unfold wsL
  rw [List.getElem?_map, List.getElem?_range h]
  rfl
theorem wsL_snoc {n i : Nat} {ps : List (Nat × Tx)} {t : Tx} (h : i < n) : (wsL n ps).set i (wtB ps i + 1) = wsL n (ps ++ [(i, t)]) := by
  apply List.ext_getElem?
  intro j
  rw [List.getElem?_set, wsL_len]
  by_cases hj : i = j
  · subst hj
    rw [if_pos rfl, if_pos h, wsL_get h, wtB_app]
    congr 2
    unfold wtB
    simp
  · rw [if_neg hj]
    by_cases hjn : j < n
    · rw [wsL_get hjn, wsL_get hjn, wtB_app]
      congr 1
      unfold wtB
      simp [hj]
    · rw [List.getElem?_eq_none (by rw [wsL_len]; omega), List.getElem?_eq_none (by rw [wsL_len]; omega)]
theorem wsL_nil {n : Nat} : ints (wsL n []) = List.replicate n (.v (.int .i64 0)) := by
  unfold ints wsL
  apply List.ext_getElem?
  intro j
  simp only [List.getElem?_map, List.getElem?_replicate]
  by_cases h : j < n
  · rw [List.getElem?_range h, if_pos h]
    rfl
  · rw [if_neg h, List.getElem?_eq_none (by simpa using h)]
    rfl
theorem prsF_take {l : List It} {i : Nat} {x : It} (h : l[i]? = some x) : prsF 0 (l.take (i + 1)) = prsF 0 (l.take i) ++ x.2.map (fun n => (i, n)) := by
  have hi := (List.getElem?_eq_some_iff.1 h).1
  rw [take_snoc h, prsF_app, List.length_take, Nat.zero_add, Nat.min_eq_left (by omega)]
  simp [prsF]
theorem prsF_len {c : Nat} : ∀ {i : Nat} {l : List It}, (∀ x ∈ l, x.2.length < c) → (prsF i l).length ≤ l.length * c
  | i, [], _ => by simp [prsF]
  | i, x :: r, h => by
    have h1 := h x (by simp)
    have h2 := prsF_len (i := i + 1) (l := r) fun y hy => h y (by simp [hy])
    show (x.2.map _ ++ prsF (i + 1) r).length ≤ (r.length + 1) * c
    rw [List.length_append, List.length_map, Nat.succ_mul]
    omega
structure A1 (X : AV) (n i : Nat) (l : List It) (e : Env) (h : Hp) : Prop where
  len : e.length = 148
  a0 : aget e 0 = X
  a4 : aget e 4 = .mp 0
  a23 : aget e 23 = X
  a24 : aget e 24 = .v (.int .i64 (n : Int))
  a25 : aget e 25 = .v (.int .i64 (i : Int))
  mp : LkM h (plc (l.take i))
  tk : h.toks = []
structure A2 (X : AV) (n i bw bb bh : Nat) (l : List It) (e : Env) (h : Hp) : Prop where
  len : e.length = 148
  a0 : aget e 0 = X
  a4 : aget e 4 = .mp 0
  a9 : aget e 9 = .ex bw 0 1 0 n
  a10 : aget e 10 = .ex bb 0 1 0 n
  a11 : aget e 11 = .ptr bh 0 0 0
  a49 : aget e 49 = X
  a50 : aget e 50 = .v (.int .i64 (n : Int))
  a51 : aget e 51 = .v (.int .i64 (i : Int))
  ah : ∃ cs, AH h l (wsL n (prsF 0 (l.take i))) cs (byB l (prsF 0 (l.take i))) bw bb bh ∧ TokOk h cs
  hv : HV h bw bb bh (ids ((l.take i).filter fun x => x.2.isEmpty))
  kn : ∀ x ∈ l.take i, ∀ t ∈ x.2, plc l t ≠ none
structure A2i (X N : AV) (n i m bw bb bh bx : Nat) (l : List It) (x : It) (e : Env) (h : Hp) : Prop where
  len : e.length = 148
  a0 : aget e 0 = X
  a4 : aget e 4 = .mp 0
  a9 : aget e 9 = .ex bw 0 1 0 n
  a10 : aget e 10 = .ex bb 0 1 0 n
  a11 : aget e 11 = .ptr bh 0 0 0
  a12 : aget e 12 = .v (.int .i64 (i : Int))
  a13 : aget e 13 = .ptr bx 0 0 0
  a49 : aget e 49 = X
  a50 : aget e 50 = .v (.int .i64 (n : Int))
  a51 : aget e 51 = .v (.int .i64 (i : Int))
  a57 : aget e 57 = N
  a58 : aget e 58 = .v (.int .i64 (x.2.length : Int))
  a59 : aget e 59 = .v (.int .i64 (m : Int))
  ah : ∃ cs, AH h l (wsL n (prsF 0 (l.take i) ++ (x.2.take m).map fun n => (i, n))) cs (byB l (prsF 0 (l.take i) ++ (x.2.take m).map fun n => (i, n))) bw bb bh ∧ TokOk h cs
  hv : HV h bw bb bh (ids ((l.take i).filter fun x => x.2.isEmpty))
  bk : h.blks[bx]? = some ⟨0, 2, [.agg [str x.1, N]]⟩
  n1 : bx ≠ bw
  n2 : bx ≠ bb
  kn : ∀ t ∈ x.2.take m, plc l t ≠ none
structure A3 (X v : AV) (n bw bb bh : Nat) (l : List It) (out : List Tx) (ws : List Nat) (L : List Tx) (e : Env) (h : Hp) : Prop where
  len : e.length = 148
  a0 : aget e 0 = X
  a4 : aget e 4 = .mp 0
  a9 : aget e 9 = .ex bw 0 1 0 n
  a10 : aget e 10 = .ex bb 0 1 0 n
  a11 : aget e 11 = .ptr bh 0 0 0
  a18 : aget e 18 = v
  ah : ∃ cs, AH h l ws cs (byB l (prsF 0 l)) bw bb bh
  hv : HV h bw bb bh L
  ok : OutOk h v out
structure A3i (X v c : AV) (n m k bw bb bh : Nat) (l : List It) (out : List Tx) (ws : List Nat) (L : List Tx) (e : Env) (h : Hp) : Prop where
  len : e.length = 148
  a0 : aget e 0 = X
  a4 : aget e 4 = .mp 0
  a9 : aget e 9 = .ex bw 0 1 0 n
  a10 : aget e 10 = .ex bb 0 1 0 n
  a11 : aget e 11 = .ptr bh 0 0 0
  a18 : aget e 18 = v
  a116 : aget e 116 = c
  a117 : aget e 117 = .v (.int .i64 ((byB l (prsF 0 l) k).length : Int))
  a118 : aget e 118 = .v (.int .i64 (m : Int))
  ah : ∃ cs, AH h l ws cs (byB l (prsF 0 l)) bw bb bh
  hv : ∃ br g r, Rd h bh br g L r ∧ br ≠ bw ∧ br ≠ bb
  ok : OutOk h v out
theorem cst (x : Tx) : (str x).cells = [str x] := rfl
theorem cva (x : Value) : (AV.v x).cells = [.v x] := rfl
theorem cag (xs : List AV) : (AV.agg xs).cells = xs := rfl
theorem u44 {prim : FuncId → Option (List AV → Option AV)} : (cfgP prim).und 44 = some (.pointer 42) := by kernel_rfl
theorem ap0 {prim : FuncId → Option (List AV → Option AV)} {h : Hp} {x : Tx} : appXA (cfgP prim) #[42, 42] [nilS, .cl true [str x]] h = some (.ex h.blks.length 0 1 0 1, nbk h ⟨0, 1, [str x]⟩) := by
  have h0 : ((#[42, 42] : Array TypeId)[0]?).bind (elemT (cfgP prim)) = some 9 := by kernel_rfl
  have h1 : ((#[42, 42] : Array TypeId)[1]?).bind (cfgP prim).und = some (.slice 9) := by kernel_rfl
  have hz : zeroA (cfgP prim) 9 = some (str []) := by kernel_rfl
  have hby : (cfgP prim).byt 9 = some 16 := by kernel_rfl
  have hx : (str x).cells.length = 0 + 1 := rfl
  have hr1 : roomOk (cfgP prim) 9 1 = true := by simp only [roomOk, hby]; rfl
  have hzl : (str []).cells.length = 1 := rfl
  simp only [appXA, h0, h1, hz, c9, hzl, if_true, appendX, elems, hx, List.length_singleton, hr1, and_self, Nat.zero_add]
  rfl
/-- One more that is ready. -/
theorem hv_push {prim : FuncId → Option (List AV → Option AV)} {h : Hp} {bw bb bh : Nat} {R : List Tx} (V : HV h bw bb bh R) {a : Tx} (d2 : bw ≠ bh) (d3 : bb ≠ bh) (hbw : bw < h.blks.length) (hbb : bb < h.blks.length) (hl : R.length < 1099511627775) :
    ∃ val y h1 h', h.blks[bh]? = some ⟨0, 1, [val]⟩ ∧ val.cells = [val] ∧ appXA (cfgP prim) #[42, 42] [val, .cl true [str a]] h = some (y, h1) ∧ storeA (cfgP prim) 42 bh 0 0 0 y h1 = some h' ∧ HV h' bw bb bh (R ++ [a]) ∧ h'.toks = h.toks ∧
      ∀ l ws cs B, AH h l ws cs B bw bb bh → AH h' l ws cs B bw bb bh := by
  rcases V with ⟨rfl, hv⟩ | ⟨br, g, r, hr, n1, n2⟩
  · have hbh := (List.getElem?_eq_some_iff.1 hv).1
    have hv1 : (nbk h ⟨0, 1, [str a]⟩).blks[bh]? = some ⟨0, 1, [nilS]⟩ := nbk_old hv
    have s := store_row (C := cfgP prim) (t := 42) (i := 0) (x := .ex h.blks.length 0 1 0 1) hv1 rfl rfl c42 rfl (fun cs h => by cases h)
    refine ⟨nilS, _, _, _, hv, rfl, ap0, s, .inr ⟨h.blks.length, 0, [], ⟨?_, ?_, by omega, by simp⟩, by omega, by omega⟩, rfl, ?_⟩
    · show ((h.blks ++ [_]).set bh _)[bh]? = _
      rw [List.getElem?_set_self (by simp; omega)]
      rfl
    · show ((h.blks ++ [_]).set bh _)[h.blks.length]? = _
      rw [List.getElem?_set_ne (by omega)]
      simp
    · intro l ws cs B A
      exact AH.set A.nbk (fun e => d2 e.symm) (fun e => d3 e.symm)
  · have ap := r_apx (prim := prim) (x := a) hr.w hr.l
    have hv2 : (h.blks.set br ⟨nextG g, 1, (R ++ [a]).map str⟩)[bh]? = some ⟨0, 1, [.ex br g 1 0 R.length]⟩ := by rw [List.getElem?_set_ne (fun e => hr.n e.symm), hr.v]
    have s := store_row (C := cfgP prim) (t := 42) (i := 0) (x := .ex br (nextG g) 1 0 (R.length + 1)) (H := { h with blks := h.blks.set br ⟨nextG g, 1, (R ++ [a]).map str⟩ }) hv2 rfl rfl c42 rfl (fun cs h => by cases h)
    have e : { h with blks := (h.blks.set br ⟨nextG g, 1, (R ++ [a]).map str⟩).set bh ⟨0, 1, [AV.ex br g 1 0 R.length].set 0 (.ex br (nextG g) 1 0 (R.length + 1))⟩ } = rS h bh br (nextG g) (R ++ [a]).length (R ++ [a]) [] := by
      unfold rS
      simp
    refine ⟨_, _, _, _, hr.v, rfl, ap, s, ?_, rfl, ?_⟩
    · refine .inr ⟨br, nextG g, [], ?_, n1, n2⟩
      show Rd { h with blks := (h.blks.set br ⟨nextG g, 1, (R ++ [a]).map str⟩).set bh ⟨0, 1, [AV.ex br g 1 0 R.length].set 0 (.ex br (nextG g) 1 0 (R.length + 1))⟩ } bh br (nextG g) (R ++ [a]) []
      rw [e]
      exact rS_rd hr (by simp; omega)
    · intro l ws cs B A
      show AH { h with blks := (h.blks.set br ⟨nextG g, 1, (R ++ [a]).map str⟩).set bh ⟨0, 1, [AV.ex br g 1 0 R.length].set 0 (.ex br (nextG g) 1 0 (R.length + 1))⟩ } l ws cs B bw bb bh
      exact AH.set (AH.set A n1 n2) (fun e => d2 e.symm) (fun e => d3 e.symm)
/-- One pair more. -/
theorem pair_step {prim : FuncId → Option (List AV → Option AV)} {h : Hp} {l : List It} {n i k bw bb bh : Nat} {ps : List (Nat × Tx)} {cs : List AV} {t : Tx} (hn : l.length = n) (A : AH h l (wsL n ps) cs (byB l ps) bw bb bh) (T : TokOk h cs) (hi : i < n) (hk : plc l t = some k) (hps : ps.length < 1073741824) :
    ∃ c c' T' cs', cs[k]? = some c ∧ c.cells = [c] ∧ k < n ∧ appA (cfgP prim) #[40, 40] [c, .cl true [.v (.int .i64 (i : Int))]] h = some (c', { h with toks := T' }) ∧
      storeA (cfgP prim) 40 bb 0 k 0 c' { h with toks := T' } = some (setW { h with toks := T' } bb cs') ∧
      AH (setW (setW { h with toks := T' } bb cs') bw (ints (wsL n (ps ++ [(i, t)])))) l (wsL n (ps ++ [(i, t)])) cs' (byB l (ps ++ [(i, t)])) bw bb bh ∧ TokOk (setW (setW { h with toks := T' } bb cs') bw (ints (wsL n (ps ++ [(i, t)])))) cs' ∧
      AH (setW { h with toks := T' } bb cs') l (wsL n ps) cs' (byB l (ps ++ [(i, t)])) bw bb bh := by
  obtain ⟨x, hx, _⟩ := plc_some hk
  have hkl : k < l.length := (List.getElem?_eq_some_iff.1 hx).1
  obtain ⟨c, hc⟩ : ∃ c, cs[k]? = some c := ⟨_, List.getElem?_eq_getElem (by rw [A.cl]; exact hkl)⟩
  have he := A.ce k c hc
  have hbl : (byB l ps k).length ≤ ps.length := by
    unfold byB
    rw [List.length_map]
    exact List.length_filter_le _ _
  obtain ⟨c', T', q1, q2, q3, q4, q5⟩ := appA40 (prim := prim) (i := i) T hc he (fun x hx => by
    unfold ints at hx
    obtain ⟨w, _, rfl⟩ := List.mem_map.1 hx
    rfl) (by rw [ints_len]; omega)
  have hna : ∀ ds, c ≠ .agg ds := by
    rintro ds rfl
    cases he
  have s := store_row (C := cfgP prim) (t := 40) (H := { h with toks := T' }) (x := c') A.b q4 q5 c40 hc hna
  have A1 : AH (setW { h with toks := T' } bb (cs.set k c')) l (wsL n ps) (cs.set k c') (byB l (ps ++ [(i, t)])) bw bb bh := by
    refine AH.setb (A.toks T') (by rw [List.length_set, A.cl]) fun k' d hd => ?_
    rw [byB_snoc hk]
    by_cases e : k' = k
    · subst e
      rw [List.getElem?_set_self (by rw [A.cl]; exact hkl)] at hd
      injection hd with hd
      subst hd
      rw [if_pos rfl, q2]
      unfold ints
      rw [List.map_append]
      rfl
    · rw [List.getElem?_set_ne (fun e' => e e'.symm)] at hd
      rw [if_neg e]
      exact A.ce k' d hd
  refine ⟨c, c', T', cs.set k c', hc, (elems_flat he).1, by omega, q1, s, AH.setw A1 (by rw [wsL_len, hn]), q3.of rfl, A1⟩
/-- Init, whether something is ready or not. -/
theorem hv_init {h : Hp} {bw bb bh : Nat} {R : List Tx} (V : HV h bw bb bh R) : ∃ h', aT 16 [.iface 44 (.ptr bh 0 0 0)] h = some (.tup [], h') ∧ HV h' bw bb bh (initL (R.length / 2) R.length R) ∧
    ∀ l ws cs B, AH h l ws cs B bw bb bh → AH h' l ws cs B bw bb bh := by
  rcases V with ⟨rfl, hv⟩ | ⟨br, g, r, hr, n1, n2⟩
  · exact ⟨h, a_initn ⟨h, bh⟩ hv, .inl ⟨rfl, hv⟩, fun _ _ _ _ A => A⟩
  · refine ⟨_, a_init ⟨h, bh, br, g, R, r⟩ hr, .inr ⟨br, g, r, ?_, n1, n2⟩, fun _ _ _ _ A => A.rS n1 n2⟩
    have := rS_rd (g' := g) (L' := initL (R.length / 2) R.length R) (r' := r) hr (by rw [initL_len]; exact hr.l)
    rwa [initL_len] at this
theorem hv_len {h : Hp} {bw bb bh : Nat} {R : List Tx} (V : HV h bw bb bh R) : ∃ val, h.blks[bh]? = some ⟨0, 1, [val]⟩ ∧ val.cells = [val] ∧ aT 17 [val] h = some (.v (.int .i64 (R.length : Int)), h) := by
  rcases V with ⟨rfl, hv⟩ | ⟨br, g, r, hr, n1, n2⟩
  · exact ⟨nilS, hv, rfl, a_lenn⟩
  · exact ⟨_, hr.v, rfl, a_len⟩
theorem hv_pop {h : Hp} {bw bb bh : Nat} {L : List Tx} (V : HV h bw bb bh L) (hne : L ≠ []) : ∃ h', aT 18 [.iface 44 (.ptr bh 0 0 0)] h = some (.iface 9 (str (gt (popL L) (L.length - 1))), h') ∧
    (∃ br g r, Rd h' bh br g ((popL L).take (L.length - 1)) r ∧ br ≠ bw ∧ br ≠ bb) ∧ h'.toks = h.toks ∧ ∀ l ws cs B, AH h l ws cs B bw bb bh → AH h' l ws cs B bw bb bh := by
  rcases V with ⟨rfl, hv⟩ | ⟨br, g, r, hr, n1, n2⟩
  · exact absurd rfl hne
  · refine ⟨_, a_pop ⟨h, bh, br, g, L, r⟩ hr hne, ⟨br, g, str (gt (popL L) (L.length - 1)) :: r, ?_, n1, n2⟩, rfl, fun _ _ _ _ A => A.rS n1 n2⟩
    have hl := hr.l
    have e : ((popL L).take (L.length - 1)).length = L.length - 1 := by rw [List.length_take, popL_len]; omega
    have := rS_rd (g' := g) (L' := (popL L).take (L.length - 1)) (r' := str (gt (popL L) (L.length - 1)) :: r) hr (by rw [e]; omega)
    rwa [e] at this
theorem hv_hpush {h : Hp} {bw bb bh : Nat} {L : List Tx} {x : Tx} (V : ∃ br g r, Rd h bh br g L r ∧ br ≠ bw ∧ br ≠ bb) (hl : L.length < 1099511627775) : ∃ h', aT 19 [.iface 44 (.ptr bh 0 0 0), .iface 9 (str x)] h = some (.tup [], h') ∧
    (∃ br g r, Rd h' bh br g (pushL L x) r ∧ br ≠ bw ∧ br ≠ bb) ∧ h'.toks = h.toks ∧ ∀ l ws cs B, AH h l ws cs B bw bb bh → AH h' l ws cs B bw bb bh := by
  obtain ⟨br, g, r, hr, n1, n2⟩ := V
  refine ⟨_, a_push ⟨h, bh, br, g, L, x, r⟩ hr hl, ⟨br, nextG g, [], ?_, n1, n2⟩, rfl, fun _ _ _ _ A => A.rS n1 n2⟩
  have := rS_rd (g' := nextG g) (L' := pushL L x) (r' := []) hr (by rw [pushL_len]; omega)
  rwa [pushL_len] at this
theorem all_known {l : List It} (h : ∀ x ∈ l, ∀ t ∈ x.2, plc l t ≠ none) : (l.all fun x => x.2.all (ids l).contains) = true := by
  rw [List.all_eq_true]
  intro x hx
  rw [List.all_eq_true]
  intro t ht
  have h1 := h x hx t ht
  by_cases hm : t ∈ ids l
  · simpa using hm
  · exact absurd (plc_none.2 hm) h1
theorem allV_loop {l : List It} {out : List Tx} (h : (ids l).Nodup) (hk : ∀ x ∈ l, ∀ t ∈ x.2, plc l t ≠ none) (hr : runS l l.length [] = out) (ho : out.length < l.length) : allV l = .tup [nilS, .v (.int .i64 14)] := by
  unfold allV allS
  rw [if_pos h, if_pos (all_known hk), hr, if_pos ho]
  rfl
theorem allV_ok {l : List It} {out : List Tx} (h : (ids l).Nodup) (hk : ∀ x ∈ l, ∀ t ∈ x.2, plc l t ≠ none) (hr : runS l l.length [] = out) (ho : ¬ out.length < l.length) : allV l = .tup [slS out, .v (.int .i64 0)] := by
  unfold allV allS
  rw [if_pos h, if_pos (all_known hk), hr, if_neg ho]
  rfl
set_option maxHeartbeats 16000000 in
set_option maxRecDepth 100000 in
theorem all_ok (l : List It) (X : AV) (ys : List AV) (hX : elems X = some ys) (hI : ItsE l ys) (hl : l.length < 16384) (hN : ∀ x ∈ l, x.2.length < 4096) : PureOk (cfgP nP) 10 [X] (allV l) := by
  obtain ⟨n, hn0⟩ : ∃ n, l.length = n := ⟨_, rfl⟩
  have hyl : ys.length = n := by rw [ItsE.length hI, hn0]
  have lx := len22 (prim := nP) hX
  rw [hyl] at lx
  have r6 : (cfgP nP).roBox 10 6 = false := rfl
  have r11 : (cfgP nP).roBox 10 11 = false := rfl
  have nb : nbOf (cfgP nP) 10 (some 79) = false := by rfl
  have nb97 : nbOf (cfgP nP) 10 (some 97) = true := by rfl
  have nb110 : nbOf (cfgP nP) 10 (some 110) = false := by rfl
  have r13 : (cfgP nP).roBox 10 13 = false := rfl
  obtain ⟨V, hV⟩ : ∃ V, allV l = V := ⟨_, rfl⟩
  rw [hV]
  refine pure_of_wk (call := aT) (fn := Try.f10) (rs := [.tmp 2, .tmp 3]) nP_ok aT_ok (fns_cfg Try.func10 rfl) rfl rfl ?_
  intro env hl0 hargs
  have hn : env.length = 148 := hl0
  have h0 := hargs 0 _ rfl
  clear hargs hl0
  refine wkT_of ?_
  rw [fe_self hn]
  (try simp -dsimp (disch := omega) only [h0, lx, AS, avals, apairs, bareP, AV.bare, AV.bares, Nat.reduceEqDiff, Nat.reduceLT, Nat.reduceAdd, ↓reduceIte, reduceCtorEq, resA, resA1, resVal, Nat.reduceLeDiff, nb_cfg, Nat.reduceBEq, AX, Int.reduceLT, Int.reduceLE, Int.reduceEq, Int.reduceAdd, Int.reduceSub, Int.reduceMul, Int.reduceNeg, Int.reduceNe])
  refine wt_loop (m := n) (fun m e h => ∃ i, i + m = n ∧ (ids (l.take i)).Nodup ∧ A1 X n i l e h) ?_ ?_
  · clear hn h0
    rintro m e h ⟨i, him, hnd, hn, h0, h4, h23, h24, h25, hmp, htk⟩
    rw [fe_self hn]
    cases m with
    | succ m =>
      obtain ⟨x, hx⟩ : ∃ x, l[i]? = some x := ⟨_, List.getElem?_eq_getElem (by omega)⟩
      obtain ⟨N, hyi, hNe⟩ := ItsE.get hI hx
      obtain ⟨hNc, hNf⟩ := elems_flat hNe
      have ixx := ix22 (prim := nP) (k := .i64) hX hyi
      have s1 := st34 (prim := nP) (H := h) (a := x.1) hNf
      have bk := blk_row (H := nbk h (itB x.1 N)) (b := h.blks.length) (g := 0) (es := 2) (xs := [.agg [str x.1, N]]) nbk_new
      have hmp2 : LkM (nbk h (itB x.1 N)) (plc (l.take i)) := hmp.of rfl
      have e1 : (i : Int) + 1 = ((i + 1 : Nat) : Int) := by omega
      have dI : decide ((i : Int) < (n : Int)) = true := decide_eq_true (by omega)
      cases hp : plc (l.take i) x.1 with
      | some k =>
        have lk := lk_some (prim := nP) hmp2 hp (c := true)
        rw [if_pos rfl] at lk
        have hnn : ¬ (ids l).Nodup := by
          rw [ids_split hx]
          intro hc
          have h1 := (List.nodup_append.1 hc).2.2 x.1 (by
            obtain ⟨y, hy, he⟩ := plc_some hp
            rw [← he]
            exact List.mem_map_of_mem (List.mem_of_getElem? hy)) x.1 (by simp)
          exact h1 rfl
        rw [allV_twice hnn] at hV
        rw [← hV]
        (try simp -dsimp (disch := omega) only [h0, h4, h23, h24, h25, dI, ixx, cag, p34, r6, al34, s1, f0p, bk, p9, List.getElem?_cons_zero, lk, AS, avals, apairs, bareP, AV.bare, AV.bares, Nat.reduceEqDiff, Nat.reduceLT, Nat.reduceAdd, ↓reduceIte, reduceCtorEq, resA, resA1, resVal, Nat.reduceLeDiff, nb_cfg, Nat.reduceBEq, AX, Int.reduceLT, Int.reduceLE, Int.reduceEq, Int.reduceAdd, Int.reduceSub, Int.reduceMul, Int.reduceNeg, Int.reduceNe])
        exact ⟨5, rfl⟩
      | none =>
        have lk := lk_none (prim := nP) hmp2 hp (c := true)
        rw [if_pos rfl] at lk
        have um := up_map (prim := nP) hmp2 (t := x.1) (k := i)
        (try simp -dsimp (disch := omega) only [h0, h4, h23, h24, h25, dI, ixx, cag, p34, r6, al34, s1, f0p, bk, p9, List.getElem?_cons_zero, lk, um, e1, wrap64, AS, avals, apairs, bareP, AV.bare, AV.bares, Nat.reduceEqDiff, Nat.reduceLT, Nat.reduceAdd, ↓reduceIte, reduceCtorEq, resA, resA1, resVal, Nat.reduceLeDiff, nb_cfg, Nat.reduceBEq, AX, Int.reduceLT, Int.reduceLE, Int.reduceEq, Int.reduceAdd, Int.reduceSub, Int.reduceMul, Int.reduceNeg, Int.reduceNe])
        refine ⟨m, by omega, i + 1, by omega, ?_, fe_len, ?_, ?_, ?_, ?_, ?_, ?_, htk⟩
        case refine_1 =>
          rw [take_snoc hx]
          unfold ids
          rw [List.map_append, List.nodup_append]
          refine ⟨hnd, by simp, ?_⟩
          intro a ha b hb
          simp at hb
          subst hb
          rintro rfl
          exact plc_none.1 hp ha
        case refine_7 =>
          refine putH_lk hmp2 fun s => ?_
          rw [take_snoc hx, plc_snoc hp]
          rw [List.length_take, Nat.min_eq_left (by omega)]
        all_goals (try simp -dsimp (disch := omega) only [h0, h4, h23, h24, h25, AS, avals, apairs, bareP, AV.bare, AV.bares, Nat.reduceEqDiff, Nat.reduceLT, Nat.reduceAdd, ↓reduceIte, reduceCtorEq, resA, resA1, resVal, Nat.reduceLeDiff, nb_cfg, Nat.reduceBEq, AX, Int.reduceLT, Int.reduceLE, Int.reduceEq, Int.reduceAdd, Int.reduceSub, Int.reduceMul, Int.reduceNeg, Int.reduceNe])
    | zero =>
      have dI : decide ((i : Int) < (n : Int)) = false := decide_eq_false (by omega)
      rw [show l.take i = l from List.take_of_length_le (by omega)] at hnd hmp
      have m1 := mk40 (prim := nP) (H := h) (n := n) (by omega)
      obtain ⟨bw, hbw⟩ : ∃ bw, h.blks.length = bw := ⟨_, rfl⟩
      obtain ⟨H1, hH1⟩ : ∃ H1, nbk h ⟨0, 1, List.replicate n (.v (.int .i64 0))⟩ = H1 := ⟨_, rfl⟩
      have hw1 : H1.blks[bw]? = some ⟨0, 1, ints (wsL n [])⟩ := by
        rw [← hH1, ← hbw, wsL_nil]
        exact nbk_new
      rw [hH1, hbw] at m1
      have m2 := mk41 (prim := nP) (H := H1) (n := n) (by omega)
      obtain ⟨bb, hbb⟩ : ∃ bb, H1.blks.length = bb := ⟨_, rfl⟩
      obtain ⟨H2, hH2⟩ : ∃ H2, nbk H1 ⟨0, 1, List.replicate n nilS⟩ = H2 := ⟨_, rfl⟩
      have hb1 : H2.blks[bb]? = some ⟨0, 1, List.replicate n nilS⟩ := by
        rw [← hH2, ← hbb]
        exact nbk_new
      have hw2 : H2.blks[bw]? = some ⟨0, 1, ints (wsL n [])⟩ := by
        rw [← hH2]
        exact nbk_old hw1
      rw [hH2, hbb] at m2
      obtain ⟨bh, hbh⟩ : ∃ bh, H2.blks.length = bh := ⟨_, rfl⟩
      obtain ⟨H3, hH3⟩ : ∃ H3, nbk H2 ⟨0, 1, [nilS]⟩ = H3 := ⟨_, rfl⟩
      have a42 := al42 (prim := nP) (H := H2)
      rw [hH3, hbh] at a42
      have hh3 : H3.blks[bh]? = some ⟨0, 1, [nilS]⟩ := by
        rw [← hH3, ← hbh]
        exact nbk_new
      have hb3 : H3.blks[bb]? = some ⟨0, 1, List.replicate n nilS⟩ := by
        rw [← hH3]
        exact nbk_old hb1
      have hw3 : H3.blks[bw]? = some ⟨0, 1, ints (wsL n [])⟩ := by
        rw [← hH3]
        exact nbk_old hw2
      have hmp3 : LkM H3 (plc l) := by
        rw [← hH3, ← hH2, ← hH1]
        exact hmp.of rfl
      have htk3 : H3.toks = [] := by
        rw [← hH3, ← hH2, ← hH1]
        exact htk
      have d1 : bw ≠ bb := by
        rw [← hbb]
        exact nbk_ne hw1
      have d2 : bw ≠ bh := by
        rw [← hbh]
        exact nbk_ne hw2
      have d3 : bb ≠ bh := by
        rw [← hbh]
        exact nbk_ne hb1
      have hrep : ∀ (k : Nat) (c : AV), (List.replicate n nilS)[k]? = some c → c = nilS := by
        intro k c hc
        rw [List.getElem?_replicate] at hc
        split at hc
        · injection hc with hc
          exact hc.symm
        · cases hc
      (try simp -dsimp (disch := omega) only [h0, h4, h23, h24, h25, dI, lx, m1, m2, r11, a42, AS, avals, apairs, bareP, AV.bare, AV.bares, Nat.reduceEqDiff, Nat.reduceLT, Nat.reduceAdd, ↓reduceIte, reduceCtorEq, resA, resA1, resVal, Nat.reduceLeDiff, nb_cfg, Nat.reduceBEq, AX, Int.reduceLT, Int.reduceLE, Int.reduceEq, Int.reduceAdd, Int.reduceSub, Int.reduceMul, Int.reduceNeg, Int.reduceNe])
      clear m1 m2 a42 hH1 hH2 hH3 hbw hbb hbh hw1 hb1 hw2 hmp htk
      refine wt_loop (m := n) (fun m e h => ∃ i, i + m = n ∧ A2 X n i bw bb bh l e h) ?_ ?_
      · clear hn h0 h4 h23 h24 h25 hh3 hb3 hw3 hmp3 htk3 d1 d2 d3 hrep H1 H2 H3
        clear dI him e h i
        rintro m e h ⟨i, him, hn, h0, h4, h9, h10, h11, h49, h50, h51, ⟨cs, A, T⟩, hv, hkn⟩
        rw [fe_self hn]
        have hbwl := (List.getElem?_eq_some_iff.1 A.w).1
        have hbbl := (List.getElem?_eq_some_iff.1 A.b).1
        cases m with
        | succ m =>
          obtain ⟨x, hx⟩ : ∃ x, l[i]? = some x := ⟨_, List.getElem?_eq_getElem (by omega)⟩
          obtain ⟨N, hyi, hNe⟩ := ItsE.get hI hx
          obtain ⟨hNc, hNf⟩ := elems_flat hNe
          have hNl := hN x (List.mem_of_getElem? hx)
          have hil : i < n := by omega
          have ixx := ix22 (prim := nP) (k := .i64) hX hyi
          have s1 := st34 (prim := nP) (H := h) (a := x.1) hNf
          have bk0 : (nbk h (itB x.1 N)).blks[h.blks.length]? = some ⟨0, 2, [.agg [str x.1, N]]⟩ := nbk_new
          have bk := blk_row bk0
          have lN := len25 (prim := nP) hNe
          rw [List.length_map] at lN
          have A' := AH.nbk A (k := itB x.1 N)
          have T' : TokOk (nbk h (itB x.1 N)) cs := T.of rfl
          have V' := HV.nbk hv (k := itB x.1 N)
          have n1 : h.blks.length ≠ bw := by omega
          have n2 : h.blks.length ≠ bb := by omega
          obtain ⟨bx, hbx⟩ : ∃ bx, h.blks.length = bx := ⟨_, rfl⟩
          obtain ⟨K, hK⟩ : ∃ K, nbk h (itB x.1 N) = K := ⟨_, rfl⟩
          have a34 := al34 (prim := nP) (H := h)
          rw [hbx] at s1 bk0 bk n1 n2 a34
          rw [hK] at s1 bk0 bk A' T' V'
          have e1 : (i : Int) + 1 = ((i + 1 : Nat) : Int) := by omega
          have dI : decide ((i : Int) < (n : Int)) = true := decide_eq_true (by omega)
          (try simp -dsimp (disch := omega) only [h0, h4, h9, h10, h11, h49, h50, h51, dI, ixx, cag, p34, r13, a34, s1, f1p, bk, p25, List.getElem?_cons_zero, List.getElem?_cons_succ, Nat.zero_add, lN, AS, avals, apairs, bareP, AV.bare, AV.bares, Nat.reduceEqDiff, Nat.reduceLT, Nat.reduceAdd, ↓reduceIte, reduceCtorEq, resA, resA1, resVal, Nat.reduceLeDiff, nb_cfg, Nat.reduceBEq, AX, Int.reduceLT, Int.reduceLE, Int.reduceEq, Int.reduceAdd, Int.reduceSub, Int.reduceMul, Int.reduceNeg, Int.reduceNe])
          refine wt_loop (m := x.2.length) (fun m e h => ∃ m', m' + m = x.2.length ∧ A2i X N n i m' bw bb bh bx l x e h) ?_ ?_
          · clear hn h0 h4 h9 h10 h11 h49 h50 h51 s1 bk0 bk A' T' V' a34 hK hbx A T hv hbwl hbbl K n1 n2
            clear e h cs
            rintro m1 e h ⟨m', hmm, hn, h0, h4, h9, h10, h11, h12, h13, h49, h50, h51, h57, h58, h59, ⟨cs, A, T⟩, hv, bk0, n1, n2, hkm⟩
            rw [fe_self hn]
            have bk := blk_row bk0
            cases m1 with
            | succ m1 =>
              obtain ⟨t, ht⟩ : ∃ t, x.2[m']? = some t := ⟨_, List.getElem?_eq_getElem (by omega)⟩
              have hti : (x.2.map str)[m']? = some (str t) := by rw [List.getElem?_map, ht]; rfl
              have ixn := ix25 (prim := nP) (k := .i64) hNe hti rfl
              have dM : decide ((m' : Int) < (x.2.length : Int)) = true := decide_eq_true (by omega)
              have e2 : (m' : Int) + 1 = ((m' + 1 : Nat) : Int) := by omega
              cases hp : plc l t with
              | none =>
                have lk := lk_none (prim := nP) A.mp hp (c := true)
                rw [if_pos rfl] at lk
                rw [allV_lack hnd (List.mem_of_getElem? hx) (List.mem_of_getElem? ht) hp] at hV
                rw [← hV]
                (try simp -dsimp (disch := omega) only [h0, h4, h9, h10, h11, h12, h13, h49, h50, h51, h57, h58, h59, dM, ixn, p9, cst, cva, List.getElem?_cons_zero, lk, AS, avals, apairs, bareP, AV.bare, AV.bares, Nat.reduceEqDiff, Nat.reduceLT, Nat.reduceAdd, ↓reduceIte, reduceCtorEq, resA, resA1, resVal, Nat.reduceLeDiff, nb_cfg, Nat.reduceBEq, AX, Int.reduceLT, Int.reduceLE, Int.reduceEq, Int.reduceAdd, Int.reduceSub, Int.reduceMul, Int.reduceNeg, Int.reduceNe])
                exact ⟨5, rfl⟩
              | some k =>
                have lk := lk_some (prim := nP) A.mp hp (c := true)
                rw [if_pos rfl] at lk
                have hpl : (prsF 0 (l.take i) ++ (x.2.take m').map fun n => (i, n)).length < 1073741824 := by
                  have h1 := prsF_len (c := 4096) (i := 0) (l := l.take i) fun y hy => hN y (List.mem_of_mem_take hy)
                  have h2 : (l.take i).length < 16384 := by
                    rw [List.length_take]
                    omega
                  rw [List.length_append, List.length_map, List.length_take]
                  omega
                obtain ⟨c, c', T', cs', q1, q2, q3, q4, q5, q6, q7, q8⟩ := pair_step (prim := nP) (t := t) hn0 A T hil hp hpl
                obtain ⟨ps, hps⟩ : ∃ ps, (prsF 0 (l.take i) ++ (x.2.take m').map fun n => (i, n)) = ps := ⟨_, rfl⟩
                have hps' : (prsF 0 (l.take i) ++ (x.2.take (m' + 1)).map fun n => (i, n)) = ps ++ [(i, t)] := by
                  rw [← hps, List.take_add_one, ht, List.map_append, List.append_assoc]
                  rfl
                rw [hps] at A hpl q6 q7 q8
                have hwi : (wsL n ps)[i]? = some (wtB ps i) := wsL_get hil
                have hwb : wtB ps i < 1073741824 := by
                  have : wtB ps i ≤ ps.length := List.length_filter_le _ _
                  omega
                have i1 := ixb (prim := nP) (b := bb) (k := .i64) q3
                have i2 := ixw (prim := nP) (b := bw) (k := .i64) hil
                have kb := blk_row A.b
                have kw := blk_row q8.w
                have g1 := ints_get hwi
                have sw := st_w (prim := nP) (w := wtB ps i + 1) q8.w hwi
                rw [wsL_snoc hil] at sw
                have e3 : (wtB ps i : Int) + 1 = ((wtB ps i + 1 : Nat) : Int) := by omega
                (try simp -dsimp (disch := omega) only [h0, h4, h9, h10, h11, h12, h13, h49, h50, h51, h57, h58, h59, dM, ixn, p9, p40, p3, cst, cva, List.getElem?_cons_zero, lk, i1, i2, kb, kw, q1, q2, b40, nb, q4, q5, g1, e3, wrap64, sw, e2, AS, avals, apairs, bareP, AV.bare, AV.bares, Nat.reduceEqDiff, Nat.reduceLT, Nat.reduceAdd, ↓reduceIte, reduceCtorEq, resA, resA1, resVal, Nat.reduceLeDiff, nb_cfg, Nat.reduceBEq, AX, Int.reduceLT, Int.reduceLE, Int.reduceEq, Int.reduceAdd, Int.reduceSub, Int.reduceMul, Int.reduceNeg, Int.reduceNe])
                refine ⟨m1, by omega, m' + 1, by omega, fe_len, ?_, ?_, ?_, ?_, ?_, ?_, ?_, ?_, ?_, ?_, ?_, ?_, ?_, ?_, ?_, ?_, n1, n2, ?_⟩
                case refine_14 =>
                  rw [hps']
                  exact ⟨cs', q6, q7⟩
                case refine_15 =>
                  exact HV.set (HV.set (HV.toks hv T') (fun e => A.d3 e) (.inr rfl)) (fun e => A.d2 e) (.inl rfl)
                case refine_16 =>
                  show ((h.blks.set bb _).set bw _)[bx]? = _
                  rw [List.getElem?_set_ne (fun e => n1 e.symm), List.getElem?_set_ne (fun e => n2 e.symm)]
                  exact bk0
                case refine_17 =>
                  intro s hs
                  rw [List.take_add_one, ht] at hs
                  rcases List.mem_append.1 hs with hs | hs
                  · exact hkm s hs
                  · simp at hs
                    subst hs
                    rw [hp]
                    simp
                all_goals (try simp -dsimp (disch := omega) only [h0, h4, h9, h10, h11, h12, h13, h49, h50, h51, h57, h58, h59, AS, avals, apairs, bareP, AV.bare, AV.bares, Nat.reduceEqDiff, Nat.reduceLT, Nat.reduceAdd, ↓reduceIte, reduceCtorEq, resA, resA1, resVal, Nat.reduceLeDiff, nb_cfg, Nat.reduceBEq, AX, Int.reduceLT, Int.reduceLE, Int.reduceEq, Int.reduceAdd, Int.reduceSub, Int.reduceMul, Int.reduceNeg, Int.reduceNe])
            | zero =>
              have dM : decide ((m' : Int) < (x.2.length : Int)) = false := decide_eq_false (by omega)
              have htk : x.2.take m' = x.2 := List.take_of_length_le (by omega)
              rw [htk, ← prsF_take hx] at A
              rw [htk] at hkm
              have hwi : (wsL n (prsF 0 (l.take (i + 1))))[i]? = some x.2.length := by
                rw [wsL_get hil, prsF_take hx, wtB_app, wtB_row, wtB_none (fun p hp => by
                  have := prsF_lt hp
                  rw [List.length_take] at this
                  omega), Nat.zero_add]
              have hkn' : ∀ y ∈ l.take (i + 1), ∀ t ∈ y.2, plc l t ≠ none := by
                intro y hy t ht
                rw [take_snoc hx] at hy
                rcases List.mem_append.1 hy with hy | hy
                · exact hkn y hy t ht
                · simp at hy
                  subst hy
                  exact hkm t ht
              have i2 := ixw (prim := nP) (b := bw) (k := .i64) hil
              have kw := blk_row A.w
              have g1 := ints_get hwi
              by_cases hz : x.2 = []
              · have dz : decide ((x.2.length : Int) = 0) = true := by rw [hz]; rfl
                obtain ⟨val, y, h1, h', q1, q2, q3, q4, q5, q6, q7⟩ := hv_push (prim := nP) (a := x.1) hv A.d2 A.d3 (List.getElem?_eq_some_iff.1 A.w).1 (List.getElem?_eq_some_iff.1 A.b).1 (by
                  have h1 : (ids ((l.take i).filter fun x => x.2.isEmpty)).length ≤ (l.take i).length := by
                    unfold ids
                    rw [List.length_map]
                    exact List.length_filter_le _ _
                  rw [List.length_take] at h1
                  omega)
                have kv := blk_row q1
                (try simp -dsimp (disch := omega) only [h0, h4, h9, h10, h11, h12, h13, h49, h50, h51, h57, h58, h59, dM, p9, p3, p42, cst, cva, cag, List.getElem?_cons_zero, i2, kw, g1, dz, kv, q2, f0p, bk, bare_s, r_bs, nb97, appB_t, q3, q4, e1, wrap64, AS, avals, apairs, bareP, AV.bare, AV.bares, Nat.reduceEqDiff, Nat.reduceLT, Nat.reduceAdd, ↓reduceIte, reduceCtorEq, resA, resA1, resVal, Nat.reduceLeDiff, nb_cfg, Nat.reduceBEq, AX, Int.reduceLT, Int.reduceLE, Int.reduceEq, Int.reduceAdd, Int.reduceSub, Int.reduceMul, Int.reduceNeg, Int.reduceNe])
                refine ⟨m, by omega, i + 1, by omega, fe_len, ?_, ?_, ?_, ?_, ?_, ?_, ?_, ?_, ⟨cs, q7 _ _ _ _ A, T.of q6⟩, ?_, hkn'⟩
                case refine_9 =>
                  rw [take_snoc hx, List.filter_append, List.filter_cons, List.filter_nil, hz]
                  unfold ids
                  rw [List.map_append]
                  exact q5
                all_goals (try simp -dsimp (disch := omega) only [h0, h4, h9, h10, h11, h12, h13, h49, h50, h51, h57, h58, h59, AS, avals, apairs, bareP, AV.bare, AV.bares, Nat.reduceEqDiff, Nat.reduceLT, Nat.reduceAdd, ↓reduceIte, reduceCtorEq, resA, resA1, resVal, Nat.reduceLeDiff, nb_cfg, Nat.reduceBEq, AX, Int.reduceLT, Int.reduceLE, Int.reduceEq, Int.reduceAdd, Int.reduceSub, Int.reduceMul, Int.reduceNeg, Int.reduceNe])
              · have dz : decide ((x.2.length : Int) = 0) = false := by
                  have := List.length_pos_iff.2 hz
                  exact decide_eq_false (by omega)
                (try simp -dsimp (disch := omega) only [h0, h4, h9, h10, h11, h12, h13, h49, h50, h51, h57, h58, h59, dM, p9, p3, p42, cst, cva, cag, List.getElem?_cons_zero, i2, kw, g1, dz, e1, wrap64, AS, avals, apairs, bareP, AV.bare, AV.bares, Nat.reduceEqDiff, Nat.reduceLT, Nat.reduceAdd, ↓reduceIte, reduceCtorEq, resA, resA1, resVal, Nat.reduceLeDiff, nb_cfg, Nat.reduceBEq, AX, Int.reduceLT, Int.reduceLE, Int.reduceEq, Int.reduceAdd, Int.reduceSub, Int.reduceMul, Int.reduceNeg, Int.reduceNe])
                refine ⟨m, by omega, i + 1, by omega, fe_len, ?_, ?_, ?_, ?_, ?_, ?_, ?_, ?_, ⟨cs, A, T⟩, ?_, hkn'⟩
                case refine_9 =>
                  have he : x.2.isEmpty = false := by simpa using hz
                  rw [take_snoc hx, List.filter_append, List.filter_cons, List.filter_nil, he, if_neg (by simp), List.append_nil]
                  exact hv
                all_goals (try simp -dsimp (disch := omega) only [h0, h4, h9, h10, h11, h12, h13, h49, h50, h51, h57, h58, h59, AS, avals, apairs, bareP, AV.bare, AV.bares, Nat.reduceEqDiff, Nat.reduceLT, Nat.reduceAdd, ↓reduceIte, reduceCtorEq, resA, resA1, resVal, Nat.reduceLeDiff, nb_cfg, Nat.reduceBEq, AX, Int.reduceLT, Int.reduceLE, Int.reduceEq, Int.reduceAdd, Int.reduceSub, Int.reduceMul, Int.reduceNeg, Int.reduceNe])
          · refine ⟨0, by omega, fe_len, ?_, ?_, ?_, ?_, ?_, ?_, ?_, ?_, ?_, ?_, ?_, ?_, ?_, ⟨cs, ?_, T'⟩, V', bk0, n1, n2, fun t ht => by simp at ht⟩
            case refine_14 => simpa using A'
            all_goals (try simp -dsimp (disch := omega) only [h0, h4, h9, h10, h11, h49, h50, h51, AS, avals, apairs, bareP, AV.bare, AV.bares, Nat.reduceEqDiff, Nat.reduceLT, Nat.reduceAdd, ↓reduceIte, reduceCtorEq, resA, resA1, resVal, Nat.reduceLeDiff, nb_cfg, Nat.reduceBEq, AX, Int.reduceLT, Int.reduceLE, Int.reduceEq, Int.reduceAdd, Int.reduceSub, Int.reduceMul, Int.reduceNeg, Int.reduceNe])
            all_goals rfl
        | zero =>
          have dI : decide ((i : Int) < (n : Int)) = false := decide_eq_false (by omega)
          rw [show l.take i = l from List.take_of_length_le (by omega)] at A hv hkn
          obtain ⟨h', q1, hv', q2⟩ := hv_init hv
          have A' := q2 _ _ _ _ A
          have P0 := P3.init (ws := wsL n (prsF 0 l)) hnd (by rw [wsL_len, hn0]) (fun j x hx => by rw [wsL_get (by have := (List.getElem?_eq_some_iff.1 hx).1; omega), wtB_prs hx]) rfl
          (try simp -dsimp (disch := omega) only [h0, h4, h9, h10, h11, h49, h50, h51, dI, u44, ct_own (C := cfgP nP) (f := 16) rfl rfl, q1, AS, avals, apairs, bareP, AV.bare, AV.bares, Nat.reduceEqDiff, Nat.reduceLT, Nat.reduceAdd, ↓reduceIte, reduceCtorEq, resA, resA1, resVal, Nat.reduceLeDiff, nb_cfg, Nat.reduceBEq, AX, Int.reduceLT, Int.reduceLE, Int.reduceEq, Int.reduceAdd, Int.reduceSub, Int.reduceMul, Int.reduceNeg, Int.reduceNe])
          refine wt_loop (m := n) (fun m e h => ∃ out ws L v, out.length + m = n ∧ P3 l out [] ws L ∧ A3 X v n bw bb bh l out ws L e h) ?_ ?_
          · clear hn h0 h4 h9 h10 h11 h49 h50 h51 q1 q2 A' P0 hv' A T hv hbwl hbbl dI him
            clear e h cs h' i
            rintro m e h ⟨out, ws, L, v, hom, hP, hn, h0, h4, h9, h10, h11, h18, ⟨cs, A⟩, hv, hO⟩
            rw [fe_self hn]
            obtain ⟨val, k1, k2, k3⟩ := hv_len hv
            have kv := blk_row k1
            have lo := len25 (prim := nP) hO.el
            rw [List.length_map] at lo
            have hLl := hP.llen
            by_cases hne : L = []
            · subst hne
              have hrun := hP.done hnd
              have dL : decide (((([] : List Tx).length : Nat) : Int) > 0) = false := rfl
              by_cases ho : out.length < n
              · rw [allV_loop hnd hkn hrun (by omega)] at hV
                rw [← hV]
                have dO : decide ((out.length : Int) < (n : Int)) = true := decide_eq_true (by omega)
                (try simp -dsimp (disch := omega) only [h0, h4, h9, h10, h11, h18, kv, k2, p42, List.getElem?_cons_zero, ct_own (C := cfgP nP) (f := 17) rfl rfl, k3, dL, lo, lx, dO, AS, avals, apairs, bareP, AV.bare, AV.bares, Nat.reduceEqDiff, Nat.reduceLT, Nat.reduceAdd, ↓reduceIte, reduceCtorEq, resA, resA1, resVal, Nat.reduceLeDiff, nb_cfg, Nat.reduceBEq, AX, Int.reduceLT, Int.reduceLE, Int.reduceEq, Int.reduceAdd, Int.reduceSub, Int.reduceMul, Int.reduceNeg, Int.reduceNe])
                exact ⟨5, rfl⟩
              · rw [allV_ok hnd hkn hrun (by omega)] at hV
                rw [← hV]
                have dO : decide ((out.length : Int) < (n : Int)) = false := decide_eq_false (by omega)
                (try simp -dsimp (disch := omega) only [h0, h4, h9, h10, h11, h18, kv, k2, p42, List.getElem?_cons_zero, ct_own (C := cfgP nP) (f := 17) rfl rfl, k3, dL, lo, lx, dO, AS, avals, apairs, bareP, AV.bare, AV.bares, Nat.reduceEqDiff, Nat.reduceLT, Nat.reduceAdd, ↓reduceIte, reduceCtorEq, resA, resA1, resVal, Nat.reduceLeDiff, nb_cfg, Nat.reduceBEq, AX, Int.reduceLT, Int.reduceLE, Int.reduceEq, Int.reduceAdd, Int.reduceSub, Int.reduceMul, Int.reduceNeg, Int.reduceNe])
                rcases hO with ⟨rfl, rfl⟩ | ⟨hne, t, rfl, _⟩
                · exact ⟨5, rfl⟩
                · refine ⟨5, ?_⟩
                  unfold slS
                  rw [if_neg hne]
                  rfl
            · obtain ⟨k, x, hpk, hxk, hol, hP'⟩ := hP.pop hnd hne
              have hpos := List.length_pos_iff.2 hne
              have dL : decide ((L.length : Int) > 0) = true := decide_eq_true (by omega)
              obtain ⟨h1, q1, hR, q2, q3⟩ := hv_pop hv hne
              obtain ⟨t, ht⟩ : ∃ t, gt (popL L) (L.length - 1) = t := ⟨_, rfl⟩
              obtain ⟨K, hK⟩ : ∃ K, (popL L).take (L.length - 1) = K := ⟨_, rfl⟩
              rw [ht] at q1 hpk hP'
              rw [hK] at hR hP'
              have ty : tyaA (cfgP nP) 9 false (.iface 9 (str t)) = some (str t) := tya_at (d := .string) (by kernel_rfl) (fun i h => by cases h)
              obtain ⟨v', T', q4, q5⟩ := appA25 (prim := nP) (x := t) (hO.of q2) (by omega)
              have A1 := (q3 _ _ _ _ A).toks T'
              have lk := lk_some (prim := nP) A1.mp hpk (c := false)
              rw [if_neg (by simp)] at lk
              have hkn2 : k < n := by
                have := (List.getElem?_eq_some_iff.1 hxk).1
                omega
              have i1 := ixb (prim := nP) (b := bb) (k := .i64) hkn2
              obtain ⟨c, hc⟩ : ∃ c, cs[k]? = some c := ⟨_, List.getElem?_eq_getElem (by rw [A.cl]; omega)⟩
              have hce := A.ce k c hc
              have hcc := (elems_flat hce).1
              have lc := len40 (prim := nP) hce
              rw [ints_len] at lc
              have kb := blk_row A1.b
              have hR' : ∃ br g r, Rd { h1 with toks := T' } bh br g K r ∧ br ≠ bw ∧ br ≠ bb := by
                obtain ⟨br, g, r, hr, n1, n2⟩ := hR
                exact ⟨br, g, r, ⟨hr.v, hr.w, hr.n, hr.l⟩, n1, n2⟩
              obtain ⟨H2, hH2⟩ : ∃ H2, { h1 with toks := T' } = H2 := ⟨_, rfl⟩
              rw [hH2] at q4 q5 A1 lk kb hR'
              (try simp -dsimp (disch := omega) only [h0, h4, h9, h10, h11, h18, kv, k2, p42, p40, List.getElem?_cons_zero, ct_own (C := cfgP nP) (f := 17) rfl rfl, k3, dL, u44, ct_own (C := cfgP nP) (f := 18) rfl rfl, q1, ty, bare_s, b25, nb110, q4, lk, i1, kb, hc, hcc, lc, AS, avals, apairs, bareP, AV.bare, AV.bares, Nat.reduceEqDiff, Nat.reduceLT, Nat.reduceAdd, ↓reduceIte, reduceCtorEq, resA, resA1, resVal, Nat.reduceLeDiff, nb_cfg, Nat.reduceBEq, AX, Int.reduceLT, Int.reduceLE, Int.reduceEq, Int.reduceAdd, Int.reduceSub, Int.reduceMul, Int.reduceNeg, Int.reduceNe])
              obtain ⟨B, hB⟩ : ∃ B, byB l (prsF 0 l) k = B := ⟨_, rfl⟩
              rw [hB] at hP' hce
              have hBl : B.length < 1073741824 := by
                have h1 := prsF_len (c := 4096) (i := 0) (l := l) hN
                have h2 : B.length ≤ (prsF 0 l).length := by
                  rw [← hB]
                  unfold byB
                  rw [List.length_map]
                  exact List.length_filter_le _ _
                omega
              refine wt_loop (m := B.length) (fun m1 e h => ∃ m' ws L, m' + m1 = B.length ∧ P3 l (out ++ [t]) (B.drop m') ws L ∧ A3i X v' c n m' k bw bb bh l (out ++ [t]) ws L e h) ?_ ?_
              · clear hn h0 h4 h9 h10 h11 h18 q1 q2 q3 q4 A A1 lk kb hH2 hR' hR hc hcc lc kv k1 k2 k3 ht hK hP' hP hv hO q5 i1
                rintro m1 e h ⟨m', ws, L, hmm, hP, hn, h0, h4, h9, h10, h11, h18, h116, h117, h118, ⟨cs, A⟩, hR, hO⟩
                rw [hB] at h117
                rw [fe_self hn]
                cases m1 with
                | zero =>
                  have dM : decide ((m' : Int) < (B.length : Int)) = false := decide_eq_false (by omega)
                  rw [List.drop_eq_nil_of_le (by omega)] at hP
                  (try simp -dsimp (disch := omega) only [h0, h4, h9, h10, h11, h18, h116, h117, h118, dM, AS, avals, apairs, bareP, AV.bare, AV.bares, Nat.reduceEqDiff, Nat.reduceLT, Nat.reduceAdd, ↓reduceIte, reduceCtorEq, resA, resA1, resVal, Nat.reduceLeDiff, nb_cfg, Nat.reduceBEq, AX, Int.reduceLT, Int.reduceLE, Int.reduceEq, Int.reduceAdd, Int.reduceSub, Int.reduceMul, Int.reduceNeg, Int.reduceNe])
                  obtain ⟨br, g, r, hr, n1, n2⟩ := hR
                  refine ⟨m - 1, by omega, out ++ [t], ws, L, v', by rw [List.length_append, List.length_singleton]; omega, hP, fe_len, ?_, ?_, ?_, ?_, ?_, ?_, ⟨cs, A⟩, .inr ⟨br, g, r, hr, n1, n2⟩, hO⟩
                  all_goals (try simp -dsimp (disch := omega) only [h0, h4, h9, h10, h11, h18, AS, avals, apairs, bareP, AV.bare, AV.bares, Nat.reduceEqDiff, Nat.reduceLT, Nat.reduceAdd, ↓reduceIte, reduceCtorEq, resA, resA1, resVal, Nat.reduceLeDiff, nb_cfg, Nat.reduceBEq, AX, Int.reduceLT, Int.reduceLE, Int.reduceEq, Int.reduceAdd, Int.reduceSub, Int.reduceMul, Int.reduceNeg, Int.reduceNe])
                | succ m1 =>
                  have dM : decide ((m' : Int) < (B.length : Int)) = true := decide_eq_true (by omega)
                  have e2 : (m' : Int) + 1 = ((m' + 1 : Nat) : Int) := by omega
                  obtain ⟨j, hj⟩ : ∃ j, B[m']? = some j := ⟨_, List.getElem?_eq_getElem (by omega)⟩
                  have hdr : B.drop m' = j :: B.drop (m' + 1) := by
                    obtain ⟨h1, rfl⟩ := List.getElem?_eq_some_iff.1 hj
                    exact List.drop_eq_getElem_cons h1
                  rw [hdr] at hP
                  obtain ⟨w, y, hwj, hyj, _, hP2⟩ := hP.count hnd
                  have hjn : j < n := by
                    have := (List.getElem?_eq_some_iff.1 hyj).1
                    omega
                  have ixj := ix40 (prim := nP) (k := .i64) hce (ints_get hj) rfl
                  have i2 := ixw (prim := nP) (b := bw) (k := .i64) hjn
                  have kw := blk_row A.w
                  have g1 := ints_get hwj
                  have sw := st_w (prim := nP) (w := w) A.w hwj
                  have A2 := AH.setw A (ws' := ws.set j w) (by rw [List.length_set, A.wl])
                  have hwl : j < ws.length := (List.getElem?_eq_some_iff.1 hwj).1
                  have kw2 := blk_row A2.w
                  have g2 := ints_get (ws := ws.set j w) (i := j) (w := w) (List.getElem?_set_self hwl)
                  have e3 : ((w + 1 : Nat) : Int) - 1 = (w : Int) := by omega
                  have hwb : w < 4294967296 := by
                    have := hP.hw j y hyj
                    rw [hwj] at this
                    injection this with this
                    have c1 : wt (out ++ [t]) y ≤ y.2.length := List.length_filter_le _ _
                    have c2 := hN y (List.mem_of_getElem? hyj)
                    have c3 : (j :: B.drop (m' + 1)).count j ≤ (j :: B.drop (m' + 1)).length := List.count_le_length
                    rw [List.length_cons, List.length_drop] at c3
                    omega
                  by_cases hw0 : w = 0
                  · have dz : decide ((w : Int) = 0) = true := by rw [hw0]; rfl
                    rw [if_pos hw0] at hP2
                    obtain ⟨N, hyi, hNe⟩ := ItsE.get hI hyj
                    have ixx := ix22 (prim := nP) (k := .i64) hX hyi
                    have hR2 : ∃ br g r, Rd (setW h bw (ints (ws.set j w))) bh br g L r ∧ br ≠ bw ∧ br ≠ bb := by
                      obtain ⟨br, g, r, hr, n1, n2⟩ := hR
                      exact ⟨br, g, r, rd_set hr (fun e => A.d2 e) (fun e => n1 e.symm), n1, n2⟩
                    have hLl := hP.llen
                    obtain ⟨h1, q1, q2, q3, q4⟩ := hv_hpush (x := y.1) hR2 (by omega)
                    (try simp -dsimp (disch := omega) only [h0, h4, h9, h10, h11, h18, h116, h117, h118, dM, ixj, i2, kw, g1, p3, p9, cva, cag, e3, wrap64, sw, kw2, g2, dz, u44, u9, ixx, f0r, List.getElem?_cons_zero, ct_own (C := cfgP nP) (f := 19) rfl rfl, q1, e2, AS, avals, apairs, bareP, AV.bare, AV.bares, Nat.reduceEqDiff, Nat.reduceLT, Nat.reduceAdd, ↓reduceIte, reduceCtorEq, resA, resA1, resVal, Nat.reduceLeDiff, nb_cfg, Nat.reduceBEq, AX, Int.reduceLT, Int.reduceLE, Int.reduceEq, Int.reduceAdd, Int.reduceSub, Int.reduceMul, Int.reduceNeg, Int.reduceNe])
                    refine ⟨m1, by omega, m' + 1, ws.set j w, pushL L y.1, by omega, hP2, fe_len, ?_, ?_, ?_, ?_, ?_, ?_, ?_, ?_, ?_, ⟨cs, q4 _ _ _ _ A2⟩, q2, hO.of q3⟩
                    all_goals (try rw [hB])
                    all_goals (try simp -dsimp (disch := omega) only [h0, h4, h9, h10, h11, h18, h116, h117, AS, avals, apairs, bareP, AV.bare, AV.bares, Nat.reduceEqDiff, Nat.reduceLT, Nat.reduceAdd, ↓reduceIte, reduceCtorEq, resA, resA1, resVal, Nat.reduceLeDiff, nb_cfg, Nat.reduceBEq, AX, Int.reduceLT, Int.reduceLE, Int.reduceEq, Int.reduceAdd, Int.reduceSub, Int.reduceMul, Int.reduceNeg, Int.reduceNe])
                  · have dz : decide ((w : Int) = 0) = false := decide_eq_false (by omega)
                    rw [if_neg hw0] at hP2
                    have hR2 : ∃ br g r, Rd (setW h bw (ints (ws.set j w))) bh br g L r ∧ br ≠ bw ∧ br ≠ bb := by
                      obtain ⟨br, g, r, hr, n1, n2⟩ := hR
                      exact ⟨br, g, r, rd_set hr (fun e => A.d2 e) (fun e => n1 e.symm), n1, n2⟩
                    (try simp -dsimp (disch := omega) only [h0, h4, h9, h10, h11, h18, h116, h117, h118, dM, ixj, i2, kw, g1, p3, p9, cva, cag, e3, wrap64, sw, kw2, g2, dz, e2, AS, avals, apairs, bareP, AV.bare, AV.bares, Nat.reduceEqDiff, Nat.reduceLT, Nat.reduceAdd, ↓reduceIte, reduceCtorEq, resA, resA1, resVal, Nat.reduceLeDiff, nb_cfg, Nat.reduceBEq, AX, Int.reduceLT, Int.reduceLE, Int.reduceEq, Int.reduceAdd, Int.reduceSub, Int.reduceMul, Int.reduceNeg, Int.reduceNe])
                    refine ⟨m1, by omega, m' + 1, ws.set j w, L, by omega, hP2, fe_len, ?_, ?_, ?_, ?_, ?_, ?_, ?_, ?_, ?_, ⟨cs, A2⟩, hR2, hO.of rfl⟩
                    all_goals (try rw [hB])
                    all_goals (try simp -dsimp (disch := omega) only [h0, h4, h9, h10, h11, h18, h116, h117, AS, avals, apairs, bareP, AV.bare, AV.bares, Nat.reduceEqDiff, Nat.reduceLT, Nat.reduceAdd, ↓reduceIte, reduceCtorEq, resA, resA1, resVal, Nat.reduceLeDiff, nb_cfg, Nat.reduceBEq, AX, Int.reduceLT, Int.reduceLE, Int.reduceEq, Int.reduceAdd, Int.reduceSub, Int.reduceMul, Int.reduceNeg, Int.reduceNe])
              · refine ⟨0, ws, K, by omega, hP', fe_len, ?_, ?_, ?_, ?_, ?_, ?_, ?_, ?_, ?_, ⟨cs, A1⟩, hR', q5⟩
                all_goals (try simp -dsimp (disch := omega) only [h0, h4, h9, h10, h11, h18, AS, avals, apairs, bareP, AV.bare, AV.bares, Nat.reduceEqDiff, Nat.reduceLT, Nat.reduceAdd, ↓reduceIte, reduceCtorEq, resA, resA1, resVal, Nat.reduceLeDiff, nb_cfg, Nat.reduceBEq, AX, Int.reduceLT, Int.reduceLE, Int.reduceEq, Int.reduceAdd, Int.reduceSub, Int.reduceMul, Int.reduceNeg, Int.reduceNe])
                all_goals rfl
          · refine ⟨[], wsL n (prsF 0 l), _, nilS, by simp, P0, fe_len, ?_, ?_, ?_, ?_, ?_, ?_, ⟨cs, A'⟩, hv', .inl ⟨rfl, rfl⟩⟩
            all_goals (try simp -dsimp (disch := omega) only [h0, h4, h9, h10, h11, AS, avals, apairs, bareP, AV.bare, AV.bares, Nat.reduceEqDiff, Nat.reduceLT, Nat.reduceAdd, ↓reduceIte, reduceCtorEq, resA, resA1, resVal, Nat.reduceLeDiff, nb_cfg, Nat.reduceBEq, AX, Int.reduceLT, Int.reduceLE, Int.reduceEq, Int.reduceAdd, Int.reduceSub, Int.reduceMul, Int.reduceNeg, Int.reduceNe])
      · refine ⟨0, by omega, fe_len, ?_, ?_, ?_, ?_, ?_, ?_, ?_, ?_, ⟨List.replicate n nilS, ⟨hmp3, hw3, hb3, by rw [wsL_len, hn0], by rw [List.length_replicate, hn0], ?_, d1, d2, d3⟩, ⟨?_, ?_, ?_⟩⟩, .inl ⟨by simp [ids], hh3⟩, fun x hx => by simp at hx⟩
        case refine_9 =>
          intro k c hc
          rw [hrep k c hc]
          rfl
        case refine_10 =>
          intro k t xs hc
          have := hrep k _ hc
          cases this
        case refine_11 =>
          intro k k' t xs xs' hc
          have := hrep k _ hc
          cases this
        case refine_12 =>
          intro k c hc
          exact .inl (hrep k c hc)
        all_goals (try simp -dsimp (disch := omega) only [h0, h4, AS, avals, apairs, bareP, AV.bare, AV.bares, Nat.reduceEqDiff, Nat.reduceLT, Nat.reduceAdd, ↓reduceIte, reduceCtorEq, resA, resA1, resVal, Nat.reduceLeDiff, nb_cfg, Nat.reduceBEq, AX, Int.reduceLT, Int.reduceLE, Int.reduceEq, Int.reduceAdd, Int.reduceSub, Int.reduceMul, Int.reduceNeg, Int.reduceNe])
        all_goals rfl
  · refine ⟨0, by omega, by simp [ids], fe_len, ?_, ?_, ?_, ?_, ?_, ?_, rfl⟩
    case refine_6 => exact ⟨[], rfl, fun t => rfl⟩
    all_goals (try simp -dsimp (disch := omega) only [h0, AS, avals, apairs, bareP, AV.bare, AV.bares, Nat.reduceEqDiff, Nat.reduceLT, Nat.reduceAdd, ↓reduceIte, reduceCtorEq, resA, resA1, resVal, Nat.reduceLeDiff, nb_cfg, Nat.reduceBEq, AX, Int.reduceLT, Int.reduceLE, Int.reduceEq, Int.reduceAdd, Int.reduceSub, Int.reduceMul, Int.reduceNeg, Int.reduceNe])
    all_goals rfl
end Go.Proofs.Ytcimffpckcbdlaa
