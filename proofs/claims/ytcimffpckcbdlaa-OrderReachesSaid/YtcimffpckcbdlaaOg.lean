/- Contracts of functions, and plain facts about what they compute. -/
import Derived.Test.YtcimffpckcbdlaaOf
set_option linter.unusedSimpArgs false
set_option linter.unusedVariables false
/- Chapter 22: the document's Reach is what is reached. -/
namespace Go.Proofs.Ytcimffpckcbdlaa
open Go.AM
noncomputable def ow2 : FuncId → Option (List AV → Option AV) := tab [(22, placeQ), (23, hasQ)]
theorem ow2_ok : (cfgP ow2).Ok := cfg_ok (tab_ok ⟨prim_at Try.func22 (by kernel_rfl) rfl (placeQ_ok), prim_at Try.func23 (by kernel_rfl) rfl (hasQ_ok), trivial⟩)
open Classical in
noncomputable def ascL (L : List Tx) : List Tx := if h : ∃ R : List Tx, Asc R ∧ ∀ t, t ∈ R ↔ t ∈ L then h.choose else []
theorem ascL_eq {L R : List Tx} (h1 : Asc R) (h2 : ∀ t, t ∈ R ↔ t ∈ L) : R = ascL L := by
  have h : ∃ R : List Tx, Asc R ∧ ∀ t, t ∈ R ↔ t ∈ L := ⟨R, h1, h2⟩
  unfold ascL
  rw [dif_pos h]
  obtain ⟨h3, h4⟩ := h.choose_spec
  exact asc_uniq h1 h3 fun t => (h2 t).trans (h4 t).symm
structure Sq where
  h : Hp
  S : AV
  L : List Tx
def Sq.ok (p : Sq) : Prop := elems p.S = some (p.L.map str) ∧ p.L.length < 1073741824
theorem callOk_prim {prim prim' : FuncId → Option (List AV → Option AV)} {f : FuncId} {xs : List AV} {H H' : Hp} {r : AV} (h : CallOk (cfgP prim) f xs H r H') : CallOk (cfgP prim') f xs H r H' := by
  intro G W vs S rv
  have := h G W vs (Sim.other (C := cfgP prim') (C' := cfgP prim) rfl rfl S) rv
  exact this.mono fun e W' ⟨y, he, G', ry, S', A⟩ => ⟨y, he, G', ry, Sim.other (C := cfgP prim) (C' := cfgP prim') rfl rfl S', A⟩
noncomputable def sqT := relT 24 Sq.ok (fun p => [p.S]) Sq.h (fun p => srV p.h (ascL p.L)) (fun p => srH p.h (ascL p.L))
theorem sqT_ok : CallsOk (cfgP ow2) sqT := relT_ok (fns_cfg Try.func24 rfl) rfl fun p hp => callOk_prim (sorted_ok p.h p.S p.L (ascL p.L) hp.1 hp.2 fun R h1 h2 => ascL_eq h1 h2)
theorem sqT_at {h : Hp} {S : AV} {L : List Tx} (h1 : elems S = some (L.map str)) (h2 : L.length < 1073741824) : sqT 24 [S] h = some (srV h (ascL L), srH h (ascL L)) :=
  relT_eq (f0 := 24) (X := Sq.ok) (a := fun p => [p.S]) (h := Sq.h) (r := fun p => srV p.h (ascL p.L)) (h' := fun p => srH p.h (ascL p.L)) (fun p q hp hq ha hh => by
    obtain ⟨h, S, L⟩ := p
    obtain ⟨h', S', L'⟩ := q
    injection ha with a1 _
    simp only at a1 hh
    subst a1 hh
    have h1 := hp.1
    have h2 := hq.1
    simp only at h1 h2
    rw [h1] at h2
    injection h2 with h2
    rw [strs_eq h2]
    exact ⟨rfl, rfl⟩) ⟨h, S, L⟩ ⟨h1, h2⟩
theorem RI.snoc {l : List It} {fr out : List Tx} {i : Nat} {t : Tx} (h : RI l fr out i) (hi : i ≤ out.length) (ht : t ∉ out) (hr : Rc l fr t) : RI l fr (out ++ [t]) i := by
  refine ⟨nodup_snoc h.nd ht, fun u hu => ?_, fun u hu => ?_, fun j hj s hs u hu => ?_⟩
  · rcases List.mem_append.1 hu with hu | hu
    · exact h.so u hu
    · simp at hu
      subst hu
      exact hr
  · exact (h.cf u hu).imp (fun x => List.mem_append_left _ x) id
  · rw [List.getElem?_append_left (by omega)] at hs
    exact (h.cc j hj s hs u hu).imp (fun x => List.mem_append_left _ x) id
structure Q1 (X F v : AV) (i : Nat) (e : Env) (h : Hp) : Prop where
  len : e.length = 86
  a0 : aget e 0 = X
  a1 : aget e 1 = F
  a5 : aget e 5 = v
  a6 : aget e 6 = .v (.int .i64 (i : Int))
structure Q2 (X v : AV) (i : Nat) (e : Env) (h : Hp) : Prop where
  len : e.length = 86
  a0 : aget e 0 = X
  a5 : aget e 5 = v
  a7 : aget e 7 = .v (.int .i64 (i : Int))
structure Q3 (X v N : AV) (i k : Nat) (e : Env) (h : Hp) : Prop where
  len : e.length = 86
  a0 : aget e 0 = X
  a5 : aget e 5 = v
  a7 : aget e 7 = .v (.int .i64 (i : Int))
  a8 : aget e 8 = N
  a9 : aget e 9 = .v (.int .i64 (k : Int))
theorem OutOk.two {h : Hp} {v : AV} {out : List Tx} (O : OutOk h v out) : (out = [] ∧ v = nilS) ∨ ∃ tk, v = .ap tk (out.map str) ∧ ∀ x : Tx, AV.thaws h 1000 [.ap tk (out.map str), str x] = some [.ro (out.map str), str x] := by
  rcases O with O | ⟨_, tk, rfl, _⟩
  · exact .inl O
  · exact .inr ⟨tk, rfl, fun _ => rfl⟩
theorem thaw_sr {h : Hp} {R : List Tx} : ∃ n, (srV h R).thaw (srH h R) n = some (slS R) := by
  cases R with
  | nil => exact ⟨5, rfl⟩
  | cons x R =>
    have hne : x :: R ≠ [] := by simp
    have hb := sr_blk (H := h) hne
    rw [show (x :: R).map str = (x :: R).map str ++ [] from (List.append_nil _).symm] at hb
    refine ⟨_, (thaw_row hb).trans ?_⟩
    unfold slS
    rw [if_neg hne]
set_option maxHeartbeats 16000000 in
set_option maxRecDepth 100000 in
theorem reachR_ok (l : List It) (X : AV) (ys : List AV) (fr : List Tx) (F : AV) (hX : elems X = some ys) (bX : X.bare = some X) (hI : ItsE l ys) (hF : elems F = some (fr.map str)) (hl : l.length < 1073741824) (hN : ∀ x ∈ l, x.2.length < 1073741824) (hf : fr.length < 1073741824) : PureOk (cfgP ow2) 14 [X, F] (slS (reachL l fr)) := by
  have lx := len22 (prim := ow2) hX
  rw [ItsE.length hI] at lx
  have lf := len25 (prim := ow2) hF
  rw [List.length_map] at lf
  have pq : ∀ t, placeQ [X, str t] = some (.v (.int .i64 (plI l t))) := fun t => placeQ_eq hX hI hl
  have nb : nbOf (cfgP ow2) 14 (some 38) = false := by rfl
  have nb2 : nbOf (cfgP ow2) 14 (some 83) = false := by rfl
  obtain ⟨V, hV⟩ : ∃ V, slS (reachL l fr) = V := ⟨_, rfl⟩
  rw [hV]
  have pp : (cfgP ow2).prim 22 = some placeQ := by rfl
  have ph : (cfgP ow2).prim 23 = some hasQ := by rfl
  have d0 : decide ((-1 : Int) ≥ 0) = false := rfl
  refine pure_of_wk (call := sqT) (fn := Try.f14) (rs := [.tmp 4]) ow2_ok sqT_ok (fns_cfg Try.func14 rfl) rfl rfl ?_
  intro env hl0 hargs
  have hn : env.length = 86 := hl0
  have h0 := hargs 0 _ rfl
  have h1 := hargs 1 _ rfl
  clear hargs hl0
  refine wkT_of ?_
  rw [fe_self hn]
  (try simp -dsimp (disch := omega) only [h0, h1, lx, AS, avals, apairs, bareP, AV.bare, AV.bares, Nat.reduceEqDiff, Nat.reduceLT, Nat.reduceAdd, ↓reduceIte, reduceCtorEq, resA, resA1, resVal, Nat.reduceLeDiff, nb_cfg, Nat.reduceBEq, AX, Int.reduceLT, Int.reduceLE, Int.reduceEq, Int.reduceAdd, Int.reduceSub, Int.reduceMul, Int.reduceNeg, Int.reduceNe])
  refine wt_loop (m := fr.length) (fun m e h => ∃ i out v, i + m = fr.length ∧ OutOk h v out ∧ out.Nodup ∧ (∀ t ∈ out, Rc l fr t) ∧ (∀ t ∈ fr.take i, t ∈ out ∨ plc l t = none) ∧ Q1 X F v i e h) ?_ ?_
  · clear hn h0 h1
    rintro m e h ⟨i, out, v, him, hO, hnd, hso, hcf, hn, h0, h1, h5, h6⟩
    rw [fe_self hn]
    have hol := RI.sub hnd hso
    cases m with
    | succ m =>
      have dI : decide ((i : Int) < (fr.length : Int)) = true := decide_eq_true (by omega)
      obtain ⟨t, ht⟩ : ∃ t, fr[i]? = some t := ⟨_, List.getElem?_eq_getElem (by omega)⟩
      have hti : t ∈ fr := List.mem_of_getElem? ht
      have ixx := ix25 (prim := ow2) (k := .i64) hF (tx_get ht) rfl
      have e1 : (i : Int) + 1 = ((i + 1 : Nat) : Int) := by omega
      have hcf' : ∀ out' : List Tx, (∀ u ∈ out, u ∈ out') → (t ∈ out' ∨ plc l t = none) → ∀ u ∈ fr.take (i + 1), u ∈ out' ∨ plc l u = none := by
        intro out' hs h u hu
        rw [take_snocT ht] at hu
        rcases List.mem_append.1 hu with hu | hu
        · exact (hcf u hu).imp (hs u) id
        · simp at hu
          subst hu
          exact h
      cases hp : plc l t with
      | none =>
        have pq1 := pq t
        rw [plI_none hp] at pq1
        (try simp -dsimp (disch := omega) only [h0, h1, h5, h6, lf, dI, ixx, cst, p9, List.getElem?_cons_zero, ct_prim pp, bare_s, bX, pq1, d0, e1, wrap64, AS, avals, apairs, bareP, AV.bare, AV.bares, Nat.reduceEqDiff, Nat.reduceLT, Nat.reduceAdd, ↓reduceIte, reduceCtorEq, resA, resA1, resVal, Nat.reduceLeDiff, nb_cfg, Nat.reduceBEq, AX, Int.reduceLT, Int.reduceLE, Int.reduceEq, Int.reduceAdd, Int.reduceSub, Int.reduceMul, Int.reduceNeg, Int.reduceNe])
        refine ⟨m, by omega, i + 1, out, v, by omega, hO, hnd, hso, hcf' out (fun _ h => h) (.inr hp), fe_len, ?_, ?_, ?_, ?_⟩
        all_goals (try simp -dsimp (disch := omega) only [h0, h1, h5, AS, avals, apairs, bareP, AV.bare, AV.bares, Nat.reduceEqDiff, Nat.reduceLT, Nat.reduceAdd, ↓reduceIte, reduceCtorEq, resA, resA1, resVal, Nat.reduceLeDiff, nb_cfg, Nat.reduceBEq, AX, Int.reduceLT, Int.reduceLE, Int.reduceEq, Int.reduceAdd, Int.reduceSub, Int.reduceMul, Int.reduceNeg, Int.reduceNe])
      | some p =>
        have pq1 := pq t
        rw [plI_some hp] at pq1
        have d1 : decide ((p : Int) ≥ 0) = true := decide_eq_true (by omega)
        by_cases hto : t ∈ out
        · have dm : decide (t ∈ out) = true := decide_eq_true hto
          rcases hO.two with ⟨rfl, rfl⟩ | ⟨tk, rfl, th⟩
          · have hq := fun t => hasQ_eq (L := []) (S := nilS) (t := t) rfl (by decide)
            have hO' := hO
            (try simp -dsimp (disch := omega) only [h0, h1, h5, h6, lf, dI, ixx, cst, p9, List.getElem?_cons_zero, ct_prim pp, bare_s, bX, pq1, d1, ct_prim ph, hq, dm, e1, wrap64, AS, avals, apairs, bareP, AV.bare, AV.bares, Nat.reduceEqDiff, Nat.reduceLT, Nat.reduceAdd, ↓reduceIte, reduceCtorEq, resA, resA1, resVal, Nat.reduceLeDiff, nb_cfg, Nat.reduceBEq, AX, Int.reduceLT, Int.reduceLE, Int.reduceEq, Int.reduceAdd, Int.reduceSub, Int.reduceMul, Int.reduceNeg, Int.reduceNe])
            refine ⟨m, by omega, i + 1, [], _, by omega, hO', hnd, hso, hcf' [] (fun _ h => h) (.inl hto), fe_len, ?_, ?_, ?_, ?_⟩
            all_goals (try simp -dsimp (disch := omega) only [h0, h1, h5, AS, avals, apairs, bareP, AV.bare, AV.bares, Nat.reduceEqDiff, Nat.reduceLT, Nat.reduceAdd, ↓reduceIte, reduceCtorEq, resA, resA1, resVal, Nat.reduceLeDiff, nb_cfg, Nat.reduceBEq, AX, Int.reduceLT, Int.reduceLE, Int.reduceEq, Int.reduceAdd, Int.reduceSub, Int.reduceMul, Int.reduceNeg, Int.reduceNe])
          · have hq := fun t => hasQ_eq (L := out) (S := .ro (out.map str)) (t := t) rfl (by omega)
            have th' := th t
            have hO' := hO
            (try simp -dsimp (disch := omega) only [h0, h1, h5, h6, lf, dI, ixx, cst, p9, List.getElem?_cons_zero, ct_prim pp, bare_s, bX, pq1, d1, ct_prim ph, th', plain_bool, plainA_v plain_bool, hq, dm, e1, wrap64, AS, avals, apairs, bareP, AV.bare, AV.bares, Nat.reduceEqDiff, Nat.reduceLT, Nat.reduceAdd, ↓reduceIte, reduceCtorEq, resA, resA1, resVal, Nat.reduceLeDiff, nb_cfg, Nat.reduceBEq, AX, Int.reduceLT, Int.reduceLE, Int.reduceEq, Int.reduceAdd, Int.reduceSub, Int.reduceMul, Int.reduceNeg, Int.reduceNe])
            refine ⟨m, by omega, i + 1, out, _, by omega, hO', hnd, hso, hcf' out (fun _ h => h) (.inl hto), fe_len, ?_, ?_, ?_, ?_⟩
            all_goals (try simp -dsimp (disch := omega) only [h0, h1, h5, AS, avals, apairs, bareP, AV.bare, AV.bares, Nat.reduceEqDiff, Nat.reduceLT, Nat.reduceAdd, ↓reduceIte, reduceCtorEq, resA, resA1, resVal, Nat.reduceLeDiff, nb_cfg, Nat.reduceBEq, AX, Int.reduceLT, Int.reduceLE, Int.reduceEq, Int.reduceAdd, Int.reduceSub, Int.reduceMul, Int.reduceNeg, Int.reduceNe])
        · have dm : decide (t ∈ out) = false := decide_eq_false hto
          obtain ⟨v', T', q1, q2⟩ := appA25 (prim := ow2) (x := t) hO (by omega)
          have hrc : Rc l fr t := ⟨.base hti, by rw [hp]; simp⟩
          have hso' : ∀ u ∈ out ++ [t], Rc l fr u := by
            intro u hu
            rcases List.mem_append.1 hu with hu | hu
            · exact hso u hu
            · simp at hu
              subst hu
              exact hrc
          rcases hO.two with ⟨rfl, rfl⟩ | ⟨tk, rfl, th⟩
          · have hq := fun t => hasQ_eq (L := []) (S := nilS) (t := t) rfl (by decide)
            have hO' := hO
            (try simp -dsimp (disch := omega) only [h0, h1, h5, h6, lf, dI, ixx, cst, p9, List.getElem?_cons_zero, ct_prim pp, bare_s, bX, pq1, d1, ct_prim ph, hq, dm, b25, nb, q1, e1, wrap64, AS, avals, apairs, bareP, AV.bare, AV.bares, Nat.reduceEqDiff, Nat.reduceLT, Nat.reduceAdd, ↓reduceIte, reduceCtorEq, resA, resA1, resVal, Nat.reduceLeDiff, nb_cfg, Nat.reduceBEq, AX, Int.reduceLT, Int.reduceLE, Int.reduceEq, Int.reduceAdd, Int.reduceSub, Int.reduceMul, Int.reduceNeg, Int.reduceNe])
            refine ⟨m, by omega, i + 1, [] ++ [t], v', by omega, q2, nodup_snoc hnd hto, hso', hcf' _ (fun u h => List.mem_append_left _ h) (.inl (by simp)), fe_len, ?_, ?_, ?_, ?_⟩
            all_goals (try simp -dsimp (disch := omega) only [h0, h1, h5, AS, avals, apairs, bareP, AV.bare, AV.bares, Nat.reduceEqDiff, Nat.reduceLT, Nat.reduceAdd, ↓reduceIte, reduceCtorEq, resA, resA1, resVal, Nat.reduceLeDiff, nb_cfg, Nat.reduceBEq, AX, Int.reduceLT, Int.reduceLE, Int.reduceEq, Int.reduceAdd, Int.reduceSub, Int.reduceMul, Int.reduceNeg, Int.reduceNe])
          · have hq := fun t => hasQ_eq (L := out) (S := .ro (out.map str)) (t := t) rfl (by omega)
            have th' := th t
            have hO' := hO
            (try simp -dsimp (disch := omega) only [h0, h1, h5, h6, lf, dI, ixx, cst, p9, List.getElem?_cons_zero, ct_prim pp, bare_s, bX, pq1, d1, ct_prim ph, th', plain_bool, plainA_v plain_bool, hq, dm, b25, nb, q1, e1, wrap64, AS, avals, apairs, bareP, AV.bare, AV.bares, Nat.reduceEqDiff, Nat.reduceLT, Nat.reduceAdd, ↓reduceIte, reduceCtorEq, resA, resA1, resVal, Nat.reduceLeDiff, nb_cfg, Nat.reduceBEq, AX, Int.reduceLT, Int.reduceLE, Int.reduceEq, Int.reduceAdd, Int.reduceSub, Int.reduceMul, Int.reduceNeg, Int.reduceNe])
            refine ⟨m, by omega, i + 1, out ++ [t], v', by omega, q2, nodup_snoc hnd hto, hso', hcf' _ (fun u h => List.mem_append_left _ h) (.inl (by simp)), fe_len, ?_, ?_, ?_, ?_⟩
            all_goals (try simp -dsimp (disch := omega) only [h0, h1, h5, AS, avals, apairs, bareP, AV.bare, AV.bares, Nat.reduceEqDiff, Nat.reduceLT, Nat.reduceAdd, ↓reduceIte, reduceCtorEq, resA, resA1, resVal, Nat.reduceLeDiff, nb_cfg, Nat.reduceBEq, AX, Int.reduceLT, Int.reduceLE, Int.reduceEq, Int.reduceAdd, Int.reduceSub, Int.reduceMul, Int.reduceNeg, Int.reduceNe])
    | zero =>
      have dI : decide ((i : Int) < (fr.length : Int)) = false := decide_eq_false (by omega)
      rw [List.take_of_length_le (by omega)] at hcf
      have hR : RI l fr out 0 := ⟨hnd, hso, hcf, fun j hj => by omega⟩
      (try simp -dsimp (disch := omega) only [h0, h1, h5, h6, lf, dI, AS, avals, apairs, bareP, AV.bare, AV.bares, Nat.reduceEqDiff, Nat.reduceLT, Nat.reduceAdd, ↓reduceIte, reduceCtorEq, resA, resA1, resVal, Nat.reduceLeDiff, nb_cfg, Nat.reduceBEq, AX, Int.reduceLT, Int.reduceLE, Int.reduceEq, Int.reduceAdd, Int.reduceSub, Int.reduceMul, Int.reduceNeg, Int.reduceNe])
      clear hnd hso hcf hol
      refine wt_loop (m := l.length) (fun m e h => ∃ i out v, i + m = l.length ∧ i ≤ out.length ∧ OutOk h v out ∧ RI l fr out i ∧ Q2 X v i e h) ?_ ?_
      · clear hn h0 h1 h5 h6 hR hO dI him e h out v i
        rintro m e h ⟨i, out, v, him, hio, hO, hR, hn, h0, h5, h7⟩
        rw [fe_self hn]
        have hol := RI.sub hR.nd hR.so
        have lo := len25 (prim := ow2) hO.el
        rw [List.length_map] at lo
        by_cases hi : i < out.length
        · have dI : decide ((i : Int) < (out.length : Int)) = true := decide_eq_true (by omega)
          have e1 : (i : Int) + 1 = ((i + 1 : Nat) : Int) := by omega
          obtain ⟨s, hs⟩ : ∃ s, out[i]? = some s := ⟨_, List.getElem?_eq_getElem hi⟩
          have hsr := hR.so s (List.mem_of_getElem? hs)
          obtain ⟨p, hp⟩ : ∃ p, plc l s = some p := Option.ne_none_iff_exists'.1 hsr.2
          obtain ⟨x, hx, hxs⟩ := plc_some hp
          have hnx := nds_of hp hx
          obtain ⟨N, hyi, hNe⟩ := ItsE.get hI hx
          have hNc := (elems_flat hNe).1
          have hxl := hN x (List.mem_of_getElem? hx)
          have ixo := ix25 (prim := ow2) (k := .i64) hO.el (tx_get hs) rfl
          have ixx := ix22 (prim := ow2) (k := .i64) hX hyi
          have lN := len25 (prim := ow2) hNe
          rw [List.length_map] at lN
          have pq1 := pq s
          rw [plI_some hp] at pq1
          (try simp -dsimp (disch := omega) only [h0, h5, h7, lo, dI, ixo, cst, cag, p9, p25, List.getElem?_cons_zero, List.getElem?_cons_succ, ct_prim pp, bare_s, bX, pq1, ixx, f1r, Nat.zero_add, hNc, AS, avals, apairs, bareP, AV.bare, AV.bares, Nat.reduceEqDiff, Nat.reduceLT, Nat.reduceAdd, ↓reduceIte, reduceCtorEq, resA, resA1, resVal, Nat.reduceLeDiff, nb_cfg, Nat.reduceBEq, AX, Int.reduceLT, Int.reduceLE, Int.reduceEq, Int.reduceAdd, Int.reduceSub, Int.reduceMul, Int.reduceNeg, Int.reduceNe])
          refine wt_loop (m := x.2.length) (fun m1 e h => ∃ k out v, k + m1 = x.2.length ∧ i < out.length ∧ OutOk h v out ∧ RI l fr out i ∧ out[i]? = some s ∧ (∀ t ∈ x.2.take k, t ∈ out ∨ plc l t = none) ∧ Q3 X v N i k e h) ?_ ?_
          · clear hn h0 h5 h7 ixo lo hs hi hol hR hO hio dI e h out v pq1
            rintro m1 e h ⟨k, out, v, hkm, hi, hO, hR, hs, hc, hn, h0, h5, h7, h8, h9⟩
            rw [fe_self hn]
            have hol := RI.sub hR.nd hR.so
            cases m1 with
            | zero =>
              have dK : decide ((k : Int) < (x.2.length : Int)) = false := decide_eq_false (by omega)
              rw [List.take_of_length_le (by omega)] at hc
              (try simp -dsimp (disch := omega) only [h0, h5, h7, h8, h9, lN, dK, e1, wrap64, AS, avals, apairs, bareP, AV.bare, AV.bares, Nat.reduceEqDiff, Nat.reduceLT, Nat.reduceAdd, ↓reduceIte, reduceCtorEq, resA, resA1, resVal, Nat.reduceLeDiff, nb_cfg, Nat.reduceBEq, AX, Int.reduceLT, Int.reduceLE, Int.reduceEq, Int.reduceAdd, Int.reduceSub, Int.reduceMul, Int.reduceNeg, Int.reduceNe])
              refine ⟨m - 1, by omega, i + 1, out, v, by omega, by omega, hO, ⟨hR.nd, hR.so, hR.cf, ?_⟩, fe_len, ?_, ?_, ?_⟩
              case refine_1 =>
                intro j hj s' hs' t ht
                by_cases e : j = i
                · subst e
                  rw [hs] at hs'
                  injection hs' with hs'
                  subst hs'
                  rw [hnx] at ht
                  exact hc t ht
                · exact hR.cc j (by omega) s' hs' t ht
              all_goals (try simp -dsimp (disch := omega) only [h0, h5, AS, avals, apairs, bareP, AV.bare, AV.bares, Nat.reduceEqDiff, Nat.reduceLT, Nat.reduceAdd, ↓reduceIte, reduceCtorEq, resA, resA1, resVal, Nat.reduceLeDiff, nb_cfg, Nat.reduceBEq, AX, Int.reduceLT, Int.reduceLE, Int.reduceEq, Int.reduceAdd, Int.reduceSub, Int.reduceMul, Int.reduceNeg, Int.reduceNe])
            | succ m1 =>
              have dK : decide ((k : Int) < (x.2.length : Int)) = true := decide_eq_true (by omega)
              obtain ⟨t, ht⟩ : ∃ t, x.2[k]? = some t := ⟨_, List.getElem?_eq_getElem (by omega)⟩
              have htm : t ∈ x.2 := List.mem_of_getElem? ht
              have ixn := ix25 (prim := ow2) (k := .i64) hNe (tx_get ht) rfl
              have ek : (k : Int) + 1 = ((k + 1 : Nat) : Int) := by omega
              have hc' : ∀ out' : List Tx, (∀ u ∈ out, u ∈ out') → (t ∈ out' ∨ plc l t = none) → ∀ u ∈ x.2.take (k + 1), u ∈ out' ∨ plc l u = none := by
                intro out' hs h u hu
                rw [take_snocT ht] at hu
                rcases List.mem_append.1 hu with hu | hu
                · exact (hc u hu).imp (hs u) id
                · simp at hu
                  subst hu
                  exact h
              cases hp : plc l t with
              | none =>
                have pq1 := pq t
                rw [plI_none hp] at pq1
                (try simp -dsimp (disch := omega) only [h0, h5, h7, h8, h9, lN, dK, ixn, cst, p9, List.getElem?_cons_zero, ct_prim pp, bare_s, bX, pq1, d0, ek, wrap64, AS, avals, apairs, bareP, AV.bare, AV.bares, Nat.reduceEqDiff, Nat.reduceLT, Nat.reduceAdd, ↓reduceIte, reduceCtorEq, resA, resA1, resVal, Nat.reduceLeDiff, nb_cfg, Nat.reduceBEq, AX, Int.reduceLT, Int.reduceLE, Int.reduceEq, Int.reduceAdd, Int.reduceSub, Int.reduceMul, Int.reduceNeg, Int.reduceNe])
                refine ⟨m1, by omega, k + 1, out, v, by omega, hi, hO, hR, hs, hc' out (fun _ h => h) (.inr hp), fe_len, ?_, ?_, ?_, ?_, ?_⟩
                all_goals (try simp -dsimp (disch := omega) only [h0, h5, h7, h8, AS, avals, apairs, bareP, AV.bare, AV.bares, Nat.reduceEqDiff, Nat.reduceLT, Nat.reduceAdd, ↓reduceIte, reduceCtorEq, resA, resA1, resVal, Nat.reduceLeDiff, nb_cfg, Nat.reduceBEq, AX, Int.reduceLT, Int.reduceLE, Int.reduceEq, Int.reduceAdd, Int.reduceSub, Int.reduceMul, Int.reduceNeg, Int.reduceNe])
              | some p' =>
                have pq1 := pq t
                rw [plI_some hp] at pq1
                have d1 : decide ((p' : Int) ≥ 0) = true := decide_eq_true (by omega)
                by_cases hto : t ∈ out
                · have dm : decide (t ∈ out) = true := decide_eq_true hto
                  rcases hO.two with ⟨rfl, rfl⟩ | ⟨tk, rfl, th⟩
                  · have hq := fun t => hasQ_eq (L := []) (S := nilS) (t := t) rfl (by decide)
                    have hO' := hO
                    (try simp -dsimp (disch := omega) only [h0, h5, h7, h8, h9, lN, dK, ixn, cst, p9, List.getElem?_cons_zero, ct_prim pp, bare_s, bX, pq1, d1, ct_prim ph, hq, dm, ek, wrap64, AS, avals, apairs, bareP, AV.bare, AV.bares, Nat.reduceEqDiff, Nat.reduceLT, Nat.reduceAdd, ↓reduceIte, reduceCtorEq, resA, resA1, resVal, Nat.reduceLeDiff, nb_cfg, Nat.reduceBEq, AX, Int.reduceLT, Int.reduceLE, Int.reduceEq, Int.reduceAdd, Int.reduceSub, Int.reduceMul, Int.reduceNeg, Int.reduceNe])
                    refine ⟨m1, by omega, k + 1, [], _, by omega, hi, hO', hR, hs, hc' [] (fun _ h => h) (.inl hto), fe_len, ?_, ?_, ?_, ?_, ?_⟩
                    all_goals (try simp -dsimp (disch := omega) only [h0, h5, h7, h8, AS, avals, apairs, bareP, AV.bare, AV.bares, Nat.reduceEqDiff, Nat.reduceLT, Nat.reduceAdd, ↓reduceIte, reduceCtorEq, resA, resA1, resVal, Nat.reduceLeDiff, nb_cfg, Nat.reduceBEq, AX, Int.reduceLT, Int.reduceLE, Int.reduceEq, Int.reduceAdd, Int.reduceSub, Int.reduceMul, Int.reduceNeg, Int.reduceNe])
                  · have hq := fun t => hasQ_eq (L := out) (S := .ro (out.map str)) (t := t) rfl (by omega)
                    have th' := th t
                    have hO' := hO
                    (try simp -dsimp (disch := omega) only [h0, h5, h7, h8, h9, lN, dK, ixn, cst, p9, List.getElem?_cons_zero, ct_prim pp, bare_s, bX, pq1, d1, ct_prim ph, th', plain_bool, plainA_v plain_bool, hq, dm, ek, wrap64, AS, avals, apairs, bareP, AV.bare, AV.bares, Nat.reduceEqDiff, Nat.reduceLT, Nat.reduceAdd, ↓reduceIte, reduceCtorEq, resA, resA1, resVal, Nat.reduceLeDiff, nb_cfg, Nat.reduceBEq, AX, Int.reduceLT, Int.reduceLE, Int.reduceEq, Int.reduceAdd, Int.reduceSub, Int.reduceMul, Int.reduceNeg, Int.reduceNe])
                    refine ⟨m1, by omega, k + 1, out, _, by omega, hi, hO', hR, hs, hc' out (fun _ h => h) (.inl hto), fe_len, ?_, ?_, ?_, ?_, ?_⟩
                    all_goals (try simp -dsimp (disch := omega) only [h0, h5, h7, h8, AS, avals, apairs, bareP, AV.bare, AV.bares, Nat.reduceEqDiff, Nat.reduceLT, Nat.reduceAdd, ↓reduceIte, reduceCtorEq, resA, resA1, resVal, Nat.reduceLeDiff, nb_cfg, Nat.reduceBEq, AX, Int.reduceLT, Int.reduceLE, Int.reduceEq, Int.reduceAdd, Int.reduceSub, Int.reduceMul, Int.reduceNeg, Int.reduceNe])
                · have dm : decide (t ∈ out) = false := decide_eq_false hto
                  obtain ⟨v', T', q1, q2⟩ := appA25 (prim := ow2) (x := t) hO (by omega)
                  have hrc : Rc l fr t := ⟨.step hsr.1 (by rw [hnx]; exact htm), by rw [hp]; simp⟩
                  have hR' := hR.snoc (by omega) hto hrc
                  have hs' : (out ++ [t])[i]? = some s := by rw [List.getElem?_append_left hi]; exact hs
                  have hi' : i < (out ++ [t]).length := by rw [List.length_append]; omega
                  rcases hO.two with ⟨rfl, rfl⟩ | ⟨tk, rfl, th⟩
                  · have hq := fun t => hasQ_eq (L := []) (S := nilS) (t := t) rfl (by decide)
                    have hO' := hO
                    (try simp -dsimp (disch := omega) only [h0, h5, h7, h8, h9, lN, dK, ixn, cst, p9, List.getElem?_cons_zero, ct_prim pp, bare_s, bX, pq1, d1, ct_prim ph, hq, dm, b25, nb2, q1, ek, wrap64, AS, avals, apairs, bareP, AV.bare, AV.bares, Nat.reduceEqDiff, Nat.reduceLT, Nat.reduceAdd, ↓reduceIte, reduceCtorEq, resA, resA1, resVal, Nat.reduceLeDiff, nb_cfg, Nat.reduceBEq, AX, Int.reduceLT, Int.reduceLE, Int.reduceEq, Int.reduceAdd, Int.reduceSub, Int.reduceMul, Int.reduceNeg, Int.reduceNe])
                    refine ⟨m1, by omega, k + 1, [] ++ [t], v', by omega, hi', q2, hR', hs', hc' _ (fun u h => List.mem_append_left _ h) (.inl (by simp)), fe_len, ?_, ?_, ?_, ?_, ?_⟩
                    all_goals (try simp -dsimp (disch := omega) only [h0, h5, h7, h8, AS, avals, apairs, bareP, AV.bare, AV.bares, Nat.reduceEqDiff, Nat.reduceLT, Nat.reduceAdd, ↓reduceIte, reduceCtorEq, resA, resA1, resVal, Nat.reduceLeDiff, nb_cfg, Nat.reduceBEq, AX, Int.reduceLT, Int.reduceLE, Int.reduceEq, Int.reduceAdd, Int.reduceSub, Int.reduceMul, Int.reduceNeg, Int.reduceNe])
                  · have hq := fun t => hasQ_eq (L := out) (S := .ro (out.map str)) (t := t) rfl (by omega)
                    have th' := th t
                    have hO' := hO
                    (try simp -dsimp (disch := omega) only [h0, h5, h7, h8, h9, lN, dK, ixn, cst, p9, List.getElem?_cons_zero, ct_prim pp, bare_s, bX, pq1, d1, ct_prim ph, th', plain_bool, plainA_v plain_bool, hq, dm, b25, nb2, q1, ek, wrap64, AS, avals, apairs, bareP, AV.bare, AV.bares, Nat.reduceEqDiff, Nat.reduceLT, Nat.reduceAdd, ↓reduceIte, reduceCtorEq, resA, resA1, resVal, Nat.reduceLeDiff, nb_cfg, Nat.reduceBEq, AX, Int.reduceLT, Int.reduceLE, Int.reduceEq, Int.reduceAdd, Int.reduceSub, Int.reduceMul, Int.reduceNeg, Int.reduceNe])
                    refine ⟨m1, by omega, k + 1, out ++ [t], v', by omega, hi', q2, hR', hs', hc' _ (fun u h => List.mem_append_left _ h) (.inl (by simp)), fe_len, ?_, ?_, ?_, ?_, ?_⟩
                    all_goals (try simp -dsimp (disch := omega) only [h0, h5, h7, h8, AS, avals, apairs, bareP, AV.bare, AV.bares, Nat.reduceEqDiff, Nat.reduceLT, Nat.reduceAdd, ↓reduceIte, reduceCtorEq, resA, resA1, resVal, Nat.reduceLeDiff, nb_cfg, Nat.reduceBEq, AX, Int.reduceLT, Int.reduceLE, Int.reduceEq, Int.reduceAdd, Int.reduceSub, Int.reduceMul, Int.reduceNeg, Int.reduceNe])
          · refine ⟨0, out, v, by omega, hi, hO, hR, hs, fun t ht => by simp at ht, fe_len, ?_, ?_, ?_, ?_, ?_⟩
            all_goals (try simp -dsimp (disch := omega) only [h0, h5, h7, AS, avals, apairs, bareP, AV.bare, AV.bares, Nat.reduceEqDiff, Nat.reduceLT, Nat.reduceAdd, ↓reduceIte, reduceCtorEq, resA, resA1, resVal, Nat.reduceLeDiff, nb_cfg, Nat.reduceBEq, AX, Int.reduceLT, Int.reduceLE, Int.reduceEq, Int.reduceAdd, Int.reduceSub, Int.reduceMul, Int.reduceNeg, Int.reduceNe])
            all_goals rfl
        · have dI : decide ((i : Int) < (out.length : Int)) = false := decide_eq_false (by omega)
          have hfin := hR.fin (by omega) (sortT_asc hR.nd) (fun t => sortT_mem)
          have sq := sqT_at (h := h) hO.el (by omega)
          rw [← ascL_eq (sortT_asc hR.nd) (fun t => sortT_mem)] at sq
          (try simp -dsimp (disch := omega) only [h0, h5, h7, lo, dI, ct_own (C := cfgP ow2) (f := 24) rfl rfl, sq, AS, avals, apairs, bareP, AV.bare, AV.bares, Nat.reduceEqDiff, Nat.reduceLT, Nat.reduceAdd, ↓reduceIte, reduceCtorEq, resA, resA1, resVal, Nat.reduceLeDiff, nb_cfg, Nat.reduceBEq, AX, Int.reduceLT, Int.reduceLE, Int.reduceEq, Int.reduceAdd, Int.reduceSub, Int.reduceMul, Int.reduceNeg, Int.reduceNe])
          rw [← hV, hfin]
          exact thaw_sr
      · refine ⟨0, out, v, by omega, by omega, hO, hR, fe_len, ?_, ?_, ?_⟩
        all_goals (try simp -dsimp (disch := omega) only [h0, h5, AS, avals, apairs, bareP, AV.bare, AV.bares, Nat.reduceEqDiff, Nat.reduceLT, Nat.reduceAdd, ↓reduceIte, reduceCtorEq, resA, resA1, resVal, Nat.reduceLeDiff, nb_cfg, Nat.reduceBEq, AX, Int.reduceLT, Int.reduceLE, Int.reduceEq, Int.reduceAdd, Int.reduceSub, Int.reduceMul, Int.reduceNeg, Int.reduceNe])
        all_goals rfl
  · refine ⟨0, [], nilS, by omega, .inl ⟨rfl, rfl⟩, List.nodup_nil, fun t h => (List.not_mem_nil h).elim, fun t h => by simp at h, fe_len, ?_, ?_, ?_, ?_⟩
    all_goals (try simp -dsimp (disch := omega) only [h0, h1, AS, avals, apairs, bareP, AV.bare, AV.bares, Nat.reduceEqDiff, Nat.reduceLT, Nat.reduceAdd, ↓reduceIte, reduceCtorEq, resA, resA1, resVal, Nat.reduceLeDiff, nb_cfg, Nat.reduceBEq, AX, Int.reduceLT, Int.reduceLE, Int.reduceEq, Int.reduceAdd, Int.reduceSub, Int.reduceMul, Int.reduceNeg, Int.reduceNe])
    all_goals rfl
end Go.Proofs.Ytcimffpckcbdlaa

/- Chapter 22: the document's All is the order as it is meant. -/
namespace Go.Proofs.Ytcimffpckcbdlaa
open Go.AM
theorem plc_min {l : List It} {t : Tx} {i : Nat} (h : plc l t = some i) : plc (l.take i) t = none := by
  obtain ⟨x, hx, hxt⟩ := plc_some h
  unfold plc at h ⊢
  rw [List.findIdx?_eq_some_iff_getElem] at h
  obtain ⟨h1, h2, h3⟩ := h
  rw [List.findIdx?_eq_none_iff]
  intro y hy
  obtain ⟨j, hj⟩ := List.getElem?_of_mem hy
  rw [List.getElem?_take] at hj
  split at hj
  · rename_i hlt
    obtain ⟨hjl, rfl⟩ := List.getElem?_eq_some_iff.1 hj
    have := h3 j hlt
    simpa using this
  · cases hj
theorem ids_snoc {l : List It} {i : Nat} {x : It} (hn : (ids (l.take i)).Nodup) (hx : l[i]? = some x) (hp : plc (l.take i) x.1 = none) : (ids (l.take (i + 1))).Nodup := by
  rw [take_snoc hx]
  unfold ids
  rw [List.map_append, List.nodup_append]
  refine ⟨hn, by simp, ?_⟩
  intro a ha b hb
  simp at hb
  subst hb
  rintro rfl
  exact plc_none.1 hp ha
/-- The least of what is ready among the first. -/
def BestOk (l : List It) (out : List Tx) (i : Nat) : Option Nat → Prop
  | none => ∀ (j : Nat) (x : It), j < i → l[j]? = some x → rdyB out x = false
  | some b => ∃ y, l[b]? = some y ∧ rdyB out y = true ∧ ∀ (j : Nat) (x : It), j < i → l[j]? = some x → rdyB out x = true → bl x.1 y.1 = false
def bI : Option Nat → Int
  | none => -1
  | some b => (b : Int)
theorem BestOk.skip {l : List It} {out : List Tx} {i : Nat} {o : Option Nat} (h : BestOk l out i o) {x : It} (hx : l[i]? = some x) (hs : rdyB out x = false ∨ ∃ b y, o = some b ∧ l[b]? = some y ∧ bl x.1 y.1 = false) : BestOk l out (i + 1) o := by
  cases o with
  | none =>
    intro j z hj hz
    by_cases e : j = i
    · subst e
      rw [hx] at hz
      injection hz with hz
      subst hz
      rcases hs with hs | ⟨b, y, hb, _⟩
      · exact hs
      · cases hb
    · exact h j z (by omega) hz
  | some b =>
    obtain ⟨y, h1, h2, h3⟩ := h
    refine ⟨y, h1, h2, fun j z hj hz hr => ?_⟩
    by_cases e : j = i
    · subst e
      rw [hx] at hz
      injection hz with hz
      subst hz
      rcases hs with hs | ⟨b', y', hb, hy, hl⟩
      · rw [hs] at hr
        cases hr
      · injection hb with hb
        subst hb
        rw [h1] at hy
        injection hy with hy
        subst hy
        exact hl
    · exact h3 j z (by omega) hz hr
theorem BestOk.take {l : List It} {out : List Tx} {i : Nat} {o : Option Nat} (h : BestOk l out i o) {x : It} (hx : l[i]? = some x) (hr : rdyB out x = true) (hb : ∀ b y, o = some b → l[b]? = some y → bl y.1 x.1 = false) : BestOk l out (i + 1) (some i) := by
  refine ⟨x, hx, hr, fun j z hj hz hrz => ?_⟩
  by_cases e : j = i
  · subst e
    rw [hx] at hz
    injection hz with hz
    subst hz
    exact bl_irrefl _
  · cases o with
    | none =>
      rw [h j z (by omega) hz] at hrz
      cases hrz
    | some b =>
      obtain ⟨y, h1, h2, h3⟩ := h
      exact nlt_trans (hb b y rfl h1) (h3 j z (by omega) hz hrz)
theorem BestOk.none {l : List It} {out : List Tx} (h : BestOk l out l.length none) : stepS l out = Option.none := by
  rw [stepS_none]
  intro x hx
  obtain ⟨j, hj⟩ := List.getElem?_of_mem hx
  exact h j x (List.getElem?_eq_some_iff.1 hj).1 hj
theorem BestOk.some {l : List It} {out : List Tx} {b : Nat} (h : BestOk l out l.length (some b)) : ∃ y, l[b]? = Option.some y ∧ stepS l out = Option.some y.1 ∧ y.1 ∉ out := by
  obtain ⟨y, h1, h2, h3⟩ := h
  refine ⟨y, h1, ?_, (rdy_iff.1 h2).1⟩
  rw [stepS_some]
  refine ⟨⟨y, List.mem_of_getElem? h1, rfl, h2⟩, fun x hx hr => ?_⟩
  obtain ⟨j, hj⟩ := List.getElem?_of_mem hx
  exact h3 j x (List.getElem?_eq_some_iff.1 hj).1 hj hr
structure B1 (X : AV) (i : Nat) (e : Env) (h : Hp) : Prop where
  len : e.length = 132
  a0 : aget e 0 = X
  a4 : aget e 4 = .v (.int .i64 (i : Int))
  hp : h = {}
structure B2 (X : AV) (i : Nat) (e : Env) (h : Hp) : Prop where
  len : e.length = 132
  a0 : aget e 0 = X
  a5 : aget e 5 = .v (.int .i64 (i : Int))
  hp : h = {}
structure B2i (X : AV) (i k : Nat) (e : Env) (h : Hp) : Prop where
  len : e.length = 132
  a0 : aget e 0 = X
  a5 : aget e 5 = .v (.int .i64 (i : Int))
  a6 : aget e 6 = .v (.int .i64 (k : Int))
  hp : h = {}
structure B3 (X v : AV) (n bs : Nat) (e : Env) (h : Hp) : Prop where
  len : e.length = 132
  a0 : aget e 0 = X
  a7 : aget e 7 = .ex bs 0 1 0 n
  a8 : aget e 8 = v
structure B4 (H0 : Hp) (X v : AV) (n bs i : Nat) (o : Option Nat) (e : Env) (h : Hp) : Prop where
  len : e.length = 132
  a0 : aget e 0 = X
  a7 : aget e 7 = .ex bs 0 1 0 n
  a8 : aget e 8 = v
  a9 : aget e 9 = .v (.int .i64 (bI o))
  a10 : aget e 10 = .v (.int .i64 (i : Int))
  hp : h = H0
structure B5 (H0 : Hp) (X v : AV) (n bs i k : Nat) (o : Option Nat) (b : Bool) (e : Env) (h : Hp) : Prop where
  len : e.length = 132
  a0 : aget e 0 = X
  a7 : aget e 7 = .ex bs 0 1 0 n
  a8 : aget e 8 = v
  a9 : aget e 9 = .v (.int .i64 (bI o))
  a10 : aget e 10 = .v (.int .i64 (i : Int))
  a11 : aget e 11 = .v (.bool b)
  a12 : aget e 12 = .v (.int .i64 (k : Int))
  hp : h = H0
set_option maxHeartbeats 16000000 in
set_option maxRecDepth 100000 in
theorem allR_ok (l : List It) (X : AV) (ys : List AV) (hX : elems X = some ys) (bX : X.bare = some X) (hI : ItsE l ys) (hl : l.length < 1073741824) (hN : ∀ x ∈ l, x.2.length < 1073741824) : PureOk (cfgP ow2) 13 [X] (allV l) := by
  obtain ⟨n, hn0⟩ : ∃ n, l.length = n := ⟨_, rfl⟩
  have lx := len22 (prim := ow2) hX
  rw [ItsE.length hI, hn0] at lx
  have pq : ∀ t, placeQ [X, str t] = some (.v (.int .i64 (plI l t))) := fun t => placeQ_eq hX hI hl
  have nb : nbOf (cfgP ow2) 13 (some 130) = false := by rfl
  have pp : (cfgP ow2).prim 22 = some placeQ := by rfl
  obtain ⟨V, hV⟩ : ∃ V, allV l = V := ⟨_, rfl⟩
  rw [hV]
  refine pure_of_wk (call := noCall) (fn := Try.f13) (rs := [.tmp 2, .tmp 3]) ow2_ok noCall_ok (fns_cfg Try.func13 rfl) rfl rfl ?_
  intro env hl0 hargs
  have hn : env.length = 132 := hl0
  have h0 := hargs 0 _ rfl
  clear hargs hl0
  refine wkT_of ?_
  rw [fe_self hn]
  (try simp -dsimp (disch := omega) only [h0, lx, AS, avals, apairs, bareP, AV.bare, AV.bares, Nat.reduceEqDiff, Nat.reduceLT, Nat.reduceAdd, ↓reduceIte, reduceCtorEq, resA, resA1, resVal, Nat.reduceLeDiff, nb_cfg, Nat.reduceBEq, AX, Int.reduceLT, Int.reduceLE, Int.reduceEq, Int.reduceAdd, Int.reduceSub, Int.reduceMul, Int.reduceNeg, Int.reduceNe])
  refine wt_loop (m := n) (fun m e h => ∃ i, i + m = n ∧ (ids (l.take i)).Nodup ∧ B1 X i e h) ?_ ?_
  · clear hn h0
    rintro m e h ⟨i, him, hnd, hn, h0, h4, rfl⟩
    rw [fe_self hn]
    cases m with
    | succ m =>
      have dI : decide ((i : Int) < (n : Int)) = true := decide_eq_true (by omega)
      obtain ⟨x, hx⟩ : ∃ x, l[i]? = some x := ⟨_, List.getElem?_eq_getElem (by omega)⟩
      obtain ⟨N, hyi, hNe⟩ := ItsE.get hI hx
      have ixx := ix22 (prim := ow2) (k := .i64) hX hyi
      have e1 : (i : Int) + 1 = ((i + 1 : Nat) : Int) := by omega
      obtain ⟨k, hk⟩ : ∃ k, plc l x.1 = some k := Option.ne_none_iff_exists'.1 fun e => plc_none.1 e (List.mem_map_of_mem (f := Prod.fst) (List.mem_of_getElem? hx))
      have pq1 := pq x.1
      rw [plI_some hk] at pq1
      by_cases hki : k = i
      · subst hki
        have d1 : decide ((k : Int) = (k : Int)) = true := decide_eq_true rfl
        (try simp -dsimp (disch := omega) only [h0, h4, lx, dI, ixx, f0r, cst, cag, p9, Nat.zero_add, List.getElem?_cons_zero, ct_prim pp, bare_s, bX, pq1, d1, e1, wrap64, AS, avals, apairs, bareP, AV.bare, AV.bares, Nat.reduceEqDiff, Nat.reduceLT, Nat.reduceAdd, ↓reduceIte, reduceCtorEq, resA, resA1, resVal, Nat.reduceLeDiff, nb_cfg, Nat.reduceBEq, AX, Int.reduceLT, Int.reduceLE, Int.reduceEq, Int.reduceAdd, Int.reduceSub, Int.reduceMul, Int.reduceNeg, Int.reduceNe])
        refine ⟨m, by omega, k + 1, by omega, ids_snoc hnd hx (plc_min hk), fe_len, ?_, ?_, rfl⟩
        all_goals (try simp -dsimp (disch := omega) only [h0, AS, avals, apairs, bareP, AV.bare, AV.bares, Nat.reduceEqDiff, Nat.reduceLT, Nat.reduceAdd, ↓reduceIte, reduceCtorEq, resA, resA1, resVal, Nat.reduceLeDiff, nb_cfg, Nat.reduceBEq, AX, Int.reduceLT, Int.reduceLE, Int.reduceEq, Int.reduceAdd, Int.reduceSub, Int.reduceMul, Int.reduceNeg, Int.reduceNe])
      · have d1 : decide ((k : Int) = (i : Int)) = false := decide_eq_false (by omega)
        have hnn : ¬ (ids l).Nodup := by
          intro hc
          obtain ⟨y, hy, he⟩ := plc_some hk
          exact hki (ids_get hc hy hx he)
        rw [allV_twice hnn] at hV
        rw [← hV]
        (try simp -dsimp (disch := omega) only [h0, h4, lx, dI, ixx, f0r, cst, cag, p9, Nat.zero_add, List.getElem?_cons_zero, ct_prim pp, bare_s, bX, pq1, d1, e1, wrap64, AS, avals, apairs, bareP, AV.bare, AV.bares, Nat.reduceEqDiff, Nat.reduceLT, Nat.reduceAdd, ↓reduceIte, reduceCtorEq, resA, resA1, resVal, Nat.reduceLeDiff, nb_cfg, Nat.reduceBEq, AX, Int.reduceLT, Int.reduceLE, Int.reduceEq, Int.reduceAdd, Int.reduceSub, Int.reduceMul, Int.reduceNeg, Int.reduceNe])
        exact ⟨5, rfl⟩
    | zero =>
      have dI : decide ((i : Int) < (n : Int)) = false := decide_eq_false (by omega)
      rw [show l.take i = l from List.take_of_length_le (by omega)] at hnd
      (try simp -dsimp (disch := omega) only [h0, h4, lx, dI, AS, avals, apairs, bareP, AV.bare, AV.bares, Nat.reduceEqDiff, Nat.reduceLT, Nat.reduceAdd, ↓reduceIte, reduceCtorEq, resA, resA1, resVal, Nat.reduceLeDiff, nb_cfg, Nat.reduceBEq, AX, Int.reduceLT, Int.reduceLE, Int.reduceEq, Int.reduceAdd, Int.reduceSub, Int.reduceMul, Int.reduceNeg, Int.reduceNe])
      refine wt_loop (m := n) (fun m e h => ∃ i, i + m = n ∧ (∀ x ∈ l.take i, ∀ t ∈ x.2, plc l t ≠ none) ∧ B2 X i e h) ?_ ?_
      · clear hn h0 h4 dI him e i
        rintro m e h ⟨i, him, hkn, hn, h0, h5, rfl⟩
        rw [fe_self hn]
        cases m with
        | succ m =>
          have dI : decide ((i : Int) < (n : Int)) = true := decide_eq_true (by omega)
          obtain ⟨x, hx⟩ : ∃ x, l[i]? = some x := ⟨_, List.getElem?_eq_getElem (by omega)⟩
          obtain ⟨N, hyi, hNe⟩ := ItsE.get hI hx
          have hNc := (elems_flat hNe).1
          have hxm := List.mem_of_getElem? hx
          have hxl := hN x hxm
          have ixx := ix22 (prim := ow2) (k := .i64) hX hyi
          have lN := len25 (prim := ow2) hNe
          rw [List.length_map] at lN
          have e1 : (i : Int) + 1 = ((i + 1 : Nat) : Int) := by omega
          (try simp -dsimp (disch := omega) only [h0, h5, lx, dI, AS, avals, apairs, bareP, AV.bare, AV.bares, Nat.reduceEqDiff, Nat.reduceLT, Nat.reduceAdd, ↓reduceIte, reduceCtorEq, resA, resA1, resVal, Nat.reduceLeDiff, nb_cfg, Nat.reduceBEq, AX, Int.reduceLT, Int.reduceLE, Int.reduceEq, Int.reduceAdd, Int.reduceSub, Int.reduceMul, Int.reduceNeg, Int.reduceNe])
          refine wt_loop (m := x.2.length) (fun m1 e h => ∃ k, k + m1 = x.2.length ∧ (∀ t ∈ x.2.take k, plc l t ≠ none) ∧ B2i X i k e h) ?_ ?_
          · clear hn h0 h5 e
            rintro m1 e h ⟨k, hkm, hk, hn, h0, h5, h6, rfl⟩
            rw [fe_self hn]
            cases m1 with
            | zero =>
              have dK : decide ((k : Int) < (x.2.length : Int)) = false := decide_eq_false (by omega)
              rw [List.take_of_length_le (by omega)] at hk
              (try simp -dsimp (disch := omega) only [h0, h5, h6, ixx, f1r, Nat.zero_add, List.getElem?_cons_zero, List.getElem?_cons_succ, cst, cag, p9, p25, hNc, lN, dK, e1, wrap64, AS, avals, apairs, bareP, AV.bare, AV.bares, Nat.reduceEqDiff, Nat.reduceLT, Nat.reduceAdd, ↓reduceIte, reduceCtorEq, resA, resA1, resVal, Nat.reduceLeDiff, nb_cfg, Nat.reduceBEq, AX, Int.reduceLT, Int.reduceLE, Int.reduceEq, Int.reduceAdd, Int.reduceSub, Int.reduceMul, Int.reduceNeg, Int.reduceNe])
              refine ⟨m, by omega, i + 1, by omega, ?_, fe_len, ?_, ?_, rfl⟩
              case refine_1 =>
                intro y hy
                rw [take_snoc hx] at hy
                rcases List.mem_append.1 hy with hy | hy
                · exact hkn y hy
                · simp at hy
                  subst hy
                  exact hk
              all_goals (try simp -dsimp (disch := omega) only [h0, AS, avals, apairs, bareP, AV.bare, AV.bares, Nat.reduceEqDiff, Nat.reduceLT, Nat.reduceAdd, ↓reduceIte, reduceCtorEq, resA, resA1, resVal, Nat.reduceLeDiff, nb_cfg, Nat.reduceBEq, AX, Int.reduceLT, Int.reduceLE, Int.reduceEq, Int.reduceAdd, Int.reduceSub, Int.reduceMul, Int.reduceNeg, Int.reduceNe])
            | succ m1 =>
              have dK : decide ((k : Int) < (x.2.length : Int)) = true := decide_eq_true (by omega)
              obtain ⟨t, ht⟩ : ∃ t, x.2[k]? = some t := ⟨_, List.getElem?_eq_getElem (by omega)⟩
              have htm : t ∈ x.2 := List.mem_of_getElem? ht
              have ixn := ix25 (prim := ow2) (k := .i64) hNe (tx_get ht) rfl
              have ek : (k : Int) + 1 = ((k + 1 : Nat) : Int) := by omega
              have pq1 := pq t
              cases hp : plc l t with
              | none =>
                rw [plI_none hp] at pq1
                have d0 : decide ((-1 : Int) < 0) = true := rfl
                rw [allV_lack hnd hxm htm hp] at hV
                rw [← hV]
                (try simp -dsimp (disch := omega) only [h0, h5, h6, ixx, f1r, Nat.zero_add, List.getElem?_cons_zero, List.getElem?_cons_succ, cst, cag, p9, p25, hNc, lN, dK, ixn, ct_prim pp, bare_s, bX, pq1, d0, ek, wrap64, AS, avals, apairs, bareP, AV.bare, AV.bares, Nat.reduceEqDiff, Nat.reduceLT, Nat.reduceAdd, ↓reduceIte, reduceCtorEq, resA, resA1, resVal, Nat.reduceLeDiff, nb_cfg, Nat.reduceBEq, AX, Int.reduceLT, Int.reduceLE, Int.reduceEq, Int.reduceAdd, Int.reduceSub, Int.reduceMul, Int.reduceNeg, Int.reduceNe])
                exact ⟨5, rfl⟩
              | some p =>
                rw [plI_some hp] at pq1
                have d0 : decide ((p : Int) < 0) = false := decide_eq_false (by omega)
                (try simp -dsimp (disch := omega) only [h0, h5, h6, ixx, f1r, Nat.zero_add, List.getElem?_cons_zero, List.getElem?_cons_succ, cst, cag, p9, p25, hNc, lN, dK, ixn, ct_prim pp, bare_s, bX, pq1, d0, ek, wrap64, AS, avals, apairs, bareP, AV.bare, AV.bares, Nat.reduceEqDiff, Nat.reduceLT, Nat.reduceAdd, ↓reduceIte, reduceCtorEq, resA, resA1, resVal, Nat.reduceLeDiff, nb_cfg, Nat.reduceBEq, AX, Int.reduceLT, Int.reduceLE, Int.reduceEq, Int.reduceAdd, Int.reduceSub, Int.reduceMul, Int.reduceNeg, Int.reduceNe])
                refine ⟨m1, by omega, k + 1, by omega, ?_, fe_len, ?_, ?_, ?_, rfl⟩
                case refine_1 =>
                  intro u hu
                  rw [take_snocT ht] at hu
                  rcases List.mem_append.1 hu with hu | hu
                  · exact hk u hu
                  · simp at hu
                    subst hu
                    rw [hp]
                    simp
                all_goals (try simp -dsimp (disch := omega) only [h0, h5, AS, avals, apairs, bareP, AV.bare, AV.bares, Nat.reduceEqDiff, Nat.reduceLT, Nat.reduceAdd, ↓reduceIte, reduceCtorEq, resA, resA1, resVal, Nat.reduceLeDiff, nb_cfg, Nat.reduceBEq, AX, Int.reduceLT, Int.reduceLE, Int.reduceEq, Int.reduceAdd, Int.reduceSub, Int.reduceMul, Int.reduceNeg, Int.reduceNe])
          · refine ⟨0, by omega, fun t ht => by simp at ht, fe_len, ?_, ?_, ?_, rfl⟩
            all_goals (try simp -dsimp (disch := omega) only [h0, h5, AS, avals, apairs, bareP, AV.bare, AV.bares, Nat.reduceEqDiff, Nat.reduceLT, Nat.reduceAdd, ↓reduceIte, reduceCtorEq, resA, resA1, resVal, Nat.reduceLeDiff, nb_cfg, Nat.reduceBEq, AX, Int.reduceLT, Int.reduceLE, Int.reduceEq, Int.reduceAdd, Int.reduceSub, Int.reduceMul, Int.reduceNeg, Int.reduceNe])
            all_goals rfl
        | zero =>
          have dI : decide ((i : Int) < (n : Int)) = false := decide_eq_false (by omega)
          rw [show l.take i = l from List.take_of_length_le (by omega)] at hkn
          have m1 := mk48 (prim := ow2) (H := {}) (n := n) (by omega)
          obtain ⟨H1, hH1⟩ : ∃ H1, nbk {} ⟨0, 1, List.replicate n (.v (.bool false))⟩ = H1 := ⟨_, rfl⟩
          obtain ⟨bs, hbs⟩ : ∃ bs, ({} : Hp).blks.length = bs := ⟨_, rfl⟩
          have hs1 : H1.blks[bs]? = some ⟨0, 1, bools (List.replicate n false)⟩ := by
            rw [← hH1, ← hbs]
            unfold bools
            rw [List.map_replicate]
            exact nbk_new
          rw [hH1, hbs] at m1
          (try simp -dsimp (disch := omega) only [h0, h5, lx, dI, m1, AS, avals, apairs, bareP, AV.bare, AV.bares, Nat.reduceEqDiff, Nat.reduceLT, Nat.reduceAdd, ↓reduceIte, reduceCtorEq, resA, resA1, resVal, Nat.reduceLeDiff, nb_cfg, Nat.reduceBEq, AX, Int.reduceLT, Int.reduceLE, Int.reduceEq, Int.reduceAdd, Int.reduceSub, Int.reduceMul, Int.reduceNeg, Int.reduceNe])
          refine wt_loop (m := n) (fun m e h => ∃ out v sv, out.length + m = n ∧ runS l m out = runS l n [] ∧ out.Nodup ∧ (∀ t ∈ out, t ∈ ids l) ∧ OutOk h v out ∧ h.blks[bs]? = some ⟨0, 1, bools sv⟩ ∧ Seen l out sv ∧ B3 X v n bs e h) ?_ ?_
          · clear hn h0 h5 m1 hs1 hH1 H1 hbs dI him e i
            rintro m e h ⟨out, v, sv, hom, hrun, hond, hosub, hO, hsb, hsn, hn, h0, h7, h8⟩
            rw [fe_self hn]
            have lo := len25 (prim := ow2) hO.el
            rw [List.length_map] at lo
            cases m with
            | zero =>
              have dO : decide ((out.length : Int) < (n : Int)) = false := decide_eq_false (by omega)
              have hr : runS l l.length [] = out := by rw [hn0, ← hrun]; rfl
              rw [allV_ok hnd hkn hr (by omega)] at hV
              rw [← hV]
              (try simp -dsimp (disch := omega) only [h0, h7, h8, lo, lx, dO, AS, avals, apairs, bareP, AV.bare, AV.bares, Nat.reduceEqDiff, Nat.reduceLT, Nat.reduceAdd, ↓reduceIte, reduceCtorEq, resA, resA1, resVal, Nat.reduceLeDiff, nb_cfg, Nat.reduceBEq, AX, Int.reduceLT, Int.reduceLE, Int.reduceEq, Int.reduceAdd, Int.reduceSub, Int.reduceMul, Int.reduceNeg, Int.reduceNe])
              rcases hO with ⟨rfl, rfl⟩ | ⟨hne, t, rfl, _⟩
              · exact ⟨5, rfl⟩
              · refine ⟨5, ?_⟩
                unfold slS
                rw [if_neg hne]
                rfl
            | succ m =>
              have dO : decide ((out.length : Int) < (n : Int)) = true := decide_eq_true (by omega)
              have ks := blk_row hsb
              (try simp -dsimp (disch := omega) only [h0, h7, h8, lo, lx, dO, AS, avals, apairs, bareP, AV.bare, AV.bares, Nat.reduceEqDiff, Nat.reduceLT, Nat.reduceAdd, ↓reduceIte, reduceCtorEq, resA, resA1, resVal, Nat.reduceLeDiff, nb_cfg, Nat.reduceBEq, AX, Int.reduceLT, Int.reduceLE, Int.reduceEq, Int.reduceAdd, Int.reduceSub, Int.reduceMul, Int.reduceNeg, Int.reduceNe])
              refine wt_loop (m := n) (fun m3 e h' => ∃ i o, i + m3 = n ∧ BestOk l out i o ∧ (∀ b, o = some b → b < n) ∧ B4 h X v n bs i o e h') ?_ ?_
              · clear hn h0 h7 h8 e
                rintro m3 e h' ⟨i, o, him, hB, hob, hn, h0, h7, h8, h9, h10, rfl⟩
                rw [fe_self hn]
                cases m3 with
                | zero =>
                  have dI : decide ((i : Int) < (n : Int)) = false := decide_eq_false (by omega)
                  have hin : i = l.length := by omega
                  rw [hin] at hB
                  cases o with
                  | none =>
                    have hst := hB.none
                    have d0 : decide ((-1 : Int) < 0) = true := rfl
                    have hr : runS l l.length [] = out := by
                      rw [hn0, ← hrun]
                      unfold runS
                      rw [hst]
                    rw [allV_loop hnd hkn hr (by omega)] at hV
                    rw [← hV]
                    (try simp -dsimp (disch := omega) only [h0, h7, h8, h9, h10, lx, dI, bI, d0, AS, avals, apairs, bareP, AV.bare, AV.bares, Nat.reduceEqDiff, Nat.reduceLT, Nat.reduceAdd, ↓reduceIte, reduceCtorEq, resA, resA1, resVal, Nat.reduceLeDiff, nb_cfg, Nat.reduceBEq, AX, Int.reduceLT, Int.reduceLE, Int.reduceEq, Int.reduceAdd, Int.reduceSub, Int.reduceMul, Int.reduceNeg, Int.reduceNe])
                    exact ⟨5, rfl⟩
                  | some b =>
                    obtain ⟨y, hy, hst, hyo⟩ := hB.some
                    have hbn := hob b rfl
                    have d0 : decide ((b : Int) < 0) = false := decide_eq_false (by omega)
                    have i1 := ix48 (prim := ow2) (b := bs) (k := .i64) hbn
                    obtain ⟨N, hyi, hNe⟩ := ItsE.get hI hy
                    have ixx := ix22 (prim := ow2) (k := .i64) hX hyi
                    have g2 := bools_get (hsn.2 y.1 b (plc_get hnd hy))
                    have st := store_row (C := cfgP ow2) (t := 4) (x := .v (.bool true)) hsb rfl rfl c4 g2 (fun cs h => by cases h)
                    have hbs := (List.getElem?_eq_some_iff.1 hsb).1
                    have eb : (bools sv).set b (.v (.bool true)) = bools (sv.set b true) := by
                      unfold bools
                      rw [List.map_set]
                    rw [eb] at st
                    obtain ⟨H1, hH1⟩ : ∃ H1, { h' with blks := h'.blks.set bs ⟨0, 1, bools (sv.set b true)⟩ } = H1 := ⟨_, rfl⟩
                    have hs1 : H1.blks[bs]? = some ⟨0, 1, bools (sv.set b true)⟩ := by
                      rw [← hH1]
                      exact List.getElem?_set_self hbs
                    have hO1 : OutOk H1 v out := hO.of (by rw [← hH1])
                    rw [hH1] at st
                    obtain ⟨v', T', q1, q2⟩ := appA25 (prim := ow2) (x := y.1) hO1 (by omega)
                    (try simp -dsimp (disch := omega) only [h0, h7, h8, h9, h10, lx, dI, bI, d0, i1, st, ixx, f0r, cag, p9, Nat.zero_add, List.getElem?_cons_zero, bare_s, b25, nb, q1, AS, avals, apairs, bareP, AV.bare, AV.bares, Nat.reduceEqDiff, Nat.reduceLT, Nat.reduceAdd, ↓reduceIte, reduceCtorEq, resA, resA1, resVal, Nat.reduceLeDiff, nb_cfg, Nat.reduceBEq, AX, Int.reduceLT, Int.reduceLE, Int.reduceEq, Int.reduceAdd, Int.reduceSub, Int.reduceMul, Int.reduceNeg, Int.reduceNe])
                    refine ⟨m, by omega, out ++ [y.1], v', sv.set b true, by rw [List.length_append, List.length_singleton]; omega, ?_, nodup_snoc hond hyo, ?_, q2, hs1, hsn.visit (plc_get hnd hy), fe_len, ?_, ?_, ?_⟩
                    case refine_1 =>
                      rw [← hrun]
                      conv => rhs; unfold runS
                      rw [hst]
                    case refine_2 =>
                      intro t ht
                      rcases List.mem_append.1 ht with ht | ht
                      · exact hosub t ht
                      · simp at ht
                        subst ht
                        exact List.mem_map_of_mem (f := Prod.fst) (List.mem_of_getElem? hy)
                    all_goals (try simp -dsimp (disch := omega) only [h0, h7, AS, avals, apairs, bareP, AV.bare, AV.bares, Nat.reduceEqDiff, Nat.reduceLT, Nat.reduceAdd, ↓reduceIte, reduceCtorEq, resA, resA1, resVal, Nat.reduceLeDiff, nb_cfg, Nat.reduceBEq, AX, Int.reduceLT, Int.reduceLE, Int.reduceEq, Int.reduceAdd, Int.reduceSub, Int.reduceMul, Int.reduceNeg, Int.reduceNe])
                | succ m3 =>
                  have dI : decide ((i : Int) < (n : Int)) = true := decide_eq_true (by omega)
                  have hin : i < n := by omega
                  obtain ⟨x, hx⟩ : ∃ x, l[i]? = some x := ⟨_, List.getElem?_eq_getElem (by omega)⟩
                  obtain ⟨N, hyi, hNe⟩ := ItsE.get hI hx
                  have hNc := (elems_flat hNe).1
                  have hxm := List.mem_of_getElem? hx
                  have hxl := hN x hxm
                  have ixx := ix22 (prim := ow2) (k := .i64) hX hyi
                  have lN := len25 (prim := ow2) hNe
                  rw [List.length_map] at lN
                  have e1 : (i : Int) + 1 = ((i + 1 : Nat) : Int) := by omega
                  have i1 := ix48 (prim := ow2) (b := bs) (k := .i64) hin
                  have g2 := bools_get (hsn.2 x.1 i (plc_get hnd hx))
                  by_cases hxo : x.1 ∈ out
                  · have hc : out.contains x.1 = true := by simpa using hxo
                    rw [hc] at g2
                    have hr : rdyB out x = false := by unfold rdyB; rw [hc]; rfl
                    (try simp -dsimp (disch := omega) only [h0, h7, h8, h9, h10, lx, dI, i1, ks, g2, cva, p4, List.getElem?_cons_zero, e1, wrap64, AS, avals, apairs, bareP, AV.bare, AV.bares, Nat.reduceEqDiff, Nat.reduceLT, Nat.reduceAdd, ↓reduceIte, reduceCtorEq, resA, resA1, resVal, Nat.reduceLeDiff, nb_cfg, Nat.reduceBEq, AX, Int.reduceLT, Int.reduceLE, Int.reduceEq, Int.reduceAdd, Int.reduceSub, Int.reduceMul, Int.reduceNeg, Int.reduceNe])
                    refine ⟨by kernel_rfl, m3, by omega, i + 1, o, by omega, hB.skip hx (.inl hr), hob, fe_len, ?_, ?_, ?_, ?_, ?_, rfl⟩
                    all_goals (try simp -dsimp (disch := omega) only [h0, h7, h8, h9, AS, avals, apairs, bareP, AV.bare, AV.bares, Nat.reduceEqDiff, Nat.reduceLT, Nat.reduceAdd, ↓reduceIte, reduceCtorEq, resA, resA1, resVal, Nat.reduceLeDiff, nb_cfg, Nat.reduceBEq, AX, Int.reduceLT, Int.reduceLE, Int.reduceEq, Int.reduceAdd, Int.reduceSub, Int.reduceMul, Int.reduceNeg, Int.reduceNe])
                  · have hc : out.contains x.1 = false := by simpa using hxo
                    rw [hc] at g2
                    by_cases hbt : ∃ b y, o = some b ∧ l[b]? = some y ∧ bl y.1 x.1 = true
                    · obtain ⟨b, y, rfl, hy, hyx⟩ := hbt
                      have d0 : decide ((b : Int) ≥ 0) = true := decide_eq_true (by omega)
                      obtain ⟨N', hyi', _⟩ := ItsE.get hI hy
                      have ixy := ix22 (prim := ow2) (k := .i64) hX hyi'
                      (try simp -dsimp (disch := omega) only [h0, h7, h8, h9, h10, lx, dI, i1, ks, g2, cva, p4, List.getElem?_cons_zero, bI, d0, ixx, ixy, f0r, cst, cag, p9, Nat.zero_add, hyx, e1, wrap64, AS, avals, apairs, bareP, AV.bare, AV.bares, Nat.reduceEqDiff, Nat.reduceLT, Nat.reduceAdd, ↓reduceIte, reduceCtorEq, resA, resA1, resVal, Nat.reduceLeDiff, nb_cfg, Nat.reduceBEq, AX, Int.reduceLT, Int.reduceLE, Int.reduceEq, Int.reduceAdd, Int.reduceSub, Int.reduceMul, Int.reduceNeg, Int.reduceNe])
                      refine ⟨by kernel_rfl, m3, by omega, i + 1, some b, by omega, hB.skip hx (.inr ⟨b, y, rfl, hy, bl_asymm hyx⟩), hob, fe_len, ?_, ?_, ?_, ?_, ?_, rfl⟩
                      all_goals (try simp -dsimp (disch := omega) only [h0, h7, h8, h9, bI, AS, avals, apairs, bareP, AV.bare, AV.bares, Nat.reduceEqDiff, Nat.reduceLT, Nat.reduceAdd, ↓reduceIte, reduceCtorEq, resA, resA1, resVal, Nat.reduceLeDiff, nb_cfg, Nat.reduceBEq, AX, Int.reduceLT, Int.reduceLE, Int.reduceEq, Int.reduceAdd, Int.reduceSub, Int.reduceMul, Int.reduceNeg, Int.reduceNe])
                    · have hnb : ∀ b y, o = some b → l[b]? = some y → bl y.1 x.1 = false := by
                        intro b y hb hy
                        cases hc : bl y.1 x.1 with
                        | false => rfl
                        | true => exact absurd ⟨b, y, hb, hy, hc⟩ hbt
                      cases o with
                      | none =>
                        have d0 : decide ((-1 : Int) ≥ 0) = false := rfl
                        (try simp -dsimp (disch := omega) only [h0, h7, h8, h9, h10, lx, dI, i1, ks, g2, cva, p4, List.getElem?_cons_zero, bI, d0, ixx, f0r, cst, cag, p9, Nat.zero_add, e1, wrap64, AS, avals, apairs, bareP, AV.bare, AV.bares, Nat.reduceEqDiff, Nat.reduceLT, Nat.reduceAdd, ↓reduceIte, reduceCtorEq, resA, resA1, resVal, Nat.reduceLeDiff, nb_cfg, Nat.reduceBEq, AX, Int.reduceLT, Int.reduceLE, Int.reduceEq, Int.reduceAdd, Int.reduceSub, Int.reduceMul, Int.reduceNeg, Int.reduceNe])
                        refine ⟨by kernel_rfl, ?_⟩
                        refine wt_loop (m := x.2.length) (fun m1 e h'' => ∃ k, k + m1 = x.2.length ∧ B5 h' X v n bs i k none ((x.2.take k).all fun t => out.contains t) e h'') ?_ ?_
                        · clear hn h0 h7 h8 h9 h10 e
                          rintro m1 e h'' ⟨k, hkm, hn, h0, h7, h8, h9, h10, h11, h12, rfl⟩
                          rw [fe_self hn]
                          cases m1 with
                          | zero =>
                            have dK : decide ((k : Int) < (x.2.length : Int)) = false := decide_eq_false (by omega)
                            rw [List.take_of_length_le (by omega)] at h11
                            have hrd : rdyB out x = x.2.all fun t => out.contains t := by unfold rdyB; rw [hc]; rfl
                            rw [← hrd] at h11
                            cases hr : rdyB out x with
                            | false =>
                              rw [hr] at h11
                              (try simp -dsimp (disch := omega) only [h0, h7, h8, h9, h10, h11, h12, ixx, f1r, Nat.zero_add, List.getElem?_cons_zero, List.getElem?_cons_succ, cst, cag, p9, p25, hNc, lN, dK, e1, wrap64, AS, avals, apairs, bareP, AV.bare, AV.bares, Nat.reduceEqDiff, Nat.reduceLT, Nat.reduceAdd, ↓reduceIte, reduceCtorEq, resA, resA1, resVal, Nat.reduceLeDiff, nb_cfg, Nat.reduceBEq, AX, Int.reduceLT, Int.reduceLE, Int.reduceEq, Int.reduceAdd, Int.reduceSub, Int.reduceMul, Int.reduceNeg, Int.reduceNe])
                              refine ⟨m3, by omega, i + 1, none, by omega, hB.skip hx (.inl hr), hob, fe_len, ?_, ?_, ?_, ?_, ?_, rfl⟩
                              all_goals (try simp -dsimp (disch := omega) only [h0, h7, h8, h9, AS, avals, apairs, bareP, AV.bare, AV.bares, Nat.reduceEqDiff, Nat.reduceLT, Nat.reduceAdd, ↓reduceIte, reduceCtorEq, resA, resA1, resVal, Nat.reduceLeDiff, nb_cfg, Nat.reduceBEq, AX, Int.reduceLT, Int.reduceLE, Int.reduceEq, Int.reduceAdd, Int.reduceSub, Int.reduceMul, Int.reduceNeg, Int.reduceNe])
                            | true =>
                              rw [hr] at h11
                              (try simp -dsimp (disch := omega) only [h0, h7, h8, h9, h10, h11, h12, ixx, f1r, Nat.zero_add, List.getElem?_cons_zero, List.getElem?_cons_succ, cst, cag, p9, p25, hNc, lN, dK, e1, wrap64, AS, avals, apairs, bareP, AV.bare, AV.bares, Nat.reduceEqDiff, Nat.reduceLT, Nat.reduceAdd, ↓reduceIte, reduceCtorEq, resA, resA1, resVal, Nat.reduceLeDiff, nb_cfg, Nat.reduceBEq, AX, Int.reduceLT, Int.reduceLE, Int.reduceEq, Int.reduceAdd, Int.reduceSub, Int.reduceMul, Int.reduceNeg, Int.reduceNe])
                              refine ⟨m3, by omega, i + 1, some i, by omega, hB.take hx hr hnb, fun b hb => by injection hb with hb; omega, fe_len, ?_, ?_, ?_, ?_, ?_, rfl⟩
                              all_goals (try simp -dsimp (disch := omega) only [h0, h7, h8, bI, AS, avals, apairs, bareP, AV.bare, AV.bares, Nat.reduceEqDiff, Nat.reduceLT, Nat.reduceAdd, ↓reduceIte, reduceCtorEq, resA, resA1, resVal, Nat.reduceLeDiff, nb_cfg, Nat.reduceBEq, AX, Int.reduceLT, Int.reduceLE, Int.reduceEq, Int.reduceAdd, Int.reduceSub, Int.reduceMul, Int.reduceNeg, Int.reduceNe])
                          | succ m1 =>
                            have dK : decide ((k : Int) < (x.2.length : Int)) = true := decide_eq_true (by omega)
                            obtain ⟨t, ht⟩ : ∃ t, x.2[k]? = some t := ⟨_, List.getElem?_eq_getElem (by omega)⟩
                            have htm : t ∈ x.2 := List.mem_of_getElem? ht
                            have ixn := ix25 (prim := ow2) (k := .i64) hNe (tx_get ht) rfl
                            have ek : (k : Int) + 1 = ((k + 1 : Nat) : Int) := by omega
                            have pq1 := pq t
                            obtain ⟨p, hp⟩ : ∃ p, plc l t = some p := Option.ne_none_iff_exists'.1 (hkn x hxm t htm)
                            rw [plI_some hp] at pq1
                            have hpn : p < n := by
                              obtain ⟨y, hy, _⟩ := plc_some hp
                              have := (List.getElem?_eq_some_iff.1 hy).1
                              omega
                            have i2 := ix48 (prim := ow2) (b := bs) (k := .i64) hpn
                            have g3 := bools_get (hsn.2 t p hp)
                            have hall : ((x.2.take (k + 1)).all fun t => out.contains t) = (((x.2.take k).all fun t => out.contains t) && out.contains t) := by
                              rw [take_snocT ht, List.all_append]
                              simp
                            cases hb : (x.2.take k).all fun t => out.contains t with
                            | false =>
                              rw [hb] at h11 hall
                              (try simp -dsimp (disch := omega) only [h0, h7, h8, h9, h10, h11, h12, ixx, f1r, Nat.zero_add, List.getElem?_cons_zero, List.getElem?_cons_succ, cst, cag, p9, p25, hNc, lN, dK, ek, wrap64, AS, avals, apairs, bareP, AV.bare, AV.bares, Nat.reduceEqDiff, Nat.reduceLT, Nat.reduceAdd, ↓reduceIte, reduceCtorEq, resA, resA1, resVal, Nat.reduceLeDiff, nb_cfg, Nat.reduceBEq, AX, Int.reduceLT, Int.reduceLE, Int.reduceEq, Int.reduceAdd, Int.reduceSub, Int.reduceMul, Int.reduceNeg, Int.reduceNe])
                              refine ⟨m1, by omega, k + 1, by omega, fe_len, ?_, ?_, ?_, ?_, ?_, ?_, ?_, rfl⟩
                              case refine_6 => rw [hall]; (try simp -dsimp (disch := omega) only [h0, AS, avals, apairs, bareP, AV.bare, AV.bares, Nat.reduceEqDiff, Nat.reduceLT, Nat.reduceAdd, ↓reduceIte, reduceCtorEq, resA, resA1, resVal, Nat.reduceLeDiff, nb_cfg, Nat.reduceBEq, AX, Int.reduceLT, Int.reduceLE, Int.reduceEq, Int.reduceAdd, Int.reduceSub, Int.reduceMul, Int.reduceNeg, Int.reduceNe])
                              all_goals (try simp -dsimp (disch := omega) only [h0, h7, h8, h9, h10, AS, avals, apairs, bareP, AV.bare, AV.bares, Nat.reduceEqDiff, Nat.reduceLT, Nat.reduceAdd, ↓reduceIte, reduceCtorEq, resA, resA1, resVal, Nat.reduceLeDiff, nb_cfg, Nat.reduceBEq, AX, Int.reduceLT, Int.reduceLE, Int.reduceEq, Int.reduceAdd, Int.reduceSub, Int.reduceMul, Int.reduceNeg, Int.reduceNe])
                            | true =>
                              rw [hb] at h11 hall
                              obtain ⟨c, hcc⟩ : ∃ c, out.contains t = c := ⟨_, rfl⟩
                              rw [hcc] at g3 hall
                              (try simp -dsimp (disch := omega) only [h0, h7, h8, h9, h10, h11, h12, ixx, f1r, Nat.zero_add, List.getElem?_cons_zero, List.getElem?_cons_succ, cst, cva, cag, p9, p4, p25, hNc, lN, dK, ixn, ct_prim pp, bare_s, bX, pq1, i2, ks, g3, ek, wrap64, AS, avals, apairs, bareP, AV.bare, AV.bares, Nat.reduceEqDiff, Nat.reduceLT, Nat.reduceAdd, ↓reduceIte, reduceCtorEq, resA, resA1, resVal, Nat.reduceLeDiff, nb_cfg, Nat.reduceBEq, AX, Int.reduceLT, Int.reduceLE, Int.reduceEq, Int.reduceAdd, Int.reduceSub, Int.reduceMul, Int.reduceNeg, Int.reduceNe])
                              refine ⟨m1, by omega, k + 1, by omega, fe_len, ?_, ?_, ?_, ?_, ?_, ?_, ?_, rfl⟩
                              case refine_6 => rw [hall]; (try simp -dsimp (disch := omega) only [h0, AS, avals, apairs, bareP, AV.bare, AV.bares, Nat.reduceEqDiff, Nat.reduceLT, Nat.reduceAdd, ↓reduceIte, reduceCtorEq, resA, resA1, resVal, Nat.reduceLeDiff, nb_cfg, Nat.reduceBEq, AX, Int.reduceLT, Int.reduceLE, Int.reduceEq, Int.reduceAdd, Int.reduceSub, Int.reduceMul, Int.reduceNeg, Int.reduceNe])
                              all_goals (try simp -dsimp (disch := omega) only [h0, h7, h8, h9, h10, AS, avals, apairs, bareP, AV.bare, AV.bares, Nat.reduceEqDiff, Nat.reduceLT, Nat.reduceAdd, ↓reduceIte, reduceCtorEq, resA, resA1, resVal, Nat.reduceLeDiff, nb_cfg, Nat.reduceBEq, AX, Int.reduceLT, Int.reduceLE, Int.reduceEq, Int.reduceAdd, Int.reduceSub, Int.reduceMul, Int.reduceNeg, Int.reduceNe])
                        · refine ⟨0, by omega, fe_len, ?_, ?_, ?_, ?_, ?_, ?_, ?_, rfl⟩
                          all_goals (try simp -dsimp (disch := omega) only [h0, h7, h8, h9, h10, AS, avals, apairs, bareP, AV.bare, AV.bares, Nat.reduceEqDiff, Nat.reduceLT, Nat.reduceAdd, ↓reduceIte, reduceCtorEq, resA, resA1, resVal, Nat.reduceLeDiff, nb_cfg, Nat.reduceBEq, AX, Int.reduceLT, Int.reduceLE, Int.reduceEq, Int.reduceAdd, Int.reduceSub, Int.reduceMul, Int.reduceNeg, Int.reduceNe])
                          all_goals rfl
                      | some b =>
                        have d0 : decide ((b : Int) ≥ 0) = true := decide_eq_true (by omega)
                        obtain ⟨y, hy⟩ : ∃ y, l[b]? = some y := ⟨_, List.getElem?_eq_getElem (by rw [hn0]; exact hob b rfl)⟩
                        have hyx := hnb b y rfl hy
                        obtain ⟨N', hyi', _⟩ := ItsE.get hI hy
                        have ixy := ix22 (prim := ow2) (k := .i64) hX hyi'
                        (try simp -dsimp (disch := omega) only [h0, h7, h8, h9, h10, lx, dI, i1, ks, g2, cva, p4, List.getElem?_cons_zero, bI, d0, ixy, hyx, ixx, f0r, cst, cag, p9, Nat.zero_add, e1, wrap64, AS, avals, apairs, bareP, AV.bare, AV.bares, Nat.reduceEqDiff, Nat.reduceLT, Nat.reduceAdd, ↓reduceIte, reduceCtorEq, resA, resA1, resVal, Nat.reduceLeDiff, nb_cfg, Nat.reduceBEq, AX, Int.reduceLT, Int.reduceLE, Int.reduceEq, Int.reduceAdd, Int.reduceSub, Int.reduceMul, Int.reduceNeg, Int.reduceNe])
                        refine ⟨by kernel_rfl, ?_⟩
                        refine wt_loop (m := x.2.length) (fun m1 e h'' => ∃ k, k + m1 = x.2.length ∧ B5 h' X v n bs i k (some b) ((x.2.take k).all fun t => out.contains t) e h'') ?_ ?_
                        · clear hn h0 h7 h8 h9 h10 e
                          rintro m1 e h'' ⟨k, hkm, hn, h0, h7, h8, h9, h10, h11, h12, rfl⟩
                          rw [fe_self hn]
                          cases m1 with
                          | zero =>
                            have dK : decide ((k : Int) < (x.2.length : Int)) = false := decide_eq_false (by omega)
                            rw [List.take_of_length_le (by omega)] at h11
                            have hrd : rdyB out x = x.2.all fun t => out.contains t := by unfold rdyB; rw [hc]; rfl
                            rw [← hrd] at h11
                            cases hr : rdyB out x with
                            | false =>
                              rw [hr] at h11
                              (try simp -dsimp (disch := omega) only [h0, h7, h8, h9, h10, h11, h12, ixx, f1r, Nat.zero_add, List.getElem?_cons_zero, List.getElem?_cons_succ, cst, cag, p9, p25, hNc, lN, dK, e1, wrap64, AS, avals, apairs, bareP, AV.bare, AV.bares, Nat.reduceEqDiff, Nat.reduceLT, Nat.reduceAdd, ↓reduceIte, reduceCtorEq, resA, resA1, resVal, Nat.reduceLeDiff, nb_cfg, Nat.reduceBEq, AX, Int.reduceLT, Int.reduceLE, Int.reduceEq, Int.reduceAdd, Int.reduceSub, Int.reduceMul, Int.reduceNeg, Int.reduceNe])
                              refine ⟨m3, by omega, i + 1, (some b), by omega, hB.skip hx (.inl hr), hob, fe_len, ?_, ?_, ?_, ?_, ?_, rfl⟩
                              all_goals (try simp -dsimp (disch := omega) only [h0, h7, h8, h9, AS, avals, apairs, bareP, AV.bare, AV.bares, Nat.reduceEqDiff, Nat.reduceLT, Nat.reduceAdd, ↓reduceIte, reduceCtorEq, resA, resA1, resVal, Nat.reduceLeDiff, nb_cfg, Nat.reduceBEq, AX, Int.reduceLT, Int.reduceLE, Int.reduceEq, Int.reduceAdd, Int.reduceSub, Int.reduceMul, Int.reduceNeg, Int.reduceNe])
                            | true =>
                              rw [hr] at h11
                              (try simp -dsimp (disch := omega) only [h0, h7, h8, h9, h10, h11, h12, ixx, f1r, Nat.zero_add, List.getElem?_cons_zero, List.getElem?_cons_succ, cst, cag, p9, p25, hNc, lN, dK, e1, wrap64, AS, avals, apairs, bareP, AV.bare, AV.bares, Nat.reduceEqDiff, Nat.reduceLT, Nat.reduceAdd, ↓reduceIte, reduceCtorEq, resA, resA1, resVal, Nat.reduceLeDiff, nb_cfg, Nat.reduceBEq, AX, Int.reduceLT, Int.reduceLE, Int.reduceEq, Int.reduceAdd, Int.reduceSub, Int.reduceMul, Int.reduceNeg, Int.reduceNe])
                              refine ⟨m3, by omega, i + 1, some i, by omega, hB.take hx hr hnb, fun b hb => by injection hb with hb; omega, fe_len, ?_, ?_, ?_, ?_, ?_, rfl⟩
                              all_goals (try simp -dsimp (disch := omega) only [h0, h7, h8, bI, AS, avals, apairs, bareP, AV.bare, AV.bares, Nat.reduceEqDiff, Nat.reduceLT, Nat.reduceAdd, ↓reduceIte, reduceCtorEq, resA, resA1, resVal, Nat.reduceLeDiff, nb_cfg, Nat.reduceBEq, AX, Int.reduceLT, Int.reduceLE, Int.reduceEq, Int.reduceAdd, Int.reduceSub, Int.reduceMul, Int.reduceNeg, Int.reduceNe])
                          | succ m1 =>
                            have dK : decide ((k : Int) < (x.2.length : Int)) = true := decide_eq_true (by omega)
                            obtain ⟨t, ht⟩ : ∃ t, x.2[k]? = some t := ⟨_, List.getElem?_eq_getElem (by omega)⟩
                            have htm : t ∈ x.2 := List.mem_of_getElem? ht
                            have ixn := ix25 (prim := ow2) (k := .i64) hNe (tx_get ht) rfl
                            have ek : (k : Int) + 1 = ((k + 1 : Nat) : Int) := by omega
                            have pq1 := pq t
                            obtain ⟨p, hp⟩ : ∃ p, plc l t = some p := Option.ne_none_iff_exists'.1 (hkn x hxm t htm)
                            rw [plI_some hp] at pq1
                            have hpn : p < n := by
                              obtain ⟨y, hy, _⟩ := plc_some hp
                              have := (List.getElem?_eq_some_iff.1 hy).1
                              omega
                            have i2 := ix48 (prim := ow2) (b := bs) (k := .i64) hpn
                            have g3 := bools_get (hsn.2 t p hp)
                            have hall : ((x.2.take (k + 1)).all fun t => out.contains t) = (((x.2.take k).all fun t => out.contains t) && out.contains t) := by
                              rw [take_snocT ht, List.all_append]
                              simp
                            cases hb : (x.2.take k).all fun t => out.contains t with
                            | false =>
                              rw [hb] at h11 hall
                              (try simp -dsimp (disch := omega) only [h0, h7, h8, h9, h10, h11, h12, ixx, f1r, Nat.zero_add, List.getElem?_cons_zero, List.getElem?_cons_succ, cst, cag, p9, p25, hNc, lN, dK, ek, wrap64, AS, avals, apairs, bareP, AV.bare, AV.bares, Nat.reduceEqDiff, Nat.reduceLT, Nat.reduceAdd, ↓reduceIte, reduceCtorEq, resA, resA1, resVal, Nat.reduceLeDiff, nb_cfg, Nat.reduceBEq, AX, Int.reduceLT, Int.reduceLE, Int.reduceEq, Int.reduceAdd, Int.reduceSub, Int.reduceMul, Int.reduceNeg, Int.reduceNe])
                              refine ⟨m1, by omega, k + 1, by omega, fe_len, ?_, ?_, ?_, ?_, ?_, ?_, ?_, rfl⟩
                              case refine_6 => rw [hall]; (try simp -dsimp (disch := omega) only [h0, AS, avals, apairs, bareP, AV.bare, AV.bares, Nat.reduceEqDiff, Nat.reduceLT, Nat.reduceAdd, ↓reduceIte, reduceCtorEq, resA, resA1, resVal, Nat.reduceLeDiff, nb_cfg, Nat.reduceBEq, AX, Int.reduceLT, Int.reduceLE, Int.reduceEq, Int.reduceAdd, Int.reduceSub, Int.reduceMul, Int.reduceNeg, Int.reduceNe])
                              all_goals (try simp -dsimp (disch := omega) only [h0, h7, h8, h9, h10, AS, avals, apairs, bareP, AV.bare, AV.bares, Nat.reduceEqDiff, Nat.reduceLT, Nat.reduceAdd, ↓reduceIte, reduceCtorEq, resA, resA1, resVal, Nat.reduceLeDiff, nb_cfg, Nat.reduceBEq, AX, Int.reduceLT, Int.reduceLE, Int.reduceEq, Int.reduceAdd, Int.reduceSub, Int.reduceMul, Int.reduceNeg, Int.reduceNe])
                            | true =>
                              rw [hb] at h11 hall
                              obtain ⟨c, hcc⟩ : ∃ c, out.contains t = c := ⟨_, rfl⟩
                              rw [hcc] at g3 hall
                              (try simp -dsimp (disch := omega) only [h0, h7, h8, h9, h10, h11, h12, ixx, f1r, Nat.zero_add, List.getElem?_cons_zero, List.getElem?_cons_succ, cst, cva, cag, p9, p4, p25, hNc, lN, dK, ixn, ct_prim pp, bare_s, bX, pq1, i2, ks, g3, ek, wrap64, AS, avals, apairs, bareP, AV.bare, AV.bares, Nat.reduceEqDiff, Nat.reduceLT, Nat.reduceAdd, ↓reduceIte, reduceCtorEq, resA, resA1, resVal, Nat.reduceLeDiff, nb_cfg, Nat.reduceBEq, AX, Int.reduceLT, Int.reduceLE, Int.reduceEq, Int.reduceAdd, Int.reduceSub, Int.reduceMul, Int.reduceNeg, Int.reduceNe])
                              refine ⟨m1, by omega, k + 1, by omega, fe_len, ?_, ?_, ?_, ?_, ?_, ?_, ?_, rfl⟩
                              case refine_6 => rw [hall]; (try simp -dsimp (disch := omega) only [h0, AS, avals, apairs, bareP, AV.bare, AV.bares, Nat.reduceEqDiff, Nat.reduceLT, Nat.reduceAdd, ↓reduceIte, reduceCtorEq, resA, resA1, resVal, Nat.reduceLeDiff, nb_cfg, Nat.reduceBEq, AX, Int.reduceLT, Int.reduceLE, Int.reduceEq, Int.reduceAdd, Int.reduceSub, Int.reduceMul, Int.reduceNeg, Int.reduceNe])
                              all_goals (try simp -dsimp (disch := omega) only [h0, h7, h8, h9, h10, AS, avals, apairs, bareP, AV.bare, AV.bares, Nat.reduceEqDiff, Nat.reduceLT, Nat.reduceAdd, ↓reduceIte, reduceCtorEq, resA, resA1, resVal, Nat.reduceLeDiff, nb_cfg, Nat.reduceBEq, AX, Int.reduceLT, Int.reduceLE, Int.reduceEq, Int.reduceAdd, Int.reduceSub, Int.reduceMul, Int.reduceNeg, Int.reduceNe])
                        · refine ⟨0, by omega, fe_len, ?_, ?_, ?_, ?_, ?_, ?_, ?_, rfl⟩
                          all_goals (try simp -dsimp (disch := omega) only [h0, h7, h8, h9, h10, AS, avals, apairs, bareP, AV.bare, AV.bares, Nat.reduceEqDiff, Nat.reduceLT, Nat.reduceAdd, ↓reduceIte, reduceCtorEq, resA, resA1, resVal, Nat.reduceLeDiff, nb_cfg, Nat.reduceBEq, AX, Int.reduceLT, Int.reduceLE, Int.reduceEq, Int.reduceAdd, Int.reduceSub, Int.reduceMul, Int.reduceNeg, Int.reduceNe])
                          all_goals rfl
              · refine ⟨0, none, by omega, fun j x hj => by omega, (fun b hb => by cases hb), fe_len, ?_, ?_, ?_, ?_, ?_, rfl⟩
                all_goals (try simp -dsimp (disch := omega) only [h0, h7, h8, AS, avals, apairs, bareP, AV.bare, AV.bares, Nat.reduceEqDiff, Nat.reduceLT, Nat.reduceAdd, ↓reduceIte, reduceCtorEq, resA, resA1, resVal, Nat.reduceLeDiff, nb_cfg, Nat.reduceBEq, AX, Int.reduceLT, Int.reduceLE, Int.reduceEq, Int.reduceAdd, Int.reduceSub, Int.reduceMul, Int.reduceNeg, Int.reduceNe])
                all_goals rfl
          · refine ⟨[], nilS, List.replicate n false, by simp, rfl, List.nodup_nil, (fun t ht => by cases ht), .inl ⟨rfl, rfl⟩, hs1, ⟨by rw [List.length_replicate, hn0], fun t i hp => ?_⟩, fe_len, ?_, ?_, ?_⟩
            case refine_1 =>
              obtain ⟨x, hx, _⟩ := plc_some hp
              have := (List.getElem?_eq_some_iff.1 hx).1
              rw [List.getElem?_replicate, if_pos (by omega)]
              rfl
            all_goals (try simp -dsimp (disch := omega) only [h0, AS, avals, apairs, bareP, AV.bare, AV.bares, Nat.reduceEqDiff, Nat.reduceLT, Nat.reduceAdd, ↓reduceIte, reduceCtorEq, resA, resA1, resVal, Nat.reduceLeDiff, nb_cfg, Nat.reduceBEq, AX, Int.reduceLT, Int.reduceLE, Int.reduceEq, Int.reduceAdd, Int.reduceSub, Int.reduceMul, Int.reduceNeg, Int.reduceNe])
      · refine ⟨0, by omega, fun x hx => by simp at hx, fe_len, ?_, ?_, rfl⟩
        all_goals (try simp -dsimp (disch := omega) only [h0, AS, avals, apairs, bareP, AV.bare, AV.bares, Nat.reduceEqDiff, Nat.reduceLT, Nat.reduceAdd, ↓reduceIte, reduceCtorEq, resA, resA1, resVal, Nat.reduceLeDiff, nb_cfg, Nat.reduceBEq, AX, Int.reduceLT, Int.reduceLE, Int.reduceEq, Int.reduceAdd, Int.reduceSub, Int.reduceMul, Int.reduceNeg, Int.reduceNe])
        all_goals rfl
  · refine ⟨0, by omega, by simp [ids], fe_len, ?_, ?_, rfl⟩
    all_goals (try simp -dsimp (disch := omega) only [h0, AS, avals, apairs, bareP, AV.bare, AV.bares, Nat.reduceEqDiff, Nat.reduceLT, Nat.reduceAdd, ↓reduceIte, reduceCtorEq, resA, resA1, resVal, Nat.reduceLeDiff, nb_cfg, Nat.reduceBEq, AX, Int.reduceLT, Int.reduceLE, Int.reduceEq, Int.reduceAdd, Int.reduceSub, Int.reduceMul, Int.reduceNeg, Int.reduceNe])
    all_goals rfl
end Go.Proofs.Ytcimffpckcbdlaa
