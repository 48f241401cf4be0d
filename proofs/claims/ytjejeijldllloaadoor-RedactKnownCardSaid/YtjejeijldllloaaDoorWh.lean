/- Contracts of functions, and plain facts about what they compute. -/
import Derived.Test.YtjejeijldllloaaDoorWg
import Derived.Test.YtjejeijldllloaaDoorAmD
set_option linter.unusedSimpArgs false
set_option linter.unusedVariables false
/- slices.Insert of one member, into a row of its own: whatever room it has. -/
namespace Go.Proofs.YtjejeijldllloaaDoor
open Go.AM
section
variable {prim : FuncId → Option (List AV → Option AV)}
theorem el37 : (elemT (cfgP prim) 37).bind (cfgP prim).csz = some 6 := by kernel_rfl
theorem sx_lo {b g len l : Nat} {k : IntKind} (h : l < len) : sliceA (cfgP prim) 37 (.ex b g 6 0 len) (some (.v (.int k (l : Int)))) none none = some (.ex b g 6 l (len - l)) := by
  have hl : optIdx (some (.v (.int k (l : Int)))) 0 = some l := by simp [optIdx, idx]
  have hh : optIdx none len = some len := rfl
  simp only [sliceA, el37, hl, hh]
  rw [if_pos ⟨by omega, by omega, trivial⟩, if_neg (by omega), Nat.zero_add]
theorem sx_any {b g len l : Nat} {k : IntKind} (h : l ≤ len) : ∃ r, sliceA (cfgP prim) 37 (.ex b g 6 0 len) (some (.v (.int k (l : Int)))) none none = some r := by
  have hl : optIdx (some (.v (.int k (l : Int)))) 0 = some l := by simp [optIdx, idx]
  have hh : optIdx none len = some len := rfl
  simp only [sliceA, el37, hl, hh]
  rw [if_pos ⟨by omega, by omega, trivial⟩]
  exact ⟨_, rfl⟩
theorem sx_hi {b g len h : Nat} {k : IntKind} (hh : h ≤ len) : sliceA (cfgP prim) 37 (.ex b g 6 0 len) none (some (.v (.int k (h : Int)))) none = some (.ex b g 6 0 h) := by
  have hl : optIdx none 0 = some 0 := rfl
  have h2 : optIdx (some (.v (.int k (h : Int)))) len = some h := by simp [optIdx, idx]
  simp only [sliceA, el37, hl, h2]
  rw [if_pos ⟨by omega, by omega, trivial⟩, if_neg (by omega)]
  simp
theorem sx_room {b g len h : Nat} {k : IntKind} (hh : len < h) (hr : roomG g h = true) : sliceA (cfgP prim) 37 (.ex b g 6 0 len) none (some (.v (.int k (h : Int)))) none = some (.ex b g 6 0 h) := by
  have hl : optIdx none 0 = some 0 := rfl
  have h2 : optIdx (some (.v (.int k (h : Int)))) len = some h := by simp [optIdx, idx]
  simp only [sliceA, el37, hl, h2]
  rw [if_neg (by omega), if_pos ⟨trivial, trivial, by rw [Nat.zero_add]; exact hr⟩]
theorem cap37 {b g len c : Nat} (h : exCap g = some c) : capA (cfgP prim) #[37] [.ex b g 6 0 len] = some (.v (.int .i64 (c : Int))) := by
  have h0 : ((#[37] : Array TypeId)[0]?).bind (cfgP prim).und = some (.slice 48) := by kernel_rfl
  simp only [capA, h0, h, Option.map_some, Nat.sub_zero]
theorem room_48 {n : Nat} (h : n < 1073741825) : roomOk (cfgP prim) 48 n = true := by
  have hby : (cfgP prim).byt 48 = some 96 := by kernel_rfl
  simp only [roomOk, hby, Bool.and_eq_true, decide_eq_true_eq]
  omega
theorem ap_x {b0 b1 : Blk} {g n : Nat} {l : List AV} {y : AV} (hl : l.length = n) (hy : y.cells.length = 6) (hn : n < 1073741824) : appXA (cfgP prim) #[37, 37] [.ex 2 g 6 0 n, .cl true [y]] (nH [b0, b1, ⟨g, 6, l⟩]) = some (.ex 2 (nextG g) 6 0 (n + 1), nH [b0, b1, ⟨nextG g, 6, l ++ [y]⟩]) := by
  have h0 : ((#[37, 37] : Array TypeId)[0]?).bind (elemT (cfgP prim)) = some 48 := by kernel_rfl
  have h1 : ((#[37, 37] : Array TypeId)[1]?).bind (cfgP prim).und = some (.slice 48) := by kernel_rfl
  have hz : zeroA (cfgP prim) 48 = some z6 := by kernel_rfl
  have hzl : z6.cells.length = 6 := rfl
  have hc : (cfgP prim).csz 48 = some 6 := by kernel_rfl
  have hb : blkAt (nH [b0, b1, ⟨g, 6, l⟩]) 2 g = some ⟨g, 6, l⟩ := by simp [blkAt, nH]
  simp only [appXA, h0, h1, hz, hc, hzl, if_true, appendX, elems]
  rw [if_pos ⟨hy, room_48 (by simp)⟩]
  simp only [hb]
  rw [if_pos ⟨trivial, trivial, hl, room_48 (by simp; omega)⟩]
  rfl
theorem mk_x {b0 b1 : Blk} {g i m c : Nat} {l : List AV} (hil : i ≤ l.length) (hg : exCap g = some c) (hc : c < i + m) (hm : i + m < 1073741825) : appXA (cfgP prim) #[37, 3] [.ex 2 g 6 0 i, .v (.int .i64 (m : Int))] (nH [b0, b1, ⟨g, 6, l⟩]) = some (.ex 3 0 6 0 (i + m), nH [b0, b1, ⟨g, 6, l⟩, ⟨0, 6, l.take i ++ List.replicate m z6⟩]) := by
  have h0 : ((#[37, 3] : Array TypeId)[0]?).bind (elemT (cfgP prim)) = some 48 := by kernel_rfl
  have h1 : ((#[37, 3] : Array TypeId)[1]?).bind (cfgP prim).und = some (.int .i64) := by kernel_rfl
  have hz : zeroA (cfgP prim) 48 = some z6 := by kernel_rfl
  have hcz : (cfgP prim).csz 48 = some (5 + 1) := by kernel_rfl
  have hb : blkAt (nH [b0, b1, ⟨g, 6, l⟩]) 2 g = some ⟨g, 6, l⟩ := by simp [blkAt, nH]
  simp only [appXA, h0, h1, appMk, hz, hcz, hb, hg, Int.toNat_natCast]
  rw [if_pos ⟨trivial, trivial, hil, by omega, hc, rfl, by decide, room_48 hm⟩]
  rfl
theorem copy_gen {b g off len : Nat} {y : AV} {H : Hp} {k : Blk} {ys : List AV} (hb : blkAt H b g = some k) (hs : segA 6 y len H = some ys) (ho : off ≤ k.xs.length) (hes : k.es = 6) : copyA (cfgP prim) #[37, 37] [.ex b g 6 off len, y] H = some (.v (.int .i64 (ys.length : Int)), { H with blks := H.blks.set b { k with xs := k.xs.take off ++ ys ++ k.xs.drop (off + ys.length) } }) := by
  have h0 : ((#[37, 37] : Array TypeId)[0]?).bind (elemT (cfgP prim)) = some 48 := by kernel_rfl
  have hcz : (cfgP prim).csz 48 = some 6 := by kernel_rfl
  simp only [copyA, h0, hb, hs]
  rw [if_pos ⟨ho, hes, hcz⟩]
theorem seg_one {y : AV} {n : Nat} {H : Hp} (hy : y.cells.length = 6) (hn : 0 < n) : segA 6 (.cl true [y]) n H = some [y] := by
  obtain ⟨m, rfl⟩ : ∃ m, n = m + 1 := ⟨n - 1, by omega⟩
  simp [segA, elems, szOk, hy]
theorem seg_ex {b g off len n : Nat} {H : Hp} {k : Blk} {ys : List AV} (hb : blkAt H b g = some k) (hes : k.es = 6) (hle : off + min n len ≤ k.xs.length) (hy : (k.xs.drop off).take (min n len) = ys) : segA 6 (.ex b g 6 off len) n H = some ys := by
  simp only [segA, hb, Option.bind_some]
  rw [if_pos ⟨hle, hes, trivial⟩, hy]
end
section
variable {b0 b1 : Blk} {g c i k n : Nat} {us ws : List AV} {y : AV}
/-- At the end: it is appended. -/
theorem ins_end (hl : us.length = n) (hy : y.cells.length = 6) (hn : n < 1073741824) : CallOk (cfgP fun _ => none) 79 [.ex 2 g 6 0 n, .v (.int .i64 (n : Int)), .cl true [y]] (nH [b0, b1, ⟨g, 6, us⟩]) (.ex 2 (nextG g) 6 0 (n + 1)) (nH [b0, b1, ⟨nextG g, 6, us ++ [y]⟩]) := by
  have q := ap_x (prim := fun _ => none) (b0 := b0) (b1 := b1) (g := g) hl hy hn
  obtain ⟨r, hr⟩ := sx_any (prim := fun _ => none) (b := 2) (g := g) (len := n) (l := n) (k := .i64) (Nat.le_refl _)
  have nb : nbD 79 (some 25) = true := rfl
  have lx : lenA (cfgP fun _ => none) #[37] [.ex 2 g 6 0 n] = some (.v (.int .i64 n)) := len_ex (e := 48) (by kernel_rfl)
  have lc : lenA (cfgP fun _ => none) #[37] [.cl true [y]] = some (.v (.int .i64 1)) := len_cl (e := 48) (by kernel_rfl)
  have dI : decide ((n : Int) = (n : Int)) = true := decide_eq_true rfl
  obtain ⟨H, hH⟩ : ∃ H, nH [b0, b1, ⟨g, 6, us⟩] = H := ⟨_, rfl⟩
  obtain ⟨H', hH'⟩ : ∃ H', nH [b0, b1, ⟨nextG g, 6, us ++ [y]⟩] = H' := ⟨_, rfl⟩
  rw [hH, hH'] at q
  rw [hH, hH']
  refine call_of_wk (call := noCall) (fn := Tryd.f79) (rs := [.tmp 6]) cokN noCall_ok (fns_cfg Tryd.func79 rfl) rfl rfl ?_
  intro env hl0 hargs
  have hn : env.length = 95 := hl0
  have h0 := hargs 0 _ rfl
  have h1 := hargs 1 _ rfl
  have h2 := hargs 2 _ rfl
  clear hargs hl0
  refine wkT_of ?_
  rw [fe_self hn]
  (try simp -dsimp (disch := omega) only [h0, h1, h2, hr, lx, lc, dI, nb, BEq.rfl, appB_t, q, AS, avals, apairs, bareP, AV.bare, AV.bares, Nat.reduceEqDiff, Nat.reduceLT, Nat.reduceAdd, ↓reduceIte, reduceCtorEq, resA, resA1, resVal, Nat.reduceLeDiff, nb_cfg, Nat.reduceBEq, AX, Int.reduceLT, Int.reduceLE, Int.reduceEq, Int.reduceAdd, Int.reduceSub, Int.reduceMul, Int.reduceNeg, Int.reduceNe])
set_option maxHeartbeats 4000000 in
set_option maxRecDepth 100000 in
/-- There is no room: a new row. -/
theorem ins_grow (hn : n = i + k + 1) (ha : us.length = i) (hb : ws.length = k + 1) (hy : y.cells.length = 6) (hl : n < 1073741824) (hg : exCap g = some c) (hc : c < n + 1) : CallOk (cfgP fun _ => none) 79 [.ex 2 g 6 0 n, .v (.int .i64 (i : Int)), .cl true [y]] (nH [b0, b1, ⟨g, 6, us ++ ws⟩]) (.ex 3 0 6 0 (n + 1)) (nH [b0, b1, ⟨g, 6, us ++ ws⟩, ⟨0, 6, us ++ y :: ws⟩]) := by
  subst hn ha
  have lx : lenA (cfgP fun _ => none) #[37] [.ex 2 g 6 0 (us.length + k + 1)] = some (.v (.int .i64 ((us.length + k + 1 : Nat) : Int))) := len_ex (e := 48) (by kernel_rfl)
  have lc : lenA (cfgP fun _ => none) #[37] [.cl true [y]] = some (.v (.int .i64 1)) := len_cl (e := 48) (by kernel_rfl)
  have dI : decide ((us.length : Int) = ((us.length + k + 1 : Nat) : Int)) = false := decide_eq_false (by omega)
  have e1 : ((us.length + k + 1 : Nat) : Int) + 1 = ((us.length + k + 2 : Nat) : Int) := by omega
  have e2 : ((us.length + k + 2 : Nat) : Int) - (us.length : Int) = ((k + 2 : Nat) : Int) := by omega
  have e3 : (us.length : Int) + 1 = ((us.length + 1 : Nat) : Int) := by omega
  have cp := cap37 (prim := fun _ => none) (b := 2) (len := us.length + k + 1) hg
  have dC : decide ((c : Int) < ((us.length + k + 2 : Nat) : Int)) = true := decide_eq_true (by omega)
  have s1 := sx_hi (prim := fun _ => none) (b := 2) (g := g) (k := .i64) (show us.length ≤ us.length + k + 1 by omega)
  have s2 : sliceA (cfgP fun _ => none) 37 (.ex 3 0 6 0 (us.length + k + 2)) (some (.v (.int .i64 (us.length : Int)))) none none = some (.ex 3 0 6 us.length (k + 2)) := by
    have := sx_lo (prim := fun _ => none) (b := 3) (g := 0) (k := .i64) (show us.length < us.length + k + 2 by omega)
    rw [show us.length + k + 2 - us.length = k + 2 by omega] at this
    exact this
  have s3 : sliceA (cfgP fun _ => none) 37 (.ex 3 0 6 0 (us.length + k + 2)) (some (.v (.int .i64 ((us.length + 1 : Nat) : Int)))) none none = some (.ex 3 0 6 (us.length + 1) (k + 1)) := by
    have := sx_lo (prim := fun _ => none) (b := 3) (g := 0) (k := .i64) (show us.length + 1 < us.length + k + 2 by omega)
    rw [show us.length + k + 2 - (us.length + 1) = k + 1 by omega] at this
    exact this
  have s4 : sliceA (cfgP fun _ => none) 37 (.ex 2 g 6 0 (us.length + k + 1)) (some (.v (.int .i64 (us.length : Int)))) none none = some (.ex 2 g 6 us.length (k + 1)) := by
    have := sx_lo (prim := fun _ => none) (b := 2) (g := g) (k := .i64) (show us.length < us.length + k + 1 by omega)
    rw [show us.length + k + 1 - us.length = k + 1 by omega] at this
    exact this
  have nb : nbD 79 (some 40) = true := rfl
  obtain ⟨H, hH⟩ : ∃ H, nH [b0, b1, ⟨g, 6, us ++ ws⟩] = H := ⟨_, rfl⟩
  obtain ⟨H1, hH1⟩ : ∃ H1, nH [b0, b1, ⟨g, 6, us ++ ws⟩, ⟨0, 6, us ++ List.replicate (k + 2) z6⟩] = H1 := ⟨_, rfl⟩
  obtain ⟨H2, hH2⟩ : ∃ H2, nH [b0, b1, ⟨g, 6, us ++ ws⟩, ⟨0, 6, us ++ y :: List.replicate (k + 1) z6⟩] = H2 := ⟨_, rfl⟩
  obtain ⟨H3, hH3⟩ : ∃ H3, nH [b0, b1, ⟨g, 6, us ++ ws⟩, ⟨0, 6, us ++ y :: ws⟩] = H3 := ⟨_, rfl⟩
  have q1 : appXA (cfgP fun _ => none) #[37, 3] [.ex 2 g 6 0 us.length, .v (.int .i64 ((k + 2 : Nat) : Int))] H = some (.ex 3 0 6 0 (us.length + k + 2), H1) := by
    have := mk_x (prim := fun _ => none) (b0 := b0) (b1 := b1) (l := us ++ ws) (i := us.length) (m := k + 2) (by simp) hg (by omega) (by omega)
    rw [List.take_left] at this
    rw [← hH, ← hH1]
    exact this
  have q2 : copyA (cfgP fun _ => none) #[37, 37] [.ex 3 0 6 us.length (k + 2), .cl true [y]] H1 = some (.v (.int .i64 1), H2) := by
    have := copy_gen (prim := fun _ => none) (b := 3) (g := 0) (off := us.length) (len := k + 2) (y := .cl true [y]) (H := H1) (k := ⟨0, 6, us ++ List.replicate (k + 2) z6⟩) (by rw [← hH1]; rfl) (seg_one hy (by omega)) (by simp) rfl
    rw [this, ← hH1, ← hH2]
    have e5 : (us ++ List.replicate (k + 2) z6).take us.length ++ [y] ++ (us ++ List.replicate (k + 2) z6).drop (us.length + [y].length) = us ++ y :: List.replicate (k + 1) z6 := by
      rw [List.take_left, List.drop_append]
      simp
    simp only [e5, nH]
    rfl
  have q3 : copyA (cfgP fun _ => none) #[37, 37] [.ex 3 0 6 (us.length + 1) (k + 1), .ex 2 g 6 us.length (k + 1)] H2 = some (.v (.int .i64 ((k + 1 : Nat) : Int)), H3) := by
    have hs := seg_ex (b := 2) (g := g) (off := us.length) (len := k + 1) (n := k + 1) (H := H2) (k := ⟨g, 6, us ++ ws⟩) (ys := ws) (by rw [← hH2]; simp [blkAt, nH]) rfl (by simp [hb]) (by
      show ((us ++ ws).drop us.length).take (min (k + 1) (k + 1)) = ws
      rw [List.drop_left, Nat.min_self]
      exact List.take_of_length_le (by omega))
    have := copy_gen (prim := fun _ => none) (b := 3) (g := 0) (off := us.length + 1) (len := k + 1) (H := H2) (k := ⟨0, 6, us ++ y :: List.replicate (k + 1) z6⟩) (by rw [← hH2]; rfl) hs (by simp) rfl
    rw [this, ← hH2, ← hH3, hb]
    have e5 : (us ++ y :: List.replicate (k + 1) z6).take (us.length + 1) ++ ws ++ (us ++ y :: List.replicate (k + 1) z6).drop (us.length + 1 + (k + 1)) = us ++ y :: ws := by
      rw [List.take_append, List.drop_of_length_le (by simp; omega)]
      simp
      exact List.take_of_length_le (by omega)
    simp only [e5, nH]
    rfl
  obtain ⟨r0, hr0⟩ := sx_any (prim := fun _ => none) (b := 2) (g := g) (len := us.length + k + 1) (l := us.length) (k := .i64) (by omega)
  have hkl : us.length + k + 1 + 1 = us.length + k + 2 := rfl
  rw [hH, hH3, hkl]
  refine call_of_wk (call := noCall) (fn := Tryd.f79) (rs := [.tmp 6]) cokN noCall_ok (fns_cfg Tryd.func79 rfl) rfl rfl ?_
  intro env hl0 hargs
  have hn : env.length = 95 := hl0
  have h0 := hargs 0 _ rfl
  have h1 := hargs 1 _ rfl
  have h2 := hargs 2 _ rfl
  clear hargs hl0
  refine wkT_of ?_
  rw [fe_self hn]
  (try simp -dsimp (disch := omega) only [h0, h1, h2, lx, lc, dI, wrap64, e1, e2, e3, cp, dC, s1, s2, s3, s4, nb, BEq.rfl, appB_t, q1, q2, q3, AS, avals, apairs, bareP, AV.bare, AV.bares, Nat.reduceEqDiff, Nat.reduceLT, Nat.reduceAdd, ↓reduceIte, reduceCtorEq, resA, resA1, resVal, Nat.reduceLeDiff, nb_cfg, Nat.reduceBEq, AX, Int.reduceLT, Int.reduceLE, Int.reduceEq, Int.reduceAdd, Int.reduceSub, Int.reduceMul, Int.reduceNeg, Int.reduceNe])
  exact ⟨by kernel_rfl, trivial⟩
set_option maxHeartbeats 4000000 in
set_option maxRecDepth 100000 in
/-- There is room. -/
theorem ins_room (hn : n = i + k + 1) (ha : us.length = i) (hb : ws.length = k + 1) (hy : y.cells.length = 6) (hl : n < 1073741824) (hg : exCap g = some c) (hc : n + 1 ≤ c) : CallOk (cfgP fun _ => none) 79 [.ex 2 g 6 0 n, .v (.int .i64 (i : Int)), .cl true [y]] (nH [b0, b1, ⟨g, 6, us ++ ws⟩]) (.ex 2 g 6 0 (n + 1)) (nH [b0, b1, ⟨g, 6, us ++ y :: ws⟩]) := by
  subst hn ha
  have lx : lenA (cfgP fun _ => none) #[37] [.ex 2 g 6 0 (us.length + k + 1)] = some (.v (.int .i64 ((us.length + k + 1 : Nat) : Int))) := len_ex (e := 48) (by kernel_rfl)
  have lc : lenA (cfgP fun _ => none) #[37] [.cl true [y]] = some (.v (.int .i64 1)) := len_cl (e := 48) (by kernel_rfl)
  have dI : decide ((us.length : Int) = ((us.length + k + 1 : Nat) : Int)) = false := decide_eq_false (by omega)
  have e1 : ((us.length + k + 1 : Nat) : Int) + 1 = ((us.length + k + 2 : Nat) : Int) := by omega
  have e3 : (us.length : Int) + 1 = ((us.length + 1 : Nat) : Int) := by omega
  have cp := cap37 (prim := fun _ => none) (b := 2) (len := us.length + k + 1) hg
  have dC : decide ((c : Int) < ((us.length + k + 2 : Nat) : Int)) = false := decide_eq_false (by omega)
  have hrm : roomG g (us.length + k + 2) = true := by
    unfold roomG
    rw [hg]
    exact decide_eq_true (by omega)
  have s1 := sx_room (prim := fun _ => none) (b := 2) (g := g) (k := .i64) (show us.length + k + 1 < us.length + k + 2 by omega) hrm
  have s2 : sliceA (cfgP fun _ => none) 37 (.ex 2 g 6 0 (us.length + k + 2)) (some (.v (.int .i64 (us.length : Int)))) none none = some (.ex 2 g 6 us.length (k + 2)) := by
    have := sx_lo (prim := fun _ => none) (b := 2) (g := g) (k := .i64) (show us.length < us.length + k + 2 by omega)
    rw [show us.length + k + 2 - us.length = k + 2 by omega] at this
    exact this
  have s3 : sliceA (cfgP fun _ => none) 37 (.ex 2 g 6 0 (us.length + k + 2)) (some (.v (.int .i64 ((us.length + 1 : Nat) : Int)))) none none = some (.ex 2 g 6 (us.length + 1) (k + 1)) := by
    have := sx_lo (prim := fun _ => none) (b := 2) (g := g) (k := .i64) (show us.length + 1 < us.length + k + 2 by omega)
    rw [show us.length + k + 2 - (us.length + 1) = k + 1 by omega] at this
    exact this
  obtain ⟨H, hH⟩ : ∃ H, nH [b0, b1, ⟨g, 6, us ++ ws⟩] = H := ⟨_, rfl⟩
  obtain ⟨H2, hH2⟩ : ∃ H2, nH [b0, b1, ⟨g, 6, (us ++ ws).take (us.length + 1) ++ ws⟩] = H2 := ⟨_, rfl⟩
  obtain ⟨H3, hH3⟩ : ∃ H3, nH [b0, b1, ⟨g, 6, us ++ y :: ws⟩] = H3 := ⟨_, rfl⟩
  have hlen : (us ++ ws).length = us.length + k + 1 := by rw [List.length_append, hb]; omega
  have ov : ovlA [.cl true [y], .ex 2 g 6 (us.length + 1) (k + 1)] H = some (.v (.bool false)) := by
    rw [← hH]
    simp [ovlA, blkAt, nH]
  have q2 : copyA (cfgP fun _ => none) #[37, 37] [.ex 2 g 6 (us.length + 1) (k + 1), .ex 2 g 6 us.length (k + 2)] H = some (.v (.int .i64 ((k + 1 : Nat) : Int)), H2) := by
    have hbk : blkAt H 2 g = some ⟨g, 6, us ++ ws⟩ := by rw [← hH]; simp [blkAt, nH]
    have hs := seg_ex (b := 2) (g := g) (off := us.length) (len := k + 2) (n := k + 1) (H := H) (k := ⟨g, 6, us ++ ws⟩) (ys := ws) hbk rfl (by show us.length + min (k + 1) (k + 2) ≤ (us ++ ws).length; rw [hlen]; omega) (by
      show ((us ++ ws).drop us.length).take (min (k + 1) (k + 2)) = ws
      rw [List.drop_left]
      exact List.take_of_length_le (by omega))
    have := copy_gen (prim := fun _ => none) (b := 2) (g := g) (off := us.length + 1) (len := k + 1) (H := H) (k := ⟨g, 6, us ++ ws⟩) hbk hs (by show us.length + 1 ≤ (us ++ ws).length; rw [hlen]; omega) rfl
    rw [this, ← hH, ← hH2, hb]
    have e5 : (us ++ ws).take (us.length + 1) ++ ws ++ (us ++ ws).drop (us.length + 1 + (k + 1)) = (us ++ ws).take (us.length + 1) ++ ws := by
      rw [List.drop_of_length_le (by rw [hlen]; omega), List.append_nil]
    simp only [e5, nH]
    rfl
  have q3 : copyA (cfgP fun _ => none) #[37, 37] [.ex 2 g 6 us.length (k + 2), .cl true [y]] H2 = some (.v (.int .i64 1), H3) := by
    have htl : ((us ++ ws).take (us.length + 1)).length = us.length + 1 := by rw [List.length_take, hlen]; omega
    have := copy_gen (prim := fun _ => none) (b := 2) (g := g) (off := us.length) (len := k + 2) (y := .cl true [y]) (H := H2) (k := ⟨g, 6, (us ++ ws).take (us.length + 1) ++ ws⟩) (by rw [← hH2]; simp [blkAt, nH]) (seg_one hy (by omega)) (by show us.length ≤ ((us ++ ws).take (us.length + 1) ++ ws).length; rw [List.length_append, htl]; omega) rfl
    rw [this, ← hH2, ← hH3]
    have e5 : ((us ++ ws).take (us.length + 1) ++ ws).take us.length ++ [y] ++ ((us ++ ws).take (us.length + 1) ++ ws).drop (us.length + [y].length) = us ++ y :: ws := by
      have h1 : ((us ++ ws).take (us.length + 1) ++ ws).drop (us.length + [y].length) = ws := by
        show ((us ++ ws).take (us.length + 1) ++ ws).drop (us.length + 1) = ws
        exact List.drop_left' htl
      have h2 : ((us ++ ws).take (us.length + 1) ++ ws).take us.length = us := by
        rw [List.take_append_of_le_length (by rw [htl]; omega), List.take_take, Nat.min_eq_left (by omega), List.take_left]
      rw [h1, h2]
      simp
    simp only [e5, nH]
    rfl
  obtain ⟨r0, hr0⟩ := sx_any (prim := fun _ => none) (b := 2) (g := g) (len := us.length + k + 1) (l := us.length) (k := .i64) (by omega)
  have hkl : us.length + k + 1 + 1 = us.length + k + 2 := rfl
  rw [hH, hH3, hkl]
  refine call_of_wk (call := noCall) (fn := Tryd.f79) (rs := [.tmp 6]) cokN noCall_ok (fns_cfg Tryd.func79 rfl) rfl rfl ?_
  intro env hl0 hargs
  have hn : env.length = 95 := hl0
  have h0 := hargs 0 _ rfl
  have h1 := hargs 1 _ rfl
  have h2 := hargs 2 _ rfl
  clear hargs hl0
  refine wkT_of ?_
  rw [fe_self hn]
  (try simp -dsimp (disch := omega) only [h0, h1, h2, hr0, lx, lc, dI, wrap64, e1, e3, cp, dC, s1, s2, s3, ct_ovl (C := cfgP fun _ => none) (f := 101) rfl rfl rfl rfl, ov, q2, q3, Bool.not_false, AS, avals, apairs, bareP, AV.bare, AV.bares, Nat.reduceEqDiff, Nat.reduceLT, Nat.reduceAdd, ↓reduceIte, reduceCtorEq, resA, resA1, resVal, Nat.reduceLeDiff, nb_cfg, Nat.reduceBEq, AX, Int.reduceLT, Int.reduceLE, Int.reduceEq, Int.reduceAdd, Int.reduceSub, Int.reduceMul, Int.reduceNeg, Int.reduceNe])
  exact ⟨by kernel_rfl, trivial⟩
end
end Go.Proofs.YtjejeijldllloaaDoor

/- slices.Insert of one member, as one contract. -/
namespace Go.Proofs.YtjejeijldllloaaDoor
open Go.AM
theorem noBs_vals {G : Gh} : ∀ {cs : List AV} {ys : List Value}, VRels G cs ys → (∀ c ∈ cs, c.bare = some c ∨ ∃ b g n, b < 3 ∧ c = .ex b g 6 0 n) → noBs 3 cs = true
  | [], _, _, _ => rfl
  | c :: cs, _, ⟨z, zs, rfl, r, rs⟩, h => by
    have h1 : noB 3 c = true := by
      rcases h c (by simp) with hb | ⟨b, g, n, hb, rfl⟩
      · exact noB_bare 3 c (bare_bare c c z hb r).1
      · exact decide_eq_true hb
    rw [noBs, h1, noBs_vals rs fun c hc => h c (by simp [hc])]
    rfl
theorem noBs_row {G : Gh} : ∀ {l : List AV}, (∀ (i : Nat) (x : AV), l[i]? = some x → ∃ z, VRel G x z) → (∀ x ∈ l, x.bare = some x) → noBs 3 l = true
  | [], _, _ => rfl
  | x :: l, h, hb => by
    obtain ⟨z, r⟩ := h 0 x rfl
    rw [noBs, noB_bare 3 x (bare_bare x x z (hb x (by simp)) r).1, noBs_row (G := G) (fun i y hy => h (i + 1) y (by simpa using hy)) fun y hy => hb y (by simp [hy])]
    rfl
def insL (es : List E) (i : Nat) (z : E) : List E := es.take i ++ z :: es.drop i
theorem insL_len (es : List E) (i : Nat) (z : E) : (insL es i z).length = es.length + 1 := by
  unfold insL
  rw [List.length_append, List.length_cons, List.length_take, List.length_drop]
  omega
theorem insL_map (es : List E) (i : Nat) (z : E) : (insL es i z).map enc = (es.map enc).take i ++ enc z :: (es.map enc).drop i := by
  simp [insL, List.map_take, List.map_drop]
structure In where
  c0 : List AV
  c1 : List AV
  es : List E
  i : Nat
  z : E
structure In.ok (p : In) : Prop where
  h0 : ∀ c ∈ p.c0, c.bare = some c ∨ ∃ b g n, b < 3 ∧ c = .ex b g 6 0 n
  h1 : ∀ c ∈ p.c1, c.bare = some c ∨ ∃ b g n, b < 3 ∧ c = .ex b g 6 0 n
  o : okL p.es
  z : okE p.z
  i : p.i ≤ p.es.length
  l : p.es.length < 1073741824
def In.args (p : In) : List AV := [.ex 2 0 6 0 p.es.length, .v (.int .i64 (p.i : Int)), .cl true [enc p.z]]
def In.H (p : In) : Hp := nH [⟨0, 5, [.agg p.c0]⟩, ⟨0, 5, [.agg p.c1]⟩, ⟨0, 6, p.es.map enc⟩]
def In.r (p : In) : AV := .ex 2 (insG 0) 6 0 (p.es.length + 1)
def In.H' (p : In) : Hp := nH [⟨0, 5, [.agg p.c0]⟩, ⟨0, 5, [.agg p.c1]⟩, ⟨insG 0, 6, (insL p.es p.i p.z).map enc⟩]
theorem In.callOk (p : In) (hp : p.ok) : CallOk (cfgP fun _ => none) 79 p.args p.H p.r p.H' := by
  obtain ⟨c0, c1, es, i, z⟩ := p
  obtain ⟨h0, h1, ho, hz, hi, hl⟩ := hp
  simp only at h0 h1 ho hz hi hl
  intro G W vs S rv
  obtain ⟨v, l, rfl, r1, rest⟩ := rv
  have hbl : blkAt (nH [⟨0, 5, [.agg c0]⟩, ⟨0, 5, [.agg c1]⟩, ⟨0, 6, es.map enc⟩]) 2 0 = some ⟨0, 6, es.map enc⟩ := rfl
  obtain ⟨c, G1, hnc, hcb, S1, A1, r1'⟩ := Sim.reveal S hbl (by decide) r1
  obtain ⟨g, hg⟩ : ∃ g, capG 0 c = g := ⟨_, rfl⟩
  have hcap : exCap g = some c := by rw [← hg]; exact exCap_capG hcb
  have hnx : nextG g = insG 0 := by rw [← hg]; exact nextG_capG hcb
  have hlt : g < insG 0 := by rw [← hg]; exact insG_lt hcb
  rw [hg] at S1 r1'
  replace S1 : Sim (cfgP fun _ => none) G1 (nH [⟨0, 5, [.agg c0]⟩, ⟨0, 5, [.agg c1]⟩, ⟨g, 6, es.map enc⟩]) W := S1
  have rv1 : VRels G1.g [.ex 2 g 6 0 es.length, .v (.int .i64 (i : Int)), .cl true [enc z]] (v :: l) := ⟨v, l, rfl, r1', VRels.mono A1.gle _ _ rest⟩
  have hy : (enc z).cells.length = 6 := by rw [enc_cells, List.length_cons, hz.1]
  have adv : ∀ {x : AV} {H : Hp} {y : Value} {W' : World}, Post (cfgP fun _ => none) G1 W x H y W' → Post (cfgP fun _ => none) G W x H y W' := fun ⟨G', r, S', A⟩ => ⟨G', r, S', A1.trans A⟩
  have hml : (es.map enc).length = es.length := List.length_map ..
  show Calls _ _ _ W fun e W' => ∃ y, e = .returned y ∧ Post (cfgP fun _ => none) G W (.ex 2 (insG 0) 6 0 (es.length + 1)) (nH [⟨0, 5, [.agg c0]⟩, ⟨0, 5, [.agg c1]⟩, ⟨insG 0, 6, (insL es i z).map enc⟩]) y W'
  rw [insL_map]
  by_cases hend : i = es.length
  · subst hend
    have h := ins_end (b0 := ⟨0, 5, [.agg c0]⟩) (b1 := ⟨0, 5, [.agg c1]⟩) (g := g) hml hy hl G1 W (v :: l) S1 rv1
    rw [hnx] at h
    refine h.mono fun e W' ⟨y, he, hp⟩ => ⟨y, he, ?_⟩
    have := adv hp
    rw [List.take_of_length_le (by omega), List.drop_of_length_le (by omega)]
    exact this
  · obtain ⟨k, hk⟩ : ∃ k, es.length = i + k + 1 := ⟨es.length - i - 1, by omega⟩
    obtain ⟨us, hus⟩ : ∃ us, (es.map enc).take i = us := ⟨_, rfl⟩
    obtain ⟨ws, hws⟩ : ∃ ws, (es.map enc).drop i = ws := ⟨_, rfl⟩
    have hcat : es.map enc = us ++ ws := by rw [← hus, ← hws, List.take_append_drop]
    have hul : us.length = i := by rw [← hus, List.length_take, hml]; omega
    have hwl : ws.length = k + 1 := by rw [← hws, List.length_drop, hml]; omega
    rw [hus, hws]
    have hbare : ∀ x ∈ us ++ ws, x.bare = some x := by
      rw [← hcat]
      intro x hx
      obtain ⟨q, hq, rfl⟩ := List.mem_map.1 hx
      exact enc_bare (ho q hq)
    rw [hcat] at S1
    by_cases hroom : es.length + 1 ≤ c
    · have h := ins_room (b0 := ⟨0, 5, [.agg c0]⟩) (b1 := ⟨0, 5, [.agg c1]⟩) (y := enc z) hk hul hwl hy hl hcap hroom G1 W (v :: l) S1 rv1
      refine h.mono fun e W' ⟨y, he, hp⟩ => ⟨y, he, ?_⟩
      exact adv (Post.remark hp (zs := us ++ enc z :: ws) rfl (insG_le 0) hlt (insG_cap 0))
    · have h := ins_grow (b0 := ⟨0, 5, [.agg c0]⟩) (b1 := ⟨0, 5, [.agg c1]⟩) (y := enc z) hk hul hwl hy hl hcap (by omega) G1 W (v :: l) S1 rv1
      refine h.mono fun e W' ⟨y, he, hp⟩ => ⟨y, he, ?_⟩
      have hz3 : noBs 3 (us ++ enc z :: ws) = true := by
        obtain ⟨_, G2, _, S2, _⟩ : ∃ x : Unit, ∃ G2, True ∧ Sim (cfgP fun _ => none) G2 (nH [⟨0, 5, [.agg c0]⟩, ⟨0, 5, [.agg c1]⟩, ⟨g, 6, us ++ ws⟩, ⟨0, 6, us ++ enc z :: ws⟩]) W' ∧ True := by
          obtain ⟨G2, _, S2, _⟩ := hp
          exact ⟨(), G2, trivial, S2, trivial⟩
        obtain ⟨_, _, cells, _, _, _, _, _, _, hr⟩ := S2.blk 3 ⟨0, 6, us ++ enc z :: ws⟩ rfl
        refine noBs_row (fun j x hx => by obtain ⟨z, r, _⟩ := hr j x hx; exact ⟨z, r⟩) fun x hx => ?_
        rcases List.mem_append.1 hx with h | h
        · exact hbare x (by simp [h])
        · rcases List.mem_cons.1 h with rfl | h
          · exact enc_bare hz
          · exact hbare x (by simp [h])
      refine adv (Post.move (t := []) (L := [⟨0, 5, [.agg c0]⟩, ⟨0, 5, [.agg c1]⟩, ⟨g, 6, us ++ ws⟩]) (b := 2) (xs := us ++ ws) hp rfl (insG_le 0) hlt (insG_cap 0) (fun g' => S1.blkN 3 g' (by simp [nH])) (fun k hk => ?_) hz3)
      simp only [List.mem_cons, List.not_mem_nil, or_false] at hk
      rcases hk with rfl | rfl | rfl
      · obtain ⟨_, _, _, _, _, _, _, _, _, hr⟩ := S1.blk 0 ⟨0, 5, [.agg c0]⟩ rfl
        obtain ⟨z0, ⟨ys, _, r⟩, _⟩ := hr 0 (.agg c0) rfl
        show (noBs 3 c0 && true) = true
        rw [noBs_vals r h0]
        rfl
      · obtain ⟨_, _, _, _, _, _, _, _, _, hr⟩ := S1.blk 1 ⟨0, 5, [.agg c1]⟩ rfl
        obtain ⟨z0, ⟨ys, _, r⟩, _⟩ := hr 0 (.agg c1) rfl
        show (noBs 3 c1 && true) = true
        rw [noBs_vals r h1]
        rfl
      · obtain ⟨_, _, cells, _, _, _, _, _, _, hr⟩ := S1.blk 2 ⟨g, 6, us ++ ws⟩ rfl
        exact noBs_row (fun j x hx => by obtain ⟨z, r, _⟩ := hr j x hx; exact ⟨z, r⟩) hbare
noncomputable def inT := relT 79 In.ok In.args In.H In.r In.H'
theorem inT_ok : CallsOk (cfgP fun _ => none) inT := relT_ok (fns_cfg Tryd.func79 rfl) rfl fun p h => In.callOk p h
theorem inT_eq (p : In) (hp : p.ok) : inT 79 p.args p.H = some (p.r, p.H') :=
  relT_eq (f0 := 79) (X := In.ok) (a := In.args) (h := In.H) (r := In.r) (h' := In.H') (fun p q hp hq ha hh => by
    obtain ⟨c0, c1, es, i, z⟩ := p
    obtain ⟨d0, d1, fs, j, y⟩ := q
    injection ha with _ ha
    injection ha with a1 ha
    injection ha with a2 _
    injection a1 with a1
    injection a1 with _ a1
    injection a2 with _ a2
    injection a2 with a2 _
    have ij : i = j := Int.ofNat_inj.1 a1
    have zy : z = y := enc_inj a2
    have hh' : nH [⟨0, 5, [.agg c0]⟩, ⟨0, 5, [.agg c1]⟩, ⟨0, 6, es.map enc⟩] = nH [⟨0, 5, [.agg d0]⟩, ⟨0, 5, [.agg d1]⟩, ⟨0, 6, fs.map enc⟩] := hh
    injection hh' with _ hb
    injection hb with b0 hb
    injection hb with b1 hb
    injection hb with b2 _
    injection b0 with _ _ b0
    injection b0 with b0 _
    injection b0 with b0
    injection b1 with _ _ b1
    injection b1 with b1 _
    injection b1 with b1
    injection b2 with _ _ b2
    have ef := encs_inj b2
    subst ij zy b0 b1 ef
    exact ⟨rfl, rfl⟩) p hp
/-! ### Into nothing -/
theorem ins_nil (b : Bool) {b0 b1 : Blk} {y : AV} (hy : y.cells.length = 6) : CallOk (cfgP fun _ => none) 79 [nilm b, .v (.int .i64 0), .cl true [y]] (nH [b0, b1]) (.ex 2 0 6 0 1) (nH [b0, b1, ⟨0, 6, [y]⟩]) := by
  have q : appXA (cfgP fun _ => none) #[37, 37] [nilm b, .cl true [y]] (nH [b0, b1]) = some (.ex 2 0 6 0 1, nH [b0, b1, ⟨0, 6, [y]⟩]) := by
    have h0 : ((#[37, 37] : Array TypeId)[0]?).bind (elemT (cfgP fun _ => none)) = some 48 := by kernel_rfl
    have h1 : ((#[37, 37] : Array TypeId)[1]?).bind (cfgP fun _ => none).und = some (.slice 48) := by kernel_rfl
    have hz : zeroA (cfgP fun _ => none) 48 = some z6 := by kernel_rfl
    have hzl : z6.cells.length = 6 := rfl
    have hc : (cfgP fun _ => none).csz 48 = some 6 := by kernel_rfl
    cases b <;> simp only [nilm, if_true, Bool.false_eq_true, if_false, appXA, h0, h1, hz, hc, hzl, appendX, elems] <;> rw [if_pos ⟨hy, room_48 (by simp)⟩] <;> rfl
  obtain ⟨r, hr⟩ : ∃ r, sliceA (cfgP fun _ => none) 37 (nilm b) (some (.v (.int .i64 0))) none none = some r := by
    cases b
    · exact ⟨_, (by kernel_rfl : sliceA (cfgP fun _ => none) 37 (.v (.slice none 0 0)) (some (.v (.int .i64 0))) none none = some (.v (.slice none 0 0)))⟩
    · exact ⟨_, (by kernel_rfl : sliceA (cfgP fun _ => none) 37 (.cl true []) (some (.v (.int .i64 0))) none none = some (.cl true []))⟩
  have nb : nbD 79 (some 25) = true := rfl
  have lx := nilm_len (prim := fun _ => none) b
  have lc : lenA (cfgP fun _ => none) #[37] [.cl true [y]] = some (.v (.int .i64 1)) := len_cl (e := 48) (by kernel_rfl)
  obtain ⟨x, hx⟩ : ∃ x, nilm b = x := ⟨_, rfl⟩
  obtain ⟨H, hH⟩ : ∃ H, nH [b0, b1] = H := ⟨_, rfl⟩
  obtain ⟨H', hH'⟩ : ∃ H', nH [b0, b1, ⟨0, 6, [y]⟩] = H' := ⟨_, rfl⟩
  rw [hH, hH', hx] at q
  rw [hx] at hr lx
  rw [hH, hH', hx]
  refine call_of_wk (call := noCall) (fn := Tryd.f79) (rs := [.tmp 6]) cokN noCall_ok (fns_cfg Tryd.func79 rfl) rfl rfl ?_
  intro env hl0 hargs
  have hn : env.length = 95 := hl0
  have h0 := hargs 0 _ rfl
  have h1 := hargs 1 _ rfl
  have h2 := hargs 2 _ rfl
  clear hargs hl0
  refine wkT_of ?_
  rw [fe_self hn]
  (try simp -dsimp (disch := omega) only [h0, h1, h2, hr, lx, lc, nb, BEq.rfl, appB_t, q, AS, avals, apairs, bareP, AV.bare, AV.bares, Nat.reduceEqDiff, Nat.reduceLT, Nat.reduceAdd, ↓reduceIte, reduceCtorEq, resA, resA1, resVal, Nat.reduceLeDiff, nb_cfg, Nat.reduceBEq, AX, Int.reduceLT, Int.reduceLE, Int.reduceEq, Int.reduceAdd, Int.reduceSub, Int.reduceMul, Int.reduceNeg, Int.reduceNe])
noncomputable def in0T := relT 79 (fun p : Bool × Blk × Blk × AV => p.2.2.2.cells.length = 6) (fun p => [nilm p.1, .v (.int .i64 0), .cl true [p.2.2.2]]) (fun p => nH [p.2.1, p.2.2.1]) (fun _ => .ex 2 0 6 0 1) (fun p => nH [p.2.1, p.2.2.1, ⟨0, 6, [p.2.2.2]⟩])
theorem in0T_ok : CallsOk (cfgP fun _ => none) in0T := relT_ok (fns_cfg Tryd.func79 rfl) rfl fun p h => ins_nil p.1 h
theorem in0T_eq {b : Bool} {b0 b1 : Blk} {y : AV} (hy : y.cells.length = 6) : in0T 79 [nilm b, .v (.int .i64 0), .cl true [y]] (nH [b0, b1]) = some (.ex 2 0 6 0 1, nH [b0, b1, ⟨0, 6, [y]⟩]) :=
  relT_eq (f0 := 79) (X := fun p : Bool × Blk × Blk × AV => p.2.2.2.cells.length = 6) (a := fun p => [nilm p.1, .v (.int .i64 0), .cl true [p.2.2.2]]) (h := fun p => nH [p.2.1, p.2.2.1]) (r := fun _ => .ex 2 0 6 0 1) (h' := fun p => nH [p.2.1, p.2.2.1, ⟨0, 6, [p.2.2.2]⟩]) (fun p q _ _ ha hh => by
    obtain ⟨b, b0, b1, y⟩ := p
    obtain ⟨c, c0, c1, z⟩ := q
    injection ha with _ ha
    injection ha with _ ha
    injection ha with a2 _
    injection a2 with _ a2
    injection a2 with a2 _
    have hh' : nH [b0, b1] = nH [c0, c1] := hh
    injection hh' with _ hb
    injection hb with e0 hb
    injection hb with e1 _
    have a3 : y = z := a2
    subst a3 e0 e1
    exact ⟨rfl, rfl⟩) (b, b0, b1, y) hy
end Go.Proofs.YtjejeijldllloaaDoor

/- Chapter 2: Set with a new key: its walk. -/
namespace Go.Proofs.YtjejeijldllloaaDoor
open Go.AM
/-- Where a member goes into what rises. -/
def insK (p : List UInt8 × GV) : List (List UInt8 × GV) → List (List UInt8 × GV)
  | [] => [p]
  | y :: r => if bl y.1 p.1 = true then y :: insK p r else if y.1 = p.1 then p :: r else p :: y :: r
theorem fms_insK : ∀ {m : List (List UInt8 × GV)} {es : List E} {p : List UInt8 × GV} {q : E}, FMs m (es.map enc) → FMp p (enc q) → FMs (insK p m) ((insR q es).map enc)
  | [], [], _, _, _, hp => ⟨_, _, rfl, hp, rfl⟩
  | [], e :: es, _, _, h, _ => by cases (show (e :: es).map enc = [] from h)
  | p :: r, [], _, _, h, _ => by obtain ⟨y, ys, e, _⟩ := h; cases e
  | p :: r, e :: es, a, q, h, hp => by
    obtain ⟨y, ys, h0, h1, h2⟩ := h
    injection h0 with h3 h4
    subst h3 h4
    have k1 := fmp_key h1
    have k2 := fmp_key hp
    rw [insK, insR, k1, k2]
    split
    · exact ⟨_, _, rfl, h1, fms_insK h2 hp⟩
    · split
      · exact ⟨_, _, rfl, hp, h2⟩
      · exact ⟨_, _, rfl, hp, _, _, rfl, h1, h2⟩
theorem insK_len (p : List UInt8 × GV) : ∀ m, (insK p m).length ≤ m.length + 1
  | [] => by simp [insK]
  | y :: r => by
    have := insK_len p r
    rw [insK]
    split
    · simp only [List.length_cons]; omega
    · split <;> simp only [List.length_cons] <;> omega
def GV.putG (key : List UInt8) (w : GV) : GV → GV
  | .mk k n s l m => if k = 5 then .mk k n s l (insK (key, w) m) else .mk k n s l m
def putR (x : AV) (es : List E) : AV := match x with
  | .agg [k, n, s, L, _] => .agg [k, n, s, L, .ro (es.map enc)]
  | y => y
/-- A key that is not there stands behind all that are less. -/
theorem insR_new {es : List E} {z : E} (hs : Str es) (hn : ∀ q ∈ es, q.1 ≠ z.1) : insR z es = insL es (low (es.map Prod.fst) z.1) z := by
  obtain ⟨h1, h2⟩ : (∀ (j : Nat) (y : E), j < low (es.map Prod.fst) z.1 → es[j]? = some y → bl y.1 z.1 = true) ∧ ∀ y, es[low (es.map Prod.fst) z.1]? = some y → bl y.1 z.1 = false := by
    clear hs hn
    induction es with
    | nil => exact ⟨fun j y _ h => (by cases h), fun y h => (by cases h)⟩
    | cons e r ih =>
      cases hb : bl e.1 z.1 with
      | false =>
        have hl : low ((e :: r).map Prod.fst) z.1 = 0 := by unfold low; rw [List.map_cons, List.takeWhile_cons_of_neg (by simp [hb])]; rfl
        rw [hl]
        exact ⟨fun j y hj => by omega, fun y hy => by injection hy with hy; rw [← hy]; exact hb⟩
      | true =>
        have hl : low ((e :: r).map Prod.fst) z.1 = low (r.map Prod.fst) z.1 + 1 := by unfold low; rw [List.map_cons, List.takeWhile_cons_of_pos (by simp [hb])]; rfl
        rw [hl]
        refine ⟨fun j y hj hy => ?_, fun y hy => ih.2 y hy⟩
        cases j with
        | zero => injection hy with hy; rw [← hy]; exact hb
        | succ j => exact ih.1 j y (by omega) hy
  have hle : low (es.map Prod.fst) z.1 ≤ es.length := by
    have := (List.takeWhile_sublist (fun x => bl x z.1) (l := es.map Prod.fst)).length_le
    rw [List.length_map] at this
    exact this
  rw [insR_at z es _ h1 hle h2, if_neg]
  · rfl
  · intro h
    obtain ⟨y, hy, he⟩ := Option.map_eq_some_iff.1 h
    exact hn y (List.mem_of_getElem? hy) he
theorem low_le (es : List E) (k : List UInt8) : low (es.map Prod.fst) k ≤ es.length := by
  have := (List.takeWhile_sublist (fun x => bl x k) (l := es.map Prod.fst)).length_le
  rw [List.length_map] at this
  exact this
structure Sn where
  v : GV
  x : AV
  es : List E
  key : List UInt8
  w : GV
  ys : List AV
structure Sn.ok (p : Sn) : Prop where
  f : FV p.v p.x
  s : p.v.sml
  r : p.v.rise
  k : p.v.kind = 5
  m : memsA p.x = p.es.map enc
  l : p.es.length < 1000000000
  w : FV p.w (.agg p.ys)
  kl : p.key.length ≤ 9223372036854775807
def Sn.args (p : Sn) : List AV := [p.x, str p.key, .agg p.ys]
def Sn.res (p : Sn) : AV := putR p.x (insR (p.key, p.ys) p.es)
theorem Sn.facts {p : Sn} (h : p.ok) : ∃ n s l m L M, p.v = .mk 5 n s l m ∧ p.x = .agg [.v (.int .i64 5), .v (.int .i64 n), str s, L, M] ∧ elems M = some (p.es.map enc) ∧ slK M ∧ FMs m (p.es.map enc) ∧ okL p.es ∧ (∀ q ∈ p.es, okT q) ∧ Str p.es ∧ p.es.map Prod.fst = m.map Prod.fst := by
  obtain ⟨v, x, es, key, w, ys⟩ := p
  obtain ⟨hf, hs, hr, hk, hm, hl, hw⟩ := h
  simp only at hf hs hr hk hm hl hw ⊢
  cases v with
  | mk k n s l m =>
    have k5 : k = 5 := hk
    subst k5
    obtain ⟨L, M, xs, zs, rfl, hL, hM, k1, k2, b1, b2, f1, f2, sl, hl', hm', hv, hwm⟩ := hf
    have hys : zs = es.map enc := by simpa [memsA, hM] using hm
    subst hys
    obtain ⟨es', hes, ho, hT⟩ := fms_encs hwm
    obtain rfl := encs_inj hes
    have hks := fms_keys hwm
    exact ⟨n, s, l, m, L, M, rfl, rfl, hM, k2, hwm, ho, fun q hq => (hT q hq).1, str_keys (by rw [hks]; exact List.pairwise_map.2 (hr rfl)), hks⟩
theorem Sn.res_fv {p : Sn} (h : p.ok) : FV (GV.putG p.key p.w p.v) p.res := by
  obtain ⟨n, s, l, m, L, M, hv, hx, hM, hk2, hwm, ho, hT, hstr, hks⟩ := Sn.facts h
  have hf := h.f
  have hfm : FMp (p.key, p.w) (enc (p.key, p.ys)) := ⟨p.ys, rfl, h.kl, h.w⟩
  have hset := fms_insK hwm hfm
  have hml : m.length = p.es.length := by rw [← hwm.len, List.length_map]
  have hl := h.l
  unfold Sn.res
  rw [hv, hx] at hf ⊢
  obtain ⟨L', M', xs, zs, e, hL, hM', k1, k2, b1, b2, f1, f2, sl, hl', hm', hvv, _⟩ := hf
  injection e with e
  injection e with _ e
  injection e with _ e
  injection e with _ e
  injection e with e1 e
  injection e with e2 _
  subst e1 e2
  exact ⟨L, _, xs, _, rfl, hL, rfl, k1, .inr ⟨rfl, rfl⟩, b1, rfl, f1, rfl, sl, hl', by have := insK_len (p.key, p.w) m; omega, hvv, hset⟩
theorem o_st2g {prim : FuncId → Option (List AV → Option AV)} {b0 b1 : Blk} {es : List E} {i g : Nat} {key : List UInt8} {cs ys : List AV} (hi : es[i]? = some (key, cs)) (hc5 : cs.length = 5) (hy5 : ys.length = 5) (hf : ys.all AV.flat = true) : storeA (cfgP prim) 39 2 g i 1 (.agg ys) (nH [b0, b1, ⟨g, 6, es.map enc⟩]) = some (nH [b0, b1, ⟨g, 6, (es.set i (key, ys)).map enc⟩]) := by
  have hc : (cfgP prim).csz 39 = some 5 := by kernel_rfl
  have hb : blkAt (nH [b0, b1, ⟨g, 6, es.map enc⟩]) 2 g = some ⟨g, 6, es.map enc⟩ := by simp [blkAt, nH]
  have hg := HB_get hi
  have hs : setCells (enc (key, cs)) 1 (AV.agg ys).cells = some (enc (key, ys)) := by
    show (if 1 + ys.length ≤ (str key :: cs).length then some (AV.agg ((str key :: cs).take 1 ++ ys ++ (str key :: cs).drop (1 + ys.length))) else none) = _
    rw [if_pos (by rw [List.length_cons]; omega), List.drop_of_length_le (by rw [List.length_cons]; omega)]
    simp [enc]
  have hcd : some (AV.agg ys).cells.length = (cfgP prim).csz 39 ∧ (AV.agg ys).cells.all AV.flat = true := ⟨by rw [hc]; exact congrArg some hy5, hf⟩
  simp only [storeA, hb, hg]
  rw [if_pos hcd, hs]
  simp only [Option.map_some, nH, List.map_set]
  rfl
theorem mixg {prim : FuncId → Option (List AV → Option AV)} {b g i len : Nat} {k : IntKind} (h : i < len) : indexAddrA (cfgP prim) 37 (.ex b g 6 0 len) (.v (.int k (i : Int))) = some (.ptr b g i 0) := by
  have h0 : (0 : Int) ≤ i := by omega
  have hu : (cfgP prim).und 37 = some (.slice 48) := by kernel_rfl
  have hc : (cfgP prim).csz 48 = some 6 := by kernel_rfl
  simp only [indexAddrA, idx, h0, if_true, hu, hc, Int.toNat_natCast, h, and_self, Nat.zero_add]
theorem putR_thaw {k n s L M : AV} {es : List E} {H : Hp} {b g : Nat} (hb : blkAt H b g = some ⟨g, 6, es.map enc⟩) (hT : ∀ q ∈ es, okT q) (h1 : ∀ j, AV.thaw H (j + 1) k = some k) (h2 : ∀ j, AV.thaw H (j + 1) n = some n) (h3 : ∀ j, AV.thaw H (j + 1) s = some s) (h4 : ∀ j, AV.thaw H (j + 1) L = some L) :
    ∃ N, AV.thaw H N (.agg [k, n, s, L, .ex b g 6 0 es.length]) = some (putR (.agg [k, n, s, L, M]) es) := by
  have ht := thaws_enc (H := H) (n := 0) hT
  obtain ⟨N, hN⟩ : ∃ N, es.length + 0 + 10 = N := ⟨_, rfl⟩
  rw [hN] at ht
  have h5 : AV.thaw H (N + 1) (.ex b g 6 0 es.length) = some (.ro (es.map enc)) := by
    have h2 : 0 + es.length ≤ (es.map enc).length ∧ True := ⟨by simp, trivial⟩
    rw [AV.thaw]
    simp only [hb]
    rw [if_pos h2, List.drop_zero, List.take_of_length_le (by simp), ht]
    rfl
  refine ⟨N + 7, ?_⟩
  show (AV.thaws H (N + 6) [k, n, s, L, .ex b g 6 0 es.length]).map AV.agg = _
  rw [AV.thaws, h1, AV.thaws, h2, AV.thaws, h3, AV.thaws, h4, AV.thaws, h5, AV.thaws]
  simp only [putR, Option.map_some]
set_option maxHeartbeats 8000000 in
set_option maxRecDepth 100000 in
theorem setN_ok (p : Sn) (hp : p.ok) (hnf : idxG p.v p.key = none) : PureOk (cfgP se1) 40 p.args p.res := by
  obtain ⟨n, s, l, m, L, M, hv, hx, hM, hk2, hwm, ho, hT, hstr, hks⟩ := Sn.facts hp
  have qp := plQ_eq (p := ⟨p.v, p.x, p.key⟩) ⟨hp.f, hp.s, hp.r⟩
  have hf := hp.f
  have hr := hp.r
  have hl := hp.l
  have hw := hp.w
  have hres : p.res = putR p.x (insR (p.key, p.ys) p.es) := rfl
  obtain ⟨v, x, es, key, w, ys⟩ := p
  simp only at hv hx hM hwm hstr hks ho hT hf hr hl hw hnf hres qp
  subst hv hx
  have hb := hf.bare
  have hfl0 := hf.fl
  have hfv := hf
  obtain ⟨L', M', xs, zs, e, hL, hM', k1, k2, b1, b2, f1, f2, sl, hl', hm', hvv, hww⟩ := hf
  injection e with e
  injection e with _ e
  injection e with _ e
  injection e with _ e
  injection e with e1 e
  injection e with e2 _
  subst e1 e2
  obtain ⟨lo, hlo⟩ : ∃ lo, low (es.map Prod.fst) key = lo := ⟨_, rfl⟩
  have hloL : lo ≤ es.length := by rw [← hlo]; exact low_le es key
  have hpl : plQ [.agg [.v (.int .i64 5), .v (.int .i64 n), str s, L, M], str key] = some (.tup [.v (.int .i64 (lo : Int)), .v (.bool false)]) := by
    refine qp.trans (congrArg some ((if_pos rfl).trans ?_))
    rcases place_idx (k := 5) (n := n) (s := s) (l := l) rfl (hr rfl) key with ⟨h1, h2⟩ | ⟨h1, h2⟩
    · rw [hnf] at h2
      cases h2
    · show AV.tup [.v (.int .i64 (low (m.map Prod.fst) key : Int)), .v (.bool (hasK (m.map Prod.fst) key))] = _
      rw [h1, ← hks, hlo]
  have hnew : ∀ q ∈ es, q.1 ≠ key := by
    intro q hq he
    rcases idxG_none hnf with h | h
    · exact h rfl
    · have hq2 : q.1 ∈ m.map Prod.fst := by rw [← hks]; exact List.mem_map_of_mem hq
      obtain ⟨pm, hpm, hpe⟩ := List.mem_map.1 hq2
      obtain ⟨j, hj⟩ := List.mem_iff_getElem?.1 hpm
      exact h j pm hj (hpe.trans he)
  have hins : insR (key, ys) es = insL es lo (key, ys) := by rw [insR_new (z := (key, ys)) hstr hnew, hlo]
  rw [hins] at hres
  have hz : okE (key, zE.2) := ⟨zE_ok.1, zE_ok.2.1, zE_ok.2.2⟩
  have hget : (insL es lo (key, zE.2))[lo]? = some (key, zE.2) := by
    unfold insL
    rw [List.getElem?_append_right (by simp; omega)]
    simp [List.length_take, Nat.min_eq_left hloL]
  have hset : (insL es lo (key, zE.2)).set lo (key, ys) = insL es lo (key, ys) := by
    unfold insL
    have : lo = (es.take lo).length := by simp [List.length_take, Nat.min_eq_left hloL]
    conv => lhs; arg 2; rw [this]
    rw [List.set_append_right _ _ (Nat.le_refl _)]
    simp
  have hy5 := hw.l5
  have hyf := hw.fl
  have hyb := hw.bare
  have r3 : (cfgP se1).roBox 40 3 = false := rfl
  have r5 : (cfgP se1).roBox 40 5 = true := rfl
  have r6 : (cfgP se1).roBox 40 6 = false := rfl
  have hbs := hfv.bs
  obtain ⟨cs, hcs⟩ : ∃ cs : List AV, cs = [.v (.int .i64 5), .v (.int .i64 n), str s, L, M] := ⟨_, rfl⟩
  have l5 : cs.length = 5 := by rw [hcs]; rfl
  have g0 : cs[0]? = some (.v (.int .i64 5)) := by rw [hcs]; rfl
  have g4 : cs[4]? = some M := by rw [hcs]; rfl
  have hfl : cs.all AV.flat = true := by rw [hcs]; exact hfl0
  obtain ⟨n1, hn1⟩ : ∃ n1, es.length + 1 = n1 := ⟨_, rfl⟩
  obtain ⟨T, hTok, M1, ext, g, m1c, m1f, c1, c2⟩ : ∃ T : FuncId → List AV → Hp → Option (AV × Hp), CallsOk (cfgP se1) T ∧ ∃ (M1 : AV) (ext : List Blk) (g : Nat), M1.cells = [M1] ∧ M1.flat = true ∧
      T 72 [M] (nH [⟨0, 5, [.agg cs]⟩, ⟨0, 5, [z5]⟩]) = some (M1, nH (⟨0, 5, [.agg cs]⟩ :: ⟨0, 5, [z5]⟩ :: ext)) ∧
      T 79 [M1, .v (.int .i64 (lo : Int)), .cl true [enc (key, zE.2)]] (nH (⟨0, 5, [.agg [.v (.int .i64 5), .v (.int .i64 n), str s, L, M1]]⟩ :: ⟨0, 5, [z5]⟩ :: ext)) = some (.ex 2 g 6 0 n1, nH [⟨0, 5, [.agg [.v (.int .i64 5), .v (.int .i64 n), str s, L, M1]]⟩, ⟨0, 5, [z5]⟩, ⟨g, 6, (insL es lo (key, zE.2)).map enc⟩]) := by
    by_cases he : es = []
    · subst he
      have lo0 : lo = 0 := by simpa using hloL
      subst lo0
      refine ⟨orT c0T in0T, orT_ok (calls_prim c0T_ok) (calls_prim in0T_ok), nilm (someSl M), [], 0, ?_, ?_, orT_l (c0T_eq hM k2), ?_⟩
      · cases someSl M <;> rfl
      · cases someSl M <;> rfl
      · rw [← hn1]
        exact orT_r (relT_none (by decide)) (in0T_eq (by rw [enc_cells, List.length_cons, hz.1]))
    · obtain ⟨e0, es0, hes⟩ : ∃ e0 es0, es = e0 :: es0 := by
        cases es with
        | nil => exact absurd rfl he
        | cons a b => exact ⟨a, b, rfl⟩
      refine ⟨orT clT inT, orT_ok (calls_prim clT_ok) (calls_prim inT_ok), .ex 2 0 6 0 es.length, [⟨0, 6, es.map enc⟩], insG 0, rfl, rfl, orT_l ?_, orT_r (relT_none (by decide)) ?_⟩
      · have := clT_eq ⟨nH [⟨0, 5, [.agg cs]⟩, ⟨0, 5, [z5]⟩], M, e0, es0⟩ ⟨by rw [hM, hes], by rw [← hes]; exact ho, by show (e0 :: es0).length < _; rw [← hes]; omega⟩
        simp only [← hes] at this
        exact this
      · rw [← hn1]
        refine inT_eq ⟨[.v (.int .i64 5), .v (.int .i64 n), str s, L, .ex 2 0 6 0 es.length], z5l, es, lo, (key, zE.2)⟩ ⟨?_, ?_, ho, hz, hloL, by show es.length < _; omega⟩
        · intro c hc
          simp only [List.mem_cons, List.not_mem_nil, or_false] at hc
          rcases hc with rfl | rfl | rfl | rfl | rfl
          · exact .inl rfl
          · exact .inl rfl
          · exact .inl (bare_s ..)
          · exact .inl b1
          · exact .inr ⟨2, 0, es.length, by omega, rfl⟩
        · intro c hc
          simp only [z5l, List.mem_cons, List.not_mem_nil, or_false] at hc
          rcases hc with rfl | rfl | rfl | rfl | rfl <;> exact .inl rfl
  obtain ⟨cs1, hcs1⟩ : ∃ cs1 : List AV, cs1 = [.v (.int .i64 5), .v (.int .i64 n), str s, L, M1] := ⟨_, rfl⟩
  rw [← hcs1] at c2
  have s1 := o_st (prim := se1) (t := 37) (j := 4) (x := M1) (cs := cs) (cs' := cs1) (⟨0, 5, [z5]⟩ :: ext) (by kernel_rfl) m1c m1f (by omega) (by rw [hcs, hcs1]; rfl)
  have l51 : cs1.length = 5 := by rw [hcs1]; rfl
  have g41 : cs1[4]? = some M1 := by rw [hcs1]; rfl
  obtain ⟨cs', hcs'⟩ : ∃ cs' : List AV, cs' = [.v (.int .i64 5), .v (.int .i64 n), str s, L, .ex 2 g 6 0 n1] := ⟨_, rfl⟩
  have s1' := o_st (prim := se1) (t := 37) (j := 4) (x := .ex 2 g 6 0 n1) (cs := cs1) (cs' := cs') [⟨0, 5, [z5]⟩, ⟨g, 6, (insL es lo (key, zE.2)).map enc⟩] (by kernel_rfl) rfl rfl (by omega) (by rw [hcs1, hcs']; rfl)
  have l5' : cs'.length = 5 := by rw [hcs']; rfl
  have g4' : cs'[4]? = some (.ex 2 g 6 0 n1) := by rw [hcs']; rfl
  have hfl' : cs'.all AV.flat = true := by
    rw [hcs']
    simp only [List.all_cons, List.all_nil, f1]
    rfl
  have s2 := o_st2g (prim := se1) (g := g) (b0 := ⟨0, 5, [.agg cs']⟩) (b1 := ⟨0, 5, [z5]⟩) hget zE_ok.1 hy5 hyf
  rw [hset] at s2
  have s3 := o_st1 (prim := se1) (b0 := ⟨0, 5, [.agg cs']⟩) [⟨g, 6, (insL es lo (key, ys)).map enc⟩] l5' hfl'
  have mi := mixg (prim := se1) (b := 2) (g := g) (i := lo) (len := n1) (k := .i64) (by omega)
  have hTn : ∀ q ∈ insL es lo (key, ys), okT q := fun q hq => by
    unfold insL at hq
    rcases List.mem_append.1 hq with h | h
    · exact hT q (List.mem_of_mem_take h)
    · rcases List.mem_cons.1 h with rfl | h
      · exact okT_of hw
      · exact hT q (List.mem_of_mem_drop h)
  have hth : ∃ N, AV.thaw (nH [⟨0, 5, [.agg cs']⟩, ⟨0, 5, [.agg cs']⟩, ⟨g, 6, (insL es lo (key, ys)).map enc⟩]) N (.agg cs') = some (putR (.agg [.v (.int .i64 5), .v (.int .i64 n), str s, L, M]) (insL es lo (key, ys))) := by
    obtain ⟨H, hH⟩ : ∃ H, nH [⟨0, 5, [.agg cs']⟩, ⟨0, 5, [.agg cs']⟩, ⟨g, 6, (insL es lo (key, ys)).map enc⟩] = H := ⟨_, rfl⟩
    have hbk : blkAt H 2 g = some ⟨g, 6, (insL es lo (key, ys)).map enc⟩ := by rw [← hH]; simp [blkAt, nH]
    have e1 : ∀ (x : Value) (j : Nat), AV.thaw H (j + 1) (.v x) = some (.v x) := fun _ _ => rfl
    have e2 : ∀ (x : List UInt8) (j : Nat), AV.thaw H (j + 1) (str x) = some (str x) := fun _ _ => rfl
    have hn2 : n1 = (insL es lo (key, ys)).length := by rw [insL_len, hn1]
    rw [hH, hcs', hn2]
    exact putR_thaw hbk hTn (fun j => e1 _ j) (fun j => e1 _ j) (fun j => e2 _ j) (fun j => thaw_sl k1 b1 H j)
  obtain ⟨N, hth⟩ := hth
  rw [hres]
  show PureOk (cfgP se1) 40 [.agg [.v (.int .i64 5), .v (.int .i64 n), str s, L, M], str key, .agg ys] (putR (.agg [.v (.int .i64 5), .v (.int .i64 n), str s, L, M]) (insL es lo (key, ys)))
  obtain ⟨R, hR⟩ : ∃ R, putR (.agg [.v (.int .i64 5), .v (.int .i64 n), str s, L, M]) (insL es lo (key, ys)) = R := ⟨_, rfl⟩
  rw [hR] at hth ⊢
  rw [← hcs] at hpl hbs hb ⊢
  have bk := build_key (prim := se1) (k := key)
  have bs1 := bsM (prim := se1) hz
  have hbe := enc_bare hz
  obtain ⟨EN, hEN⟩ : ∃ EN, enc (key, zE.2) = EN := ⟨_, rfl⟩
  rw [hEN] at bk bs1 c2 hbe
  obtain ⟨B1, hB1⟩ : ∃ B1, (insL es lo (key, zE.2)).map enc = B1 := ⟨_, rfl⟩
  rw [hB1] at c2 s1' s2
  clear hcs hcs' hcs1 hres hR hTn hfv hget hset hins
  refine pure_of_wk (call := T) (fn := Tryd.f40) (rs := [.cell 6 39]) se1_ok hTok (fns_cfg Tryd.func40 rfl) rfl rfl ?_
  intro env hl0 hargs
  have hn : env.length = 40 := hl0
  have h0 := hargs 0 _ rfl
  have h1 := hargs 1 _ rfl
  have h2 := hargs 2 _ rfl
  clear hargs hl0
  refine wkT_of ?_
  rw [fe_self hn]
  (try simp -dsimp (disch := omega) only [h0, h1, h2, r3, r5, r6, g39, bx_o l5 hfl, bxt_ro hyb hyf, o_al1, gfp0, gp4, vp3, vp37, o_blk, o_blk1, List.getElem?_cons_zero, cellsA, g0, g4, g4', g41, vp39 l5, vp39 l5', vp39 l51, vp39 hy5, ct_prim se1_78, hbs, bare_s, hpl, ct_own (C := cfgP se1) (f := 72) rfl rfl, ct_own (C := cfgP se1) (f := 79) rfl rfl, c1, c2, s1, s1', bk, hbe, bs1, mi, mf1p, s2, s3, Bool.not_true, Bool.not_false, AS, avals, apairs, bareP, AV.bare, AV.bares, Nat.reduceEqDiff, Nat.reduceLT, Nat.reduceAdd, ↓reduceIte, reduceCtorEq, resA, resA1, resVal, Nat.reduceLeDiff, nb_cfg, Nat.reduceBEq, AX, Int.reduceLT, Int.reduceLE, Int.reduceEq, Int.reduceAdd, Int.reduceSub, Int.reduceMul, Int.reduceNeg, Int.reduceNe])
  exact ⟨N, hth⟩
end Go.Proofs.YtjejeijldllloaaDoor

/- Chapter 2: IntAt, the program's and the document's. -/
namespace Go.Proofs.YtjejeijldllloaaDoor
open Go.AM
end Go.Proofs.YtjejeijldllloaaDoor

/- Chapter 2: Set, the program's and the document's, of whatever value. -/
namespace Go.Proofs.YtjejeijldllloaaDoor
open Go.AM
structure Sn.okA (p : Sn) : Prop where
  f : FV p.v p.x
  s : p.v.sml
  r : p.v.rise
  m : memsA p.x = p.es.map enc
  l : p.es.length < 1000000000
  w : FV p.w (.agg p.ys)
  kl : p.key.length ≤ 9223372036854775807
theorem Sn.okA.ok {p : Sn} (h : p.okA) (hk : p.v.kind = 5) : p.ok := ⟨h.f, h.s, h.r, hk, h.m, h.l, h.w, h.kl⟩
def Sn.resA (p : Sn) : AV := if p.v.kind = 5 then p.res else p.x
/-- A key that is there: the same as in its place. -/
theorem Sn.found {p : Sn} (h : p.ok) {i : Nat} (hi : idxG p.v p.key = some i) : St.ok ⟨p.v, p.x, p.es, i, p.key, p.w, p.ys⟩ ∧ p.res = St.res ⟨p.v, p.x, p.es, i, p.key, p.w, p.ys⟩ := by
  have hst : St.ok ⟨p.v, p.x, p.es, i, p.key, p.w, p.ys⟩ := ⟨h.f, h.s, h.r, h.m, hi, by have := h.l; show p.es.length < _; omega, h.w⟩
  refine ⟨hst, ?_⟩
  obtain ⟨n, s, l, m, L, M, hv, hx, hM, hwm, hsome, hil, ⟨c0, hcs0⟩, ho, hT⟩ := St.facts hst
  obtain ⟨_, _, _, _, _, _, _, _, _, _, _, _, _, hstr, _⟩ := Sn.facts h
  simp only at hx hcs0 hil
  have hins : insR (p.key, p.ys) p.es = p.es.set i (p.key, p.ys) := by
    rw [insR_at (p.key, p.ys) p.es i (fun j y hj hy => by have := str_get hstr hy hcs0 hj; exact this) (by omega) (fun y hy => by rw [hcs0] at hy; injection hy with hy; rw [← hy]; exact bl_irrefl _), if_pos (by rw [hcs0]; rfl)]
  unfold Sn.res St.res
  rw [hins]
  simp only [hx, putR, keepR, hsome, if_true, St.new]
set_option maxHeartbeats 4000000 in
set_option maxRecDepth 100000 in
theorem setX_ok (p : Sn) (hp : p.okA) (hk : p.v.kind ≠ 5) : PureOk (cfgP se1) 40 p.args p.x := by
  obtain ⟨v, x, es, key, w, ys⟩ := p
  have hf := hp.f
  have hw := hp.w
  simp only at hf hw hk
  have hfv := hf
  have hy5 := hw.l5
  have hyf := hw.fl
  have hyb := hw.bare
  have r3 : (cfgP se1).roBox 40 3 = false := rfl
  have r5 : (cfgP se1).roBox 40 5 = true := rfl
  have r6 : (cfgP se1).roBox 40 6 = false := rfl
  cases v with
  | mk k n s l m =>
    obtain ⟨cs, rfl, l5, hbs, hfl⟩ := hf.shape
    have g0 : cs[0]? = some (.v (.int .i64 k)) := by
      obtain ⟨L, M, xs, ys, e, _⟩ := hf
      injection e with e
      rw [e]; rfl
    have dk : decide (k = 5) = false := decide_eq_false hk
    have st := o_st1 (prim := se1) (b0 := ⟨0, 5, [.agg cs]⟩) [] l5 hfl
    have hth := thaw_val hfv (nH [⟨0, 5, [.agg cs]⟩, ⟨0, 5, [.agg cs]⟩]) 12
    show PureOk (cfgP se1) 40 [.agg cs, str key, .agg ys] (.agg cs)
    refine pure_of_wk (call := noCall) (fn := Tryd.f40) (rs := [.cell 6 39]) se1_ok noCall_ok (fns_cfg Tryd.func40 rfl) rfl rfl ?_
    intro env hl0 hargs
    have hn : env.length = 40 := hl0
    have h0 := hargs 0 _ rfl
    have h1 := hargs 1 _ rfl
    have h2 := hargs 2 _ rfl
    clear hargs hl0
    refine wkT_of ?_
    rw [fe_self hn]
    (try simp -dsimp (disch := omega) only [h0, h1, h2, r3, r5, r6, g39, bx_o l5 hfl, bxt_ro hyb hyf, o_al1, gfp0, vp3, o_blk, o_blk1, List.getElem?_cons_zero, cellsA, g0, dk, vp39 l5, st, Bool.not_false, AS, avals, apairs, bareP, AV.bare, AV.bares, Nat.reduceEqDiff, Nat.reduceLT, Nat.reduceAdd, ↓reduceIte, reduceCtorEq, resA, resA1, resVal, Nat.reduceLeDiff, nb_cfg, Nat.reduceBEq, AX, Int.reduceLT, Int.reduceLE, Int.reduceEq, Int.reduceAdd, Int.reduceSub, Int.reduceMul, Int.reduceNeg, Int.reduceNe])
    exact ⟨20, hth⟩
theorem setA_ok (p : Sn) (hp : p.okA) : PureOk (cfgP se1) 40 p.args p.resA := by
  unfold Sn.resA
  by_cases hk : p.v.kind = 5
  · rw [if_pos hk]
    cases hi : idxG p.v p.key with
    | none => exact setN_ok p (hp.ok hk) hi
    | some i =>
      obtain ⟨h1, h2⟩ := Sn.found (hp.ok hk) hi
      rw [h2]
      exact set_ok _ h1
  · rw [if_neg hk]
    exact setX_ok p hp hk
theorem Sn.inj {p q : Sn} (hp : p.okA) (hq : q.okA) (e : p.args = q.args) : p.v = q.v ∧ p.x = q.x ∧ p.es = q.es ∧ p.key = q.key ∧ p.ys = q.ys := by
  injection e with e1 e
  injection e with e2 e
  injection e with e3 _
  injection e3 with e3
  have h1 := hp.f.rv
  rw [e1] at h1
  have hm := hp.m
  rw [e1, hq.m] at hm
  exact ⟨RV.uniq h1 hq.f.rv, e1, (encs_inj hm).symm, str_inj e2, e3⟩
/-! ### The document's -/
theorem app_cl0 {prim : FuncId → Option (List AV → Option AV)} {x : AV} {H : Hp} {f : Bool} (h : elems x = some []) (hk : slK x) : appA (cfgP prim) #[37, 37] [.cl f [], x] H = some (.cl f [], H) := by
  have h0 : ((#[37, 37] : Array TypeId)[0]?).bind (elemT (cfgP prim)) = some 48 := by kernel_rfl
  have h1 : ((#[37, 37] : Array TypeId)[1]?).bind (cfgP prim).und = some (.slice 48) := by kernel_rfl
  have hz : zeroA (cfgP prim) 48 = some z6 := by kernel_rfl
  have hzl : z6.cells.length = 6 := rfl
  have hc : (cfgP prim).csz 48 = some 6 := by kernel_rfl
  simp only [appA, h0, h1, hz, hc, hzl, if_true, appendA, src_sl h hk]
def Sn.resB (p : Sn) : AV := if p.v.kind = 5 then mapV (insR (p.key, p.ys) p.es) else p.x
theorem mapL_of_str {es : List E} (h : Str es) : mapL es = es := (mapL_uniq h fun _ => rfl).symm
theorem mapL_snoc {es : List E} {z : E} (h : Str es) : mapL (es ++ [z]) = insR z es := by
  rw [← refL_eq, refL_snoc, refL_eq, mapL_of_str h]
set_option maxHeartbeats 8000000 in
set_option maxRecDepth 100000 in
theorem setRefA_ok (p : Sn) (hp : p.okA) : PureOk (cfgP sr1) 48 p.args p.resB := by
  have hf := hp.f
  have hw := hp.w
  have hl := hp.l
  have hkl := hp.kl
  have hy5 := hw.l5
  have hyf := hw.fl
  have hyb := hw.bare
  have hfv := hf
  have hb := hfv.bare
  have r3 : (cfgP sr1).roBox 48 3 = true := rfl
  have r5 : (cfgP sr1).roBox 48 5 = true := rfl
  have r6 : (cfgP sr1).roBox 48 6 = false := rfl
  by_cases hk : p.v.kind = 5
  case neg =>
    have hres : p.resB = p.x := if_neg hk
    rw [hres]
    obtain ⟨v, x, es, key, w, ys⟩ := p
    simp only at hf hw hl hkl hfv hb hk hy5 hyf hyb
    cases v with
    | mk k n s l m =>
      obtain ⟨cs, rfl, l5, hbs, hfl⟩ := hf.shape
      have g0 : cs[0]? = some (.v (.int .i64 k)) := by
        obtain ⟨L, M, xs, ys, e, _⟩ := hf
        injection e with e
        rw [e]; rfl
      have dk : decide (k = 5) = false := decide_eq_false hk
      have st := v_st (prim := sr1) l5 hfl
      show PureOk (cfgP sr1) 48 [.agg cs, str key, .agg ys] (.agg cs)
      refine pure_of_wk (call := noCall) (fn := Tryd.f48) (rs := [.cell 6 39]) sr1_ok noCall_ok (fns_cfg Tryd.func48 rfl) rfl rfl ?_
      intro env hl0 hargs
      have hn : env.length = 21 := hl0
      have h0 := hargs 0 _ rfl
      have h1 := hargs 1 _ rfl
      have h2 := hargs 2 _ rfl
      clear hargs hl0
      refine wkT_of ?_
      rw [fe_self hn]
      (try simp -dsimp (disch := omega) only [h0, h1, h2, r3, r5, r6, bxt_ro hb hfl, bxt_ro hyb hyf, v_al, gf0, vp3, cellsA, g0, dk, Bool.not_false, vp39 l5, st, mHv_blk, List.getElem?_cons_zero, AS, avals, apairs, bareP, AV.bare, AV.bares, Nat.reduceEqDiff, Nat.reduceLT, Nat.reduceAdd, ↓reduceIte, reduceCtorEq, resA, resA1, resVal, Nat.reduceLeDiff, nb_cfg, Nat.reduceBEq, AX, Int.reduceLT, Int.reduceLE, Int.reduceEq, Int.reduceAdd, Int.reduceSub, Int.reduceMul, Int.reduceNeg, Int.reduceNe])
      exact ⟨20, thaw_val hfv _ 12⟩
  obtain ⟨n, s, l, m, L, M, hv, hx, hM, k2, hwm, ho, hT, hstr, hks⟩ := Sn.facts (hp.ok hk)
  have hres : p.resB = mapV (mapL (p.es ++ [(p.key, p.ys)])) := by
    unfold Sn.resB
    rw [if_pos hk, mapL_snoc hstr]
  rw [hres]
  obtain ⟨v, x, es, key, w, ys⟩ := p
  simp only at hf hw hl hkl hfv hb hk hy5 hyf hyb hM hwm ho hT hstr hks hv hx ⊢
  subst hv hx
  have hoe : okE (key, ys) := hw.okE
  have hT2 : ∀ q ∈ es, ∃ p, FMp p (enc q) := fun q hq => by
    obtain ⟨es', hes, _, hT'⟩ := fms_encs hwm
    obtain rfl := encs_inj hes
    exact (hT' q hq).2
  have hmi : MapI (es ++ [(key, ys)]) (.ro ((es ++ [(key, ys)]).map enc)) := ⟨rfl, .inr ⟨rfl, rfl⟩, okL_append.2 ⟨ho, fun q hq => by rw [List.mem_singleton] at hq; rw [hq]; exact hoe⟩, fun q hq => by
    rcases List.mem_append.1 hq with h | h
    · exact hT q h
    · rw [List.mem_singleton] at h; rw [h]; exact okT_of hw, by rw [List.length_append]; simp; omega⟩
  have qm := mapT_eq hmi
  have hmlr : ∃ ms, mapV (mapL (es ++ [(key, ys)])) = .agg ms ∧ ms.length = 5 ∧ ms.all AV.flat = true ∧ (∀ H n, AV.thaw H (n + 8) (.agg ms) = some (.agg ms)) := by
    obtain ⟨m2, hm2, hf2⟩ := mapV_fv (ys := mapL (es ++ [(key, ys)])) (fun q hq => by
      rcases List.mem_append.1 (mapL_mem hq) with h | h
      · exact hT2 q h
      · rw [List.mem_singleton] at h
        rw [h]
        exact ⟨(key, w), ys, rfl, hkl, hw⟩) (by have := mapL_len (es ++ [(key, ys)]); rw [List.length_append] at this; simp at this; omega)
    exact ⟨_, rfl, hf2.l5, hf2.fl, fun H n => thaw_val hf2 H n⟩
  obtain ⟨ms, hms, hm5, hmf, hmt⟩ := hmlr
  have c1 : (enc (key, ys)).cells.length = 6 := by rw [enc_cells, List.length_cons, hoe.1]
  obtain ⟨A1, tk1, tk2, a1, a2⟩ : ∃ A1 tk1 tk2, appA (cfgP sr1) #[37, 37] [.cl true [], M] (mHv z5 [] []) = some (A1, mHv z5 tk1 []) ∧ appA (cfgP sr1) #[37, 37] [A1, .cl true [enc (key, ys)]] (mHv z5 tk1 []) = some (.ap 0 ((es ++ [(key, ys)]).map enc), mHv z5 tk2 []) := by
    by_cases he : es = []
    · subst he
      refine ⟨.cl true [], [], [(1, 48)], app_cl0 hM k2, ?_⟩
      have := app_cl (prim := sr1) (f := true) (H := mHv z5 [] []) (x := .cl true [enc (key, ys)]) (y := enc (key, ys)) (ys := []) rfl (.inr ⟨rfl, rfl⟩) c1 (by simp)
      rw [this]
      rfl
    · obtain ⟨e0, es0, hes0⟩ : ∃ e0 es0, es = e0 :: es0 := by
        cases es with
        | nil => exact absurd rfl he
        | cons a b => exact ⟨a, b, rfl⟩
      have c0 : (enc e0).cells.length = 6 := by rw [enc_cells, List.length_cons, (ho e0 (by rw [hes0]; simp)).1]
      have hM1 : elems M = some (enc e0 :: es0.map enc) := by rw [hM, hes0]; rfl
      have ll : (enc e0 :: es0.map enc).length = es.length := by rw [hes0]; simp
      have a1 := app_cl (prim := sr1) (f := true) (H := mHv z5 [] []) hM1 k2 c0 (by omega)
      have a2 := app_ap (prim := sr1) (x := .cl true [enc (key, ys)]) (y := enc (key, ys)) (ys := []) (t := 0) (H := mHv z5 [((enc e0 :: es0.map enc).length, 48)] []) (z := enc e0) (zs := es0.map enc) rfl (.inr ⟨rfl, rfl⟩) c1 c0 rfl (by rw [ll]; simp; omega)
      refine ⟨.ap 0 (enc e0 :: es0.map enc), [((enc e0 :: es0.map enc).length, 48)], [((enc e0 :: es0.map enc).length + [enc (key, ys)].length, 48)], a1, ?_⟩
      rw [a2, hes0]
      simp [mHv]
  have st : storeA (cfgP sr1) 39 0 0 0 0 (.agg ms) (mHv z5 tk2 []) = some (mHv (.agg ms) tk2 []) := by
    have hc : (cfgP sr1).csz 39 = some 5 := by kernel_rfl
    exact store_all (C := cfgP sr1) (t := 39) (b := 0) (n := 5) (x := ms) (y := z5l) (H := mHv z5 tk2 []) rfl (by rw [hc, hm5]) (by simp [hm5, z5l]) hmf
  have bme := build_mem (prim := sr1) (k := key) hy5 hyf
  have bs0 : buildSliceA (cfgP sr1) 37 0 [] = some (.cl true []) := by kernel_rfl
  have bs1 := bsM (prim := sr1) hoe
  have hbe := enc_bare hoe
  obtain ⟨EN, hEN⟩ : ∃ EN, enc (key, ys) = EN := ⟨_, rfl⟩
  rw [hEN] at a2 bme bs1 hbe
  obtain ⟨AL, hAL⟩ : ∃ AL, (es ++ [(key, ys)]).map enc = AL := ⟨_, rfl⟩
  rw [hAL] at a2 qm
  have bap : (AV.ap 0 AL).bare = some (.ro AL) := rfl
  rw [hms] at qm
  have hfl := hfv.fl
  obtain ⟨cs, hcs⟩ : ∃ cs : List AV, cs = [.v (.int .i64 5), .v (.int .i64 n), str s, L, M] := ⟨_, rfl⟩
  have g0 : cs[0]? = some (.v (.int .i64 5)) := by rw [hcs]; rfl
  have g4 : cs[4]? = some M := by rw [hcs]; rfl
  show PureOk (cfgP sr1) 48 [.agg [.v (.int .i64 5), .v (.int .i64 n), str s, L, M], str key, .agg ys] (mapV (mapL (es ++ [(key, ys)])))
  have b2 : M.bare = some M := by
    obtain ⟨L', M', xs, zs, e, hL, hM', k1, k2, b1, b2, _⟩ := hfv
    injection e with e
    injection e with _ e
    injection e with _ e
    injection e with _ e
    injection e with e1 e
    injection e with e2 _
    rw [e2]
    exact b2
  rw [hms]
  rw [← hcs] at hb hfl ⊢
  clear hcs hfv
  refine pure_of_wk (call := noCall) (fn := Tryd.f48) (rs := [.cell 6 39]) sr1_ok noCall_ok (fns_cfg Tryd.func48 rfl) rfl rfl ?_
  intro env hl0 hargs
  have hn : env.length = 21 := hl0
  have h0 := hargs 0 _ rfl
  have h1 := hargs 1 _ rfl
  have h2 := hargs 2 _ rfl
  clear hargs hl0
  refine wkT_of ?_
  rw [fe_self hn]
  (try simp -dsimp (disch := omega) only [h0, h1, h2, r3, r5, r6, bxt_ro hb hfl, bxt_ro hyb hyf, v_al, gf0, gf4, vp3, vp37, cellsA, g0, g4, vp39 hy5, bareP, bare_s, hyb, bs0, a1, bme, hbe, bs1, a2, ct_prim sr1_36, bap, qm, st, mHv_blk, List.getElem?_cons_zero, vp39 hm5, Bool.not_true, AS, avals, apairs, bareP, AV.bare, AV.bares, Nat.reduceEqDiff, Nat.reduceLT, Nat.reduceAdd, ↓reduceIte, reduceCtorEq, resA, resA1, resVal, Nat.reduceLeDiff, nb_cfg, Nat.reduceBEq, AX, Int.reduceLT, Int.reduceLE, Int.reduceEq, Int.reduceAdd, Int.reduceSub, Int.reduceMul, Int.reduceNeg, Int.reduceNe])
  refine ⟨by kernel_rfl, ?_⟩
  exact ⟨20, hmt _ 12⟩
end Go.Proofs.YtjejeijldllloaaDoor

/- Chapter 2: plain facts of Set: what is light is not deep; what was put. -/
namespace Go.Proofs.YtjejeijldllloaaDoor
open Go.AM
/-! ### What was put -/
theorem insK_mem {p q : List UInt8 × GV} : ∀ {m : List (List UInt8 × GV)}, q ∈ insK p m → q = p ∨ q ∈ m
  | [], h => by simpa [insK] using h
  | y :: r, h => by
    rw [insK] at h
    split at h
    · rcases List.mem_cons.1 h with rfl | h
      · exact .inr List.mem_cons_self
      · rcases insK_mem h with h | h
        · exact .inl h
        · exact .inr (List.mem_cons_of_mem _ h)
    · split at h
      · rcases List.mem_cons.1 h with h | h
        · exact .inl h
        · exact .inr (List.mem_cons_of_mem _ h)
      · rcases List.mem_cons.1 h with h | h
        · exact .inl h
        · exact .inr h
end Go.Proofs.YtjejeijldllloaaDoor

/- ValueParts: what Get, Set, Keep, Drop, TextAt, IntAt, Same tell is as the document says. -/
namespace Go.Proofs.YtjejeijldllloaaDoor
open Go.AM
end Go.Proofs.YtjejeijldllloaaDoor

/- ValueSets: what was set is found. -/
namespace Go.Proofs.YtjejeijldllloaaDoor
open Go.AM
section
variable {prim : FuncId → Option (List AV → Option AV)}
end
end Go.Proofs.YtjejeijldllloaaDoor

/- Chapter 13: plain facts of what stays: twice it is as once; what is added changes nothing. -/
namespace Go.Proofs.YtjejeijldllloaaDoor
open Go.AM
abbrev Ms := List (List UInt8 × GV)
end Go.Proofs.YtjejeijldllloaaDoor

/- Chapter 13: plain facts: redacted twice; each member that stays. -/
namespace Go.Proofs.YtjejeijldllloaaDoor
open Go.AM
/-- A member is found. -/
def found (u : GV) (q : List UInt8 × GV) : Prop := ∃ j, idxG u q.1 = some j ∧ u.mems[j]? = some q
/-- How a member stays. -/
def stays (v : GV) (p : List UInt8 × GV) : Prop := ∃ j u, idxG v p.1 = some j ∧ v.mems[j]? = some (p.1, u) ∧ (p.1 ≠ ctK → p.2 = u) ∧ ∀ q ∈ p.2.mems, found u q
end Go.Proofs.YtjejeijldllloaaDoor

/- RedactTwice: redacted twice it is as once. -/
namespace Go.Proofs.YtjejeijldllloaaDoor
open Go.AM
/-- A value as it lies. -/
theorem FV.opn {v : GV} {x : AV} (h : FV v x) : ∃ (vs : List AV) (es : List E) (M : AV), x = .agg vs ∧ vs.length = 5 ∧ AV.bares vs = some vs ∧ vs.all AV.flat = true ∧ vs[0]? = some (.v (.int .i64 v.kind)) ∧ vs[4]? = some M ∧ elems M = some (es.map enc) ∧ memsA x = es.map enc ∧ es.length = v.mems.length ∧ FMs v.mems (es.map enc) ∧ okL es := by
  obtain ⟨vs, e, h1, h2, h3⟩ := h.shape
  cases v with
  | mk k n s l m =>
    obtain ⟨L, M, xs, ys, e', _, hM, _, _, _, _, _, _, _, _, _, _, hw⟩ := h
    rw [e] at e'
    injection e' with e'
    obtain ⟨es, rfl, ho, _⟩ := fms_encs hw
    refine ⟨vs, es, M, e, h1, h2, h3, by rw [e']; rfl, by rw [e']; rfl, hM, by rw [e, e']; simp [memsA, hM], ?_, hw, ho⟩
    have hlen := hw.len
    rw [List.length_map] at hlen
    exact hlen
end Go.Proofs.YtjejeijldllloaaDoor

/- Chapter 13: plain facts: what is added changes nothing of what stays. -/
namespace Go.Proofs.YtjejeijldllloaaDoor
open Go.AM
end Go.Proofs.YtjejeijldllloaaDoor

/- RedactMore: what no list names changes nothing of what stays. -/
namespace Go.Proofs.YtjejeijldllloaaDoor
open Go.AM
end Go.Proofs.YtjejeijldllloaaDoor

/- Chapter 2: values that are computed from what lies: contracts that compute. -/
namespace Go.Proofs.YtjejeijldllloaaDoor
open Go.AM
def decS : AV → Option (List UInt8)
  | .v (.string b) => some b.data.toList
  | _ => none
theorem decS_eq {x : AV} {l : List UInt8} (h : decS x = some l) : x = str l := by
  cases x with
  | v y =>
    cases y with
    | string b =>
      injection h with h
      rw [← h]
      rfl
    | _ => cases h
  | _ => cases h
def decL : AV → Option (List AV)
  | .v (.slice none 0 0) => some []
  | .ro xs => some xs
  | _ => none
theorem decL_eq {x : AV} {xs : List AV} (h : decL x = some xs) : elems x = some xs ∧ slK x ∧ x.bare = some x ∧ x.flat = true := by
  unfold decL at h
  split at h
  · injection h with h; subst h; exact ⟨rfl, .inl rfl, rfl, rfl⟩
  · injection h with h; subst h; exact ⟨rfl, .inr ⟨rfl, rfl⟩, rfl, rfl⟩
  · cases h
def decAll {α : Type} (f : AV → Option α) : List AV → Option (List α)
  | [] => some []
  | x :: xs => match f x, decAll f xs with
    | some y, some ys => some (y :: ys)
    | _, _ => none
def decM (f : AV → Option GV) : AV → Option (List UInt8 × GV)
  | .agg (s :: cs) => match decS s, f (.agg cs) with
    | some k, some v => if k.length ≤ 100000 then some (k, v) else none
    | _, _ => none
  | _ => none
def decG : Nat → AV → Option GV
  | 0, _ => none
  | n + 1, x => match x with
    | .agg [.v (.int .i64 k), .v (.int .i64 m), s, L, M] => match decS s, (decL L).bind (decAll (decG n)), (decL M).bind (decAll (decM (decG n))) with
      | some s, some l, some ms => if s.length ≤ 100000 ∧ l.length ≤ 100000 ∧ ms.length ≤ 100000 then some (.mk k m s l ms) else none
      | _, _, _ => none
    | _ => none
theorem decAll_v {f : AV → Option GV} (hf : ∀ x v, f x = some v → FV v x ∧ v.sml) : ∀ {xs : List AV} {l : List GV}, decAll f xs = some l → FVs l xs ∧ GV.smls l
  | [], l, h => by injection h with h; subst h; exact ⟨rfl, trivial⟩
  | x :: xs, l, h => by
    simp only [decAll] at h
    split at h
    · rename_i y ys h1 h2
      injection h with h
      subst h
      obtain ⟨a, b⟩ := hf x y h1
      obtain ⟨c, d⟩ := decAll_v hf h2
      exact ⟨⟨_, _, rfl, a, c⟩, b, d⟩
    · cases h
theorem decM_v {f : AV → Option GV} (hf : ∀ x v, f x = some v → FV v x ∧ v.sml) {x : AV} {p : List UInt8 × GV} (h : decM f x = some p) : FMp p x ∧ GV.smlp p := by
  unfold decM at h
  split at h
  · split at h
    · rename_i k v h1 h2
      split at h
      · injection h with h
        subst h
        obtain ⟨a, b⟩ := hf _ _ h2
        exact ⟨⟨_, by rw [decS_eq h1], by omega, a⟩, by omega, b⟩
      · cases h
    · cases h
  · cases h
theorem decAll_m {f : AV → Option GV} (hf : ∀ x v, f x = some v → FV v x ∧ v.sml) : ∀ {xs : List AV} {l : Ms}, decAll (decM f) xs = some l → FMs l xs ∧ GV.smlm l
  | [], l, h => by injection h with h; subst h; exact ⟨rfl, trivial⟩
  | x :: xs, l, h => by
    simp only [decAll] at h
    split at h
    · rename_i y ys h1 h2
      injection h with h
      subst h
      obtain ⟨a, b⟩ := decM_v hf h1
      obtain ⟨c, d⟩ := decAll_m hf h2
      exact ⟨⟨_, _, rfl, a, c⟩, b, d⟩
    · cases h
theorem decG_ok : ∀ (n : Nat) (x : AV) (v : GV), decG n x = some v → FV v x ∧ v.sml
  | 0, _, _, h => by cases h
  | n + 1, x, v, h => by
    have ih := decG_ok n
    unfold decG at h
    split at h
    · rename_i k m s L M
      split at h
      · rename_i s' l ms h1 h2 h3
        split at h
        · rename_i hc
          injection h with h
          subst h
          obtain ⟨xs, a1, a2⟩ := Option.bind_eq_some_iff.1 h2
          obtain ⟨ys, b1, b2⟩ := Option.bind_eq_some_iff.1 h3
          obtain ⟨c1, c2⟩ := decAll_v ih a2
          obtain ⟨d1, d2⟩ := decAll_m ih b2
          obtain ⟨e1, e2, e3, e4⟩ := decL_eq a1
          obtain ⟨g1, g2, g3, g4⟩ := decL_eq b1
          refine ⟨⟨L, M, xs, ys, by rw [decS_eq h1], e1, g1, e2, g2, e3, g3, e4, g4, by omega, by omega, by omega, c1, d1⟩, by omega, by omega, by omega, c2, d2⟩
        · cases h
      · cases h
    · cases h
def decE : AV → E
  | .agg (s :: cs) => ((decS s).getD [], cs)
  | _ => ([], [])
theorem decS_str (k : List UInt8) : decS (str k) = some k := rfl
theorem decE_enc (e : E) : decE (enc e) = e := by
  show ((decS (str e.1)).getD [], e.2) = e
  rw [decS_str]
  rfl
theorem memsA_dec {v : GV} {x : AV} (h : FV v x) : memsA x = ((memsA x).map decE).map enc := by
  obtain ⟨vs, es, M, _, _, _, _, _, _, _, hme, _⟩ := FV.opn h
  rw [hme]
  simp [List.map_map, Function.comp_def, decE_enc]
instance riseDec (m : Ms) : Decidable (m.Pairwise fun a b => bl a.1 b.1 = true) := inferInstance
def riseC : GV → Bool
  | .mk k _ _ _ m => if k = 5 then decide (m.Pairwise fun a b => bl a.1 b.1 = true) else true
theorem riseC_ok {v : GV} (h : riseC v = true) : v.rise := by
  cases v with
  | mk k n s l m =>
    intro k5
    simp only [riseC] at h
    rw [if_pos k5] at h
    exact of_decide_eq_true h
/-- What is handed to Set, computed. -/
def snC : List AV → Option Sn
  | [x, k, .agg ys] => match decG 50 x, decS k, decG 50 (.agg ys) with
    | some v, some key, some w => if riseC v = true ∧ key.length ≤ 100000 ∧ ((memsA x).map decE).length < 100000 then some ⟨v, x, (memsA x).map decE, key, w, ys⟩ else none
    | _, _, _ => none
  | _ => none
theorem snC_ok {xs : List AV} {p : Sn} (h : snC xs = some p) : p.okA ∧ p.args = xs := by
  unfold snC at h
  split at h
  · rename_i x k ys
    split at h
    · rename_i v key w h1 h2 h3
      split at h
      · rename_i hc
        injection h with h
        subst h
        obtain ⟨a1, a2⟩ := decG_ok _ _ _ h1
        obtain ⟨b1, b2⟩ := decG_ok _ _ _ h3
        refine ⟨⟨a1, a2, riseC_ok hc.1, memsA_dec a1, by show ((memsA x).map decE).length < _; omega, b1, by show key.length ≤ _; omega⟩, ?_⟩
        show [x, str key, AV.agg ys] = [x, k, .agg ys]
        rw [decS_eq h2]
      · cases h
    · cases h
  · cases h
def stC (xs : List AV) : Option AV := (snC xs).map Sn.resA
def stRC (xs : List AV) : Option AV := (snC xs).map Sn.resB
theorem stC_ok : ∀ xs y, stC xs = some y → PureOk (cfgP fun _ => none) 40 xs y := fun xs y h => by
  obtain ⟨p, hp, rfl⟩ := Option.map_eq_some_iff.1 h
  obtain ⟨h1, rfl⟩ := snC_ok hp
  exact pureOk_prim (setA_ok p h1)
theorem stRC_ok : ∀ xs y, stRC xs = some y → PureOk (cfgP fun _ => none) 48 xs y := fun xs y h => by
  obtain ⟨p, hp, rfl⟩ := Option.map_eq_some_iff.1 h
  obtain ⟨h1, rfl⟩ := snC_ok hp
  exact pureOk_prim (setRefA_ok p h1)
end Go.Proofs.YtjejeijldllloaaDoor

/- Chapter 2: more contracts that compute. -/
namespace Go.Proofs.YtjejeijldllloaaDoor
open Go.AM
mutual
def GV.eqb : GV → GV → Bool
  | .mk k n s l m, .mk k' n' s' l' m' => decide (k = k') && decide (n = n') && decide (s = s') && GV.eqbs l l' && GV.eqbm m m'
def GV.eqbs : List GV → List GV → Bool
  | [], [] => true
  | x :: r, y :: r' => GV.eqb x y && GV.eqbs r r'
  | _, _ => false
def GV.eqbm : List (List UInt8 × GV) → List (List UInt8 × GV) → Bool
  | [], [] => true
  | x :: r, y :: r' => GV.eqbp x y && GV.eqbm r r'
  | _, _ => false
def GV.eqbp : List UInt8 × GV → List UInt8 × GV → Bool
  | (k, v), (k', v') => decide (k = k') && GV.eqb v v'
end
mutual
theorem GV.eqb_iff : ∀ (v w : GV), GV.eqb v w = true ↔ v = w
  | .mk k n s l m, .mk k' n' s' l' m' => by
    rw [GV.eqb]
    simp only [Bool.and_eq_true, decide_eq_true_eq, GV.eqbs_iff l l', GV.eqbm_iff m m', GV.mk.injEq]
    exact ⟨fun h => ⟨h.1.1.1.1, h.1.1.1.2, h.1.1.2, h.1.2, h.2⟩, fun h => ⟨⟨⟨⟨h.1, h.2.1⟩, h.2.2.1⟩, h.2.2.2.1⟩, h.2.2.2.2⟩⟩
theorem GV.eqbs_iff : ∀ (v w : List GV), GV.eqbs v w = true ↔ v = w
  | [], [] => by simp [GV.eqbs]
  | [], _ :: _ => by simp [GV.eqbs]
  | _ :: _, [] => by simp [GV.eqbs]
  | x :: r, y :: r' => by
    rw [GV.eqbs]
    simp only [Bool.and_eq_true, GV.eqb_iff x y, GV.eqbs_iff r r', List.cons.injEq]
theorem GV.eqbm_iff : ∀ (v w : List (List UInt8 × GV)), GV.eqbm v w = true ↔ v = w
  | [], [] => by simp [GV.eqbm]
  | [], _ :: _ => by simp [GV.eqbm]
  | _ :: _, [] => by simp [GV.eqbm]
  | x :: r, y :: r' => by
    rw [GV.eqbm]
    simp only [Bool.and_eq_true, GV.eqbp_iff x y, GV.eqbm_iff r r', List.cons.injEq]
theorem GV.eqbp_iff : ∀ (v w : List UInt8 × GV), GV.eqbp v w = true ↔ v = w
  | (k, v), (k', v') => by
    rw [GV.eqbp]
    simp only [Bool.and_eq_true, decide_eq_true_eq, GV.eqb_iff v v', Prod.mk.injEq]
end
theorem dq_eqb (v w : GV) : dq v w = GV.eqb v w := by
  rw [Bool.eq_iff_iff, dq_iff, GV.eqb_iff]
def sameC : List AV → Option AV
  | [x, y] => match decG 50 x, decG 50 y with
    | some v, some w => some (.v (.bool (GV.eqb v w)))
    | _, _ => none
  | _ => none
theorem sameC_of {R : List AV → AV → Prop} (h : ∀ v x w y, FV v x → FV w y → R [x, y] (.v (.bool (dq v w)))) : ∀ xs r, sameC xs = some r → R xs r := by
  intro xs r hr
  unfold sameC at hr
  split at hr
  · split at hr
    · rename_i v w h1 h2
      injection hr with hr
      subst hr
      rw [← dq_eqb]
      exact h _ _ _ _ (decG_ok _ _ _ h1).1 (decG_ok _ _ _ h2).1
    · cases hr
  · cases hr
theorem sameCp_ok : ∀ xs y, sameC xs = some y → PureOk (cfgP fun _ => none) 37 xs y := sameC_of (R := fun xs y => PureOk (cfgP fun _ => none) 37 xs y) fun v x w y h h' => sameP_ok (v.sz + 1) v x w y h h' (Nat.lt_succ_self _)
def goodC : List AV → Option AV
  | [x] => (decG 50 x).map fun v => .v (.bool v.good)
  | _ => none
theorem goodC_ok : ∀ xs y, goodC xs = some y → PureOk (cfgP fun _ => none) 32 xs y := by
  intro xs y h
  unfold goodC at h
  split at h
  · obtain ⟨v, hv, rfl⟩ := Option.map_eq_some_iff.1 h
    obtain ⟨a, b⟩ := decG_ok _ _ _ hv
    exact pureOk_prim (goodP_ok a b)
  · cases h
/-- A map and a key. -/
def plC : List AV → Option Pl
  | [x, k] => match decG 50 x, decS k with
    | some v, some key => if riseC v = true then some ⟨v, x, key⟩ else none
    | _, _ => none
  | _ => none
theorem plC_ok {xs : List AV} {p : Pl} (h : plC xs = some p) : p.ok ∧ p.args = xs := by
  unfold plC at h
  split at h
  · split at h
    · rename_i v key h1 h2
      split at h
      · rename_i hc
        injection h with h
        subst h
        obtain ⟨a, b⟩ := decG_ok _ _ _ h1
        refine ⟨⟨a, b, riseC_ok hc⟩, ?_⟩
        rw [decS_eq h2]
        rfl
      · cases h
    · cases h
  · cases h
def getC (xs : List AV) : Option AV := (plC xs).map Pl.get
theorem getC_ok : ∀ xs y, getC xs = some y → PureOk (cfgP fun _ => none) 39 xs y := fun xs y h => by
  obtain ⟨p, hp, rfl⟩ := Option.map_eq_some_iff.1 h
  obtain ⟨h1, rfl⟩ := plC_ok hp
  exact getQ_ok _ _ (getQ_eq h1)
def textAtC (xs : List AV) : Option AV := (plC xs).map Pl.text
theorem textAtC_ok : ∀ xs y, textAtC xs = some y → PureOk (cfgP fun _ => none) 44 xs y := fun xs y h => by
  obtain ⟨p, hp, rfl⟩ := Option.map_eq_some_iff.1 h
  obtain ⟨h1, rfl⟩ := plC_ok hp
  exact txQ_ok _ _ (txQ_eq h1)
/-- Texts. -/
def decT : AV → Option (List (List UInt8))
  | .v (.slice none 0 0) => some []
  | .ro xs => decAll decS xs
  | .cl false xs => decAll decS xs
  | _ => none
theorem decAllS : ∀ {xs : List AV} {ks : List (List UInt8)}, decAll decS xs = some ks → xs = ks.map str
  | [], ks, h => by injection h with h; subst h; rfl
  | x :: xs, ks, h => by
    simp only [decAll] at h
    split at h
    · rename_i y ys h1 h2
      injection h with h
      subst h
      rw [decS_eq h1, decAllS h2]
      rfl
    · cases h
theorem decT_tv {T : AV} {ks : List (List UInt8)} (h : decT T = some ks) (hl : ks.length ≤ 100000) : TV ks T := by
  unfold decT at h
  split at h
  · injection h with h; subst h; exact ⟨rfl, rfl, by simp⟩
  · rw [decAllS h]; exact ⟨rfl, rfl, by omega⟩
  · rw [decAllS h]; exact ⟨rfl, rfl, by omega⟩
  · cases h
def kpC (kd : Bool) : List AV → Option Kp
  | [x, T] => match decG 50 x, decT T with
    | some v, some ks => if ks.length ≤ 100000 ∧ ((memsA x).map decE).length < 100000 then some ⟨v, x, (memsA x).map decE, kd, ks, T⟩ else none
    | _, _ => none
  | _ => none
theorem kpC_ok {kd : Bool} {xs : List AV} {p : Kp} (h : kpC kd xs = some p) : p.ok ∧ p.kd = kd ∧ p.args3 = xs := by
  unfold kpC at h
  split at h
  · split at h
    · rename_i v ks h1 h2
      split at h
      · rename_i hc
        injection h with h
        subst h
        obtain ⟨a, b⟩ := decG_ok _ _ _ h1
        exact ⟨⟨a, b, memsA_dec a, decT_tv h2 hc.1, Nat.lt_trans hc.2 (by decide)⟩, rfl, rfl⟩
      · cases h
    · cases h
  · cases h
def keepC (xs : List AV) : Option AV := (kpC true xs).map Kp.res
theorem keepCC_ok : ∀ xs y, keepC xs = some y → PureOk (cfgP fun _ => none) 42 xs y := fun xs y h => by
  obtain ⟨p, hp, rfl⟩ := Option.map_eq_some_iff.1 h
  obtain ⟨h1, h2, rfl⟩ := kpC_ok hp
  exact pureOk_prim (keep_ok p h1 h2)
/-- Members. -/
def elemsC : AV → Option (List AV)
  | .v (.slice none 0 0) => some []
  | .ro xs => some xs
  | .cl false (x :: xs) => some (x :: xs)
  | _ => none
def decMs (y : AV) : Option (List E) := match elemsC y with
    | some zs => match decAll (decM (decG 50)) zs with
      | some m => if m.length < 100000 then some (zs.map decE) else none
      | none => none
    | none => none
theorem decMs_ok {y : AV} {es : List E} (h : decMs y = some es) : elems y = some (es.map enc) ∧ okL es ∧ (∀ q ∈ es, okT q) ∧ es.length < 100000 := by
  unfold decMs at h
  split at h
  · rename_i zs h1
    split at h
    · rename_i m h2
      split at h
      · rename_i hc
        injection h with h
        subst h
        obtain ⟨a, b⟩ := decAll_m (decG_ok 50) h2
        obtain ⟨es, e1, e2, e3⟩ := fms_encs a
        subst e1
        have he : (es.map enc).map decE = es := by rw [List.map_map]; simp [Function.comp_def, decE_enc]
        rw [he]
        refine ⟨?_, e2, fun q hq => (e3 q hq).1, ?_⟩
        · unfold elemsC at h1
          split at h1 <;> first | (injection h1 with h1; rw [← h1]; rfl) | cases h1
        · have := a.len
          rw [List.length_map] at this
          omega
      · cases h
    · cases h
  · cases h
theorem decMs_nil {y : AV} (h : decMs y = some []) : slK y := by
  unfold decMs at h
  split at h
  · rename_i zs h1
    unfold elemsC at h1
    split at h1
    · exact .inl rfl
    · exact .inr ⟨rfl, rfl⟩
    · injection h1 with h1
      subst h1
      split at h
      · split at h
        · cases h
        · cases h
      · cases h
    · cases h1
  · cases h
def mapC : List AV → Option AV
  | [y] => (decMs y).map fun es => mapV (refL es)
  | _ => none
theorem mapCr_ok : ∀ xs y, mapC xs = some y → PureOk (cfgP fun _ => none) 36 xs y := by
  intro xs y h
  unfold mapC at h
  split at h
  · obtain ⟨es, he, rfl⟩ := Option.map_eq_some_iff.1 h
    obtain ⟨h1, h2, h3, h4⟩ := decMs_ok he
    exact mapR_ok _ es h1 h2 h3 (by omega)
  · cases h
theorem mapCp_ok : ∀ xs y, mapC xs = some y → PureOk (cfgP fun _ => none) 35 xs y := by
  intro xs y h
  unfold mapC at h
  split at h
  · rename_i z
    obtain ⟨es, he, rfl⟩ := Option.map_eq_some_iff.1 h
    obtain ⟨h1, h2, h3, h4⟩ := decMs_ok he
    rw [refL_eq]
    cases es with
    | nil => exact pureOk_prim (map0_ok z h1 (decMs_nil he))
    | cons e0 es => exact pureOk_prim (map1_ok z e0 es h1 h2 (by omega))
  · cases h
def keysC : List AV → Option AV
  | [k] => (decS k).map kA
  | _ => none
theorem keysC_ok : ∀ xs y, keysC xs = some y → PureOk (cfgP fun _ => none) 57 xs y := by
  intro xs y h
  unfold keysC at h
  split at h
  · obtain ⟨t, ht, rfl⟩ := Option.map_eq_some_iff.1 h
    rw [decS_eq ht]
    exact pureOk_prim (keysP_ok t)
  · cases h
end Go.Proofs.YtjejeijldllloaaDoor

/- Chapter 13: RedactKnown: by computing. -/
namespace Go.Proofs.YtjejeijldllloaaDoor
open Go.AM
noncomputable def kn1 : FuncId → Option (List AV → Option AV) := tab [(32, goodC), (37, sameC), (40, stC), (48, stRC), (39, getC), (44, textAtC), (42, keepC), (35, mapC), (36, mapC), (57, keysC), (53, vawakeP)]
theorem kn1_ok : (cfgP kn1).Ok := cfg_ok (tab_ok ⟨prim_at Tryd.func32 (by kernel_rfl) rfl (goodC_ok), prim_at Tryd.func37 (by kernel_rfl) rfl (sameCp_ok), prim_at Tryd.func40 (by kernel_rfl) rfl (stC_ok), prim_at Tryd.func48 (by kernel_rfl) rfl (stRC_ok), prim_at Tryd.func39 (by kernel_rfl) rfl (getC_ok), prim_at Tryd.func44 (by kernel_rfl) rfl (textAtC_ok), prim_at Tryd.func42 (by kernel_rfl) rfl (keepCC_ok), prim_at Tryd.func35 (by kernel_rfl) rfl (mapCp_ok), prim_at Tryd.func36 (by kernel_rfl) rfl (mapCr_ok), prim_at Tryd.func57 (by kernel_rfl) rfl (keysC_ok), prim_at Tryd.func53 (by kernel_rfl) rfl ((fun xs r h => pureOk_prim (prim' := fun _ => none) (rawake_ok xs r h))), trivial⟩)
set_option maxRecDepth 100000 in
theorem redactKnown_run : (callA (cfgP kn1) 5000 17 [] {}).map (·.1) = some (.v (.bool true)) := by kernel_rfl
end Go.Proofs.YtjejeijldllloaaDoor
