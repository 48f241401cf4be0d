/- Contracts of functions, and plain facts about what they compute. -/
import Derived.Test.YtjejeijldllloaaDoorWg
import Derived.Test.YtjejeijldllloaaDoorAmD
set_option linter.unusedSimpArgs false
set_option linter.unusedVariables false
/- slices.Insert of one member, into a row of its own: whatever room it has. -/
namespace Go.Proofs.YtjejeijldllloaaDoor
open Go.AM
section
variable {prim : FuncId → Option (List AV → Option AV)}
theorem el37 : (elemT (cfgP prim) 37).bind (cfgP prim).csz = some 6 := by kernel_rfl
theorem sx_lo {b g len l : Nat} {k : IntKind} (h : l < len) : sliceA (cfgP prim) 37 (.ex b g 6 0 len) (some (.v (.int k (l : Int)))) none none = some (.ex b g 6 l (len - l)) := by
  have hl : optIdx (some (.v (.int k (l : Int)))) 0 = some l := by simp [optIdx, idx]
  have hh : optIdx none len = some len := rfl
  simp only [sliceA, el37, hl, hh]
  rw [if_pos ⟨by omega, by omega, trivial⟩, if_neg (by omega), Nat.zero_add]
theorem sx_any {b g len l : Nat} {k : IntKind} (h : l ≤ len) : ∃ r, sliceA (cfgP prim) 37 (.ex b g 6 0 len) (some (.v (.int k (l : Int)))) none none = some r := by
  have hl : optIdx (some (.v (.int k (l : Int)))) 0 = some l := by simp [optIdx, idx]
  have hh : optIdx none len = some len := rfl
  simp only [sliceA, el37, hl, hh]
  rw [if_pos ⟨by omega, by omega, trivial⟩]
  exact ⟨_, rfl⟩
theorem sx_hi {b g len h : Nat} {k : IntKind} (hh : h ≤ len) : sliceA (cfgP prim) 37 (.ex b g 6 0 len) none (some (.v (.int k (h : Int)))) none = some (.ex b g 6 0 h) := by
  have hl : optIdx none 0 = some 0 := rfl
  have h2 : optIdx (some (.v (.int k (h : Int)))) len = some h := by simp [optIdx, idx]
  simp only [sliceA, el37, hl, h2]
  rw [if_pos ⟨by omega, by omega, trivial⟩, if_neg (by omega)]
  simp
theorem sx_room {b g len h : Nat} {k : IntKind} (hh : len < h) (hr : roomG g h = true) : sliceA (cfgP prim) 37 (.ex b g 6 0 len) none (some (.v (.int k (h : Int)))) none = some (.ex b g 6 0 h) := by
  have hl : optIdx none 0 = some 0 := rfl
  have h2 : optIdx (some (.v (.int k (h : Int)))) len = some h := by simp [optIdx, idx]
  simp only [sliceA, el37, hl, h2]
  rw [if_neg (by omega), if_pos ⟨trivial, trivial, by rw [Nat.zero_add]; exact hr⟩]
theorem cap37 {b g len c : Nat} (h : exCap g = some c) : capA (cfgP prim) #[37] [.ex b g 6 0 len] = some (.v (.int .i64 (c : Int))) := by
  have h0 : ((#[37] : Array TypeId)[0]?).bind (cfgP prim).und = some (.slice 48) := by kernel_rfl
  simp only [capA, h0, h, Option.map_some, Nat.sub_zero]
theorem room_48 {n : Nat} (h : n < 1073741825) : roomOk (cfgP prim) 48 n = true := by
  have hby : (cfgP prim).byt 48 = some 96 := by kernel_rfl
  simp only [roomOk, hby, Bool.and_eq_true, decide_eq_true_eq]
  omega
theorem ap_x {b0 b1 : Blk} {g n : Nat} {l : List AV} {y : AV} (hl : l.length = n) (hy : y.cells.length = 6) (hn : n < 1073741824) : appXA (cfgP prim) #[37, 37] [.ex 2 g 6 0 n, .cl true [y]] (nH [b0, b1, ⟨g, 6, l⟩]) = some (.ex 2 (nextG g) 6 0 (n + 1), nH [b0, b1, ⟨nextG g, 6, l ++ [y]⟩]) := by
  have h0 : ((#[37, 37] : Array TypeId)[0]?).bind (elemT (cfgP prim)) = some 48 := by kernel_rfl
  have h1 : ((#[37, 37] : Array TypeId)[1]?).bind (cfgP prim).und = some (.slice 48) := by kernel_rfl
  have hz : zeroA (cfgP prim) 48 = some z6 := by kernel_rfl
  have hzl : z6.cells.length = 6 := rfl
  have hc : (cfgP prim).csz 48 = some 6 := by kernel_rfl
  have hb : blkAt (nH [b0, b1, ⟨g, 6, l⟩]) 2 g = some ⟨g, 6, l⟩ := by simp [blkAt, nH]
  simp only [appXA, h0, h1, hz, hc, hzl, if_true, appendX, elems]
  rw [if_pos ⟨hy, room_48 (by simp)⟩]
  simp only [hb]
  rw [if_pos ⟨trivial, trivial, hl, room_48 (by simp; omega)⟩]
  rfl
theorem mk_x {b0 b1 : Blk} {g i m c : Nat} {l : List AV} (hil : i ≤ l.length) (hg : exCap g = some c) (hc : c < i + m) (hm : i + m < 1073741825) : appXA (cfgP prim) #[37, 3] [.ex 2 g 6 0 i, .v (.int .i64 (m : Int))] (nH [b0, b1, ⟨g, 6, l⟩]) = some (.ex 3 0 6 0 (i + m), nH [b0, b1, ⟨g, 6, l⟩, ⟨0, 6, l.take i ++ List.replicate m z6⟩]) := by
  have h0 : ((#[37, 3] : Array TypeId)[0]?).bind (elemT (cfgP prim)) = some 48 := by kernel_rfl
  have h1 : ((#[37, 3] : Array TypeId)[1]?).bind (cfgP prim).und = some (.int .i64) := by kernel_rfl
  have hz : zeroA (cfgP prim) 48 = some z6 := by kernel_rfl
  have hcz : (cfgP prim).csz 48 = some (5 + 1) := by kernel_rfl
  have hb : blkAt (nH [b0, b1, ⟨g, 6, l⟩]) 2 g = some ⟨g, 6, l⟩ := by simp [blkAt, nH]
  simp only [appXA, h0, h1, appMk, hz, hcz, hb, hg, Int.toNat_natCast]
  rw [if_pos ⟨trivial, trivial, hil, by omega, hc, rfl, by decide, room_48 hm⟩]
  rfl
theorem copy_gen {b g off len : Nat} {y : AV} {H : Hp} {k : Blk} {ys : List AV} (hb : blkAt H b g = some k) (hs : segA 6 y len H = some ys) (ho : off ≤ k.xs.length) (hes : k.es = 6) : copyA (cfgP prim) #[37, 37] [.ex b g 6 off len, y] H = some (.v (.int .i64 (ys.length : Int)), { H with blks := H.blks.set b { k with xs := k.xs.take off ++ ys ++ k.xs.drop (off + ys.length) } }) := by
  have h0 : ((#[37, 37] : Array TypeId)[0]?).bind (elemT (cfgP prim)) = some 48 := by kernel_rfl
  have hcz : (cfgP prim).csz 48 = some 6 := by kernel_rfl
  simp only [copyA, h0, hb, hs]
  rw [if_pos ⟨ho, hes, hcz⟩]
theorem seg_one {y : AV} {n : Nat} {H : Hp} (hy : y.cells.length = 6) (hn : 0 < n) : segA 6 (.cl true [y]) n H = some [y] := by
  obtain ⟨m, rfl⟩ : ∃ m, n = m + 1 := ⟨n - 1, by omega⟩
  simp [segA, elems, szOk, hy]
theorem seg_ex {b g off len n : Nat} {H : Hp} {k : Blk} {ys : List AV} (hb : blkAt H b g = some k) (hes : k.es = 6) (hle : off + min n len ≤ k.xs.length) (hy : (k.xs.drop off).take (min n len) = ys) : segA 6 (.ex b g 6 off len) n H = some ys := by
  simp only [segA, hb, Option.bind_some]
  rw [if_pos ⟨hle, hes, trivial⟩, hy]
end
section
variable {b0 b1 : Blk} {g c i k n : Nat} {us ws : List AV} {y : AV}
/-- At the end: it is appended. -/
theorem ins_end (hl : us.length = n) (hy : y.cells.length = 6) (hn : n < 1073741824) : CallOk (cfgP fun _ => none) 79 [.ex 2 g 6 0 n, .v (.int .i64 (n : Int)), .cl true [y]] (nH [b0, b1, ⟨g, 6, us⟩]) (.ex 2 (nextG g) 6 0 (n + 1)) (nH [b0, b1, ⟨nextG g, 6, us ++ [y]⟩]) := by
  have q := ap_x (prim := fun _ => none) (b0 := b0) (b1 := b1) (g := g) hl hy hn
  obtain ⟨r, hr⟩ := sx_any (prim := fun _ => none) (b := 2) (g := g) (len := n) (l := n) (k := .i64) (Nat.le_refl _)
  have nb : nbD 79 (some 25) = true := rfl
  have lx : lenA (cfgP fun _ => none) #[37] [.ex 2 g 6 0 n] = some (.v (.int .i64 n)) := len_ex (e := 48) (by kernel_rfl)
  have lc : lenA (cfgP fun _ => none) #[37] [.cl true [y]] = some (.v (.int .i64 1)) := len_cl (e := 48) (by kernel_rfl)
  have dI : decide ((n : Int) = (n : Int)) = true := decide_eq_true rfl
  obtain ⟨H, hH⟩ : ∃ H, nH [b0, b1, ⟨g, 6, us⟩] = H := ⟨_, rfl⟩
  obtain ⟨H', hH'⟩ : ∃ H', nH [b0, b1, ⟨nextG g, 6, us ++ [y]⟩] = H' := ⟨_, rfl⟩
  rw [hH, hH'] at q
  rw [hH, hH']
  refine call_of_wk (call := noCall) (fn := Tryd.f79) (rs := [.tmp 6]) cokN noCall_ok (fns_cfg Tryd.func79 rfl) rfl rfl ?_
  intro env hl0 hargs
  have hn : env.length = 95 := hl0
  have h0 := hargs 0 _ rfl
  have h1 := hargs 1 _ rfl
  have h2 := hargs 2 _ rfl
  clear hargs hl0
  refine wkT_of ?_
  rw [fe_self hn]
  (try simp -dsimp (disch := omega) only [h0, h1, h2, hr, lx, lc, dI, nb, BEq.rfl, appB_t, q, AS, avals, apairs, bareP, AV.bare, AV.bares, Nat.reduceEqDiff, Nat.reduceLT, Nat.reduceAdd, ↓reduceIte, reduceCtorEq, resA, resA1, resVal, Nat.reduceLeDiff, nb_cfg, Nat.reduceBEq, AX, Int.reduceLT, Int.reduceLE, Int.reduceEq, Int.reduceAdd, Int.reduceSub, Int.reduceMul, Int.reduceNeg, Int.reduceNe])
set_option maxHeartbeats 4000000 in
set_option maxRecDepth 100000 in
/-- There is no room: a new row. -/
theorem ins_grow (hn : n = i + k + 1) (ha : us.length = i) (hb : ws.length = k + 1) (hy : y.cells.length = 6) (hl : n < 1073741824) (hg : exCap g = some c) (hc : c < n + 1) : CallOk (cfgP fun _ => none) 79 [.ex 2 g 6 0 n, .v (.int .i64 (i : Int)), .cl true [y]] (nH [b0, b1, ⟨g, 6, us ++ ws⟩]) (.ex 3 0 6 0 (n + 1)) (nH [b0, b1, ⟨g, 6, us ++ ws⟩, ⟨0, 6, us ++ y :: ws⟩]) := by
  subst hn ha
  have lx : lenA (cfgP fun _ => none) #[37] [.ex 2 g 6 0 (us.length + k + 1)] = some (.v (.int .i64 ((us.length + k + 1 : Nat) : Int))) := len_ex (e := 48) (by kernel_rfl)
  have lc : lenA (cfgP fun _ => none) #[37] [.cl true [y]] = some (.v (.int .i64 1)) := len_cl (e := 48) (by kernel_rfl)
  have dI : decide ((us.length : Int) = ((us.length + k + 1 : Nat) : Int)) = false := decide_eq_false (by omega)
  have e1 : ((us.length + k + 1 : Nat) : Int) + 1 = ((us.length + k + 2 : Nat) : Int) := by omega
  have e2 : ((us.length + k + 2 : Nat) : Int) - (us.length : Int) = ((k + 2 : Nat) : Int) := by omega
  have e3 : (us.length : Int) + 1 = ((us.length + 1 : Nat) : Int) := by omega
  have cp := cap37 (prim := fun _ => none) (b := 2) (len := us.length + k + 1) hg
  have dC : decide ((c : Int) < ((us.length + k + 2 : Nat) : Int)) = true := decide_eq_true (by omega)
  have s1 := sx_hi (prim := fun _ => none) (b := 2) (g := g) (k := .i64) (show us.length ≤ us.length + k + 1 by omega)
  have s2 : sliceA (cfgP fun _ => none) 37 (.ex 3 0 6 0 (us.length + k + 2)) (some (.v (.int .i64 (us.length : Int)))) none none = some (.ex 3 0 6 us.length (k + 2)) := by
    have := sx_lo (prim := fun _ => none) (b := 3) (g := 0) (k := .i64) (show us.length < us.length + k + 2 by omega)
    rw [show us.length + k + 2 - us.length = k + 2 by omega] at this
    exact this
  have s3 : sliceA (cfgP fun _ => none) 37 (.ex 3 0 6 0 (us.length + k + 2)) (some (.v (.int .i64 ((us.length + 1 : Nat) : Int)))) none none = some (.ex 3 0 6 (us.length + 1) (k + 1)) := by
    have := sx_lo (prim := fun _ => none) (b := 3) (g := 0) (k := .i64) (show us.length + 1 < us.length + k + 2 by omega)
    rw [show us.length + k + 2 - (us.length + 1) = k + 1 by omega] at this
    exact this
  have s4 : sliceA (cfgP fun _ => none) 37 (.ex 2 g 6 0 (us.length + k + 1)) (some (.v (.int .i64 (us.length : Int)))) none none = some (.ex 2 g 6 us.length (k + 1)) := by
    have := sx_lo (prim := fun _ => none) (b := 2) (g := g) (k := .i64) (show us.length < us.length + k + 1 by omega)
    rw [show us.length + k + 1 - us.length = k + 1 by omega] at this
    exact this
  have nb : nbD 79 (some 40) = true := rfl
  obtain ⟨H, hH⟩ : ∃ H, nH [b0, b1, ⟨g, 6, us ++ ws⟩] = H := ⟨_, rfl⟩
  obtain ⟨H1, hH1⟩ : ∃ H1, nH [b0, b1, ⟨g, 6, us ++ ws⟩, ⟨0, 6, us ++ List.replicate (k + 2) z6⟩] = H1 := ⟨_, rfl⟩
  obtain ⟨H2, hH2⟩ : ∃ H2, nH [b0, b1, ⟨g, 6, us ++ ws⟩, ⟨0, 6, us ++ y :: List.replicate (k + 1) z6⟩] = H2 := ⟨_, rfl⟩
  obtain ⟨H3, hH3⟩ : ∃ H3, nH [b0, b1, ⟨g, 6, us ++ ws⟩, ⟨0, 6, us ++ y :: ws⟩] = H3 := ⟨_, rfl⟩
  have q1 : appXA (cfgP fun _ => none) #[37, 3] [.ex 2 g 6 0 us.length, .v (.int .i64 ((k + 2 : Nat) : Int))] H = some (.ex 3 0 6 0 (us.length + k + 2), H1) := by
    have := mk_x (prim := fun _ => none) (b0 := b0) (b1 := b1) (l := us ++ ws) (i := us.length) (m := k + 2) (by simp) hg (by omega) (by omega)
    rw [List.take_left] at this
    rw [← hH, ← hH1]
    exact this
  have q2 : copyA (cfgP fun _ => none) #[37, 37] [.ex 3 0 6 us.length (k + 2), .cl true [y]] H1 = some (.v (.int .i64 1), H2) := by
    have := copy_gen (prim := fun _ => none) (b := 3) (g := 0) (off := us.length) (len := k + 2) (y := .cl true [y]) (H := H1) (k := ⟨0, 6, us ++ List.replicate (k + 2) z6⟩) (by rw [← hH1]; rfl) (seg_one hy (by omega)) (by simp) rfl
    rw [this, ← hH1, ← hH2]
    have e5 : (us ++ List.replicate (k + 2) z6).take us.length ++ [y] ++ (us ++ List.replicate (k + 2) z6).drop (us.length + [y].length) = us ++ y :: List.replicate (k + 1) z6 := by
      rw [List.take_left, List.drop_append]
      simp
    simp only [e5, nH]
    rfl
  have q3 : copyA (cfgP fun _ => none) #[37, 37] [.ex 3 0 6 (us.length + 1) (k + 1), .ex 2 g 6 us.length (k + 1)] H2 = some (.v (.int .i64 ((k + 1 : Nat) : Int)), H3) := by
    have hs := seg_ex (b := 2) (g := g) (off := us.length) (len := k + 1) (n := k + 1) (H := H2) (k := ⟨g, 6, us ++ ws⟩) (ys := ws) (by rw [← hH2]; simp [blkAt, nH]) rfl (by simp [hb]) (by
      show ((us ++ ws).drop us.length).take (min (k + 1) (k + 1)) = ws
      rw [List.drop_left, Nat.min_self]
      exact List.take_of_length_le (by omega))
    have := copy_gen (prim := fun _ => none) (b := 3) (g := 0) (off := us.length + 1) (len := k + 1) (H := H2) (k := ⟨0, 6, us ++ y :: List.replicate (k + 1) z6⟩) (by rw [← hH2]; rfl) hs (by simp) rfl
    rw [this, ← hH2, ← hH3, hb]
    have e5 : (us ++ y :: List.replicate (k + 1) z6).take (us.length + 1) ++ ws ++ (us ++ y :: List.replicate (k + 1) z6).drop (us.length + 1 + (k + 1)) = us ++ y :: ws := by
      rw [List.take_append, List.drop_of_length_le (by simp; omega)]
      simp
      exact List.take_of_length_le (by omega)
    simp only [e5, nH]
    rfl
  obtain ⟨r0, hr0⟩ := sx_any (prim := fun _ => none) (b := 2) (g := g) (len := us.length + k + 1) (l := us.length) (k := .i64) (by omega)
  have hkl : us.length + k + 1 + 1 = us.length + k + 2 := rfl
  rw [hH, hH3, hkl]
  refine call_of_wk (call := noCall) (fn := Tryd.f79) (rs := [.tmp 6]) cokN noCall_ok (fns_cfg Tryd.func79 rfl) rfl rfl ?_
  intro env hl0 hargs
  have hn : env.length = 95 := hl0
  have h0 := hargs 0 _ rfl
  have h1 := hargs 1 _ rfl
  have h2 := hargs 2 _ rfl
  clear hargs hl0
  refine wkT_of ?_
  rw [fe_self hn]
  (try simp -dsimp (disch := omega) only [h0, h1, h2, lx, lc, dI, wrap64, e1, e2, e3, cp, dC, s1, s2, s3, s4, nb, BEq.rfl, appB_t, q1, q2, q3, AS, avals, apairs, bareP, AV.bare, AV.bares, Nat.reduceEqDiff, Nat.reduceLT, Nat.reduceAdd, ↓reduceIte, reduceCtorEq, resA, resA1, resVal, Nat.reduceLeDiff, nb_cfg, Nat.reduceBEq, AX, Int.reduceLT, Int.reduceLE, Int.reduceEq, Int.reduceAdd, Int.reduceSub, Int.reduceMul, Int.reduceNeg, Int.reduceNe])
  exact ⟨by kernel_rfl, trivial⟩
set_option maxHeartbeats 4000000 in
set_option maxRecDepth 100000 in
/-- There is room. -/
theorem ins_room (hn : n = i + k + 1) (ha : us.length = i) (hb : ws.length = k + 1) (hy : y.cells.length = 6) (hl : n < 1073741824) (hg : exCap g = some c) (hc : n + 1 ≤ c) : CallOk (cfgP fun _ => none) 79 [.ex 2 g 6 0 n, .v (.int .i64 (i : Int)), .cl true [y]] (nH [b0, b1, ⟨g, 6, us ++ ws⟩]) (.ex 2 g 6 0 (n + 1)) (nH [b0, b1, ⟨g, 6, us ++ y :: ws⟩]) := by
  subst hn ha
  have lx : lenA (cfgP fun _ => none) #[37] [.ex 2 g 6 0 (us.length + k + 1)] = some (.v (.int .i64 ((us.length + k + 1 : Nat) : Int))) := len_ex (e := 48) (by kernel_rfl)
  have lc : lenA (cfgP fun _ => none) #[37] [.cl true [y]] = some (.v (.int .i64 1)) := len_cl (e := 48) (by kernel_rfl)
  have dI : decide ((us.length : Int) = ((us.length + k + 1 : Nat) : Int)) = false := decide_eq_false (by omega)
  have e1 : ((us.length + k + 1 : Nat) : Int) + 1 = ((us.length + k + 2 : Nat) : Int) := by omega
  have e3 : (us.length : Int) + 1 = ((us.length + 1 : Nat) : Int) := by omega
  have cp := cap37 (prim := fun _ => none) (b := 2) (len := us.length + k + 1) hg
  have dC : decide ((c : Int) < ((us.length + k + 2 : Nat) : Int)) = false := decide_eq_false (by omega)
  have hrm : roomG g (us.length + k + 2) = true := by
    unfold roomG
    rw [hg]
    exact decide_eq_true (by omega)
  have s1 := sx_room (prim := fun _ => none) (b := 2) (g := g) (k := .i64) (show us.length + k + 1 < us.length + k + 2 by omega) hrm
  have s2 : sliceA (cfgP fun _ => none) 37 (.ex 2 g 6 0 (us.length + k + 2)) (some (.v (.int .i64 (us.length : Int)))) none none = some (.ex 2 g 6 us.length (k + 2)) := by
    have := sx_lo (prim := fun _ => none) (b := 2) (g := g) (k := .i64) (show us.length < us.length + k + 2 by omega)
    rw [show us.length + k + 2 - us.length = k + 2 by omega] at this
    exact this
  have s3 : sliceA (cfgP fun _ => none) 37 (.ex 2 g 6 0 (us.length + k + 2)) (some (.v (.int .i64 ((us.length + 1 : Nat) : Int)))) none none = some (.ex 2 g 6 (us.length + 1) (k + 1)) := by
    have := sx_lo (prim := fun _ => none) (b := 2) (g := g) (k := .i64) (show us.length + 1 < us.length + k + 2 by omega)
    rw [show us.length + k + 2 - (us.length + 1) = k + 1 by omega] at this
    exact this
  obtain ⟨H, hH⟩ : ∃ H, nH [b0, b1, ⟨g, 6, us ++ ws⟩] = H := ⟨_, rfl⟩
  obtain ⟨H2, hH2⟩ : ∃ H2, nH [b0, b1, ⟨g, 6, (us ++ ws).take (us.length + 1) ++ ws⟩] = H2 := ⟨_, rfl⟩
  obtain ⟨H3, hH3⟩ : ∃ H3, nH [b0, b1, ⟨g, 6, us ++ y :: ws⟩] = H3 := ⟨_, rfl⟩
  have hlen : (us ++ ws).length = us.length + k + 1 := by rw [List.length_append, hb]; omega
  have ov : ovlA [.cl true [y], .ex 2 g 6 (us.length + 1) (k + 1)] H = some (.v (.bool false)) := by
    rw [← hH]
    simp [ovlA, blkAt, nH]
  have q2 : copyA (cfgP fun _ => none) #[37, 37] [.ex 2 g 6 (us.length + 1) (k + 1), .ex 2 g 6 us.length (k + 2)] H = some (.v (.int .i64 ((k + 1 : Nat) : Int)), H2) := by
    have hbk : blkAt H 2 g = some ⟨g, 6, us ++ ws⟩ := by rw [← hH]; simp [blkAt, nH]
    have hs := seg_ex (b := 2) (g := g) (off := us.length) (len := k + 2) (n := k + 1) (H := H) (k := ⟨g, 6, us ++ ws⟩) (ys := ws) hbk rfl (by show us.length + min (k + 1) (k + 2) ≤ (us ++ ws).length; rw [hlen]; omega) (by
      show ((us ++ ws).drop us.length).take (min (k + 1) (k + 2)) = ws
      rw [List.drop_left]
      exact List.take_of_length_le (by omega))
    have := copy_gen (prim := fun _ => none) (b := 2) (g := g) (off := us.length + 1) (len := k + 1) (H := H) (k := ⟨g, 6, us ++ ws⟩) hbk hs (by show us.length + 1 ≤ (us ++ ws).length; rw [hlen]; omega) rfl
    rw [this, ← hH, ← hH2, hb]
    have e5 : (us ++ ws).take (us.length + 1) ++ ws ++ (us ++ ws).drop (us.length + 1 + (k + 1)) = (us ++ ws).take (us.length + 1) ++ ws := by
      rw [List.drop_of_length_le (by rw [hlen]; omega), List.append_nil]
    simp only [e5, nH]
    rfl
  have q3 : copyA (cfgP fun _ => none) #[37, 37] [.ex 2 g 6 us.length (k + 2), .cl true [y]] H2 = some (.v (.int .i64 1), H3) := by
    have htl : ((us ++ ws).take (us.length + 1)).length = us.length + 1 := by rw [List.length_take, hlen]; omega
    have := copy_gen (prim := fun _ => none) (b := 2) (g := g) (off := us.length) (len := k + 2) (y := .cl true [y]) (H := H2) (k := ⟨g, 6, (us ++ ws).take (us.length + 1) ++ ws⟩) (by rw [← hH2]; simp [blkAt, nH]) (seg_one hy (by omega)) (by show us.length ≤ ((us ++ ws).take (us.length + 1) ++ ws).length; rw [List.length_append, htl]; omega) rfl
    rw [this, ← hH2, ← hH3]
    have e5 : ((us ++ ws).take (us.length + 1) ++ ws).take us.length ++ [y] ++ ((us ++ ws).take (us.length + 1) ++ ws).drop (us.length + [y].length) = us ++ y :: ws := by
      have h1 : ((us ++ ws).take (us.length + 1) ++ ws).drop (us.length + [y].length) = ws := by
        show ((us ++ ws).take (us.length + 1) ++ ws).drop (us.length + 1) = ws
        exact List.drop_left' htl
      have h2 : ((us ++ ws).take (us.length + 1) ++ ws).take us.length = us := by
        rw [List.take_append_of_le_length (by rw [htl]; omega), List.take_take, Nat.min_eq_left (by omega), List.take_left]
      rw [h1, h2]
      simp
    simp only [e5, nH]
    rfl
  obtain ⟨r0, hr0⟩ := sx_any (prim := fun _ => none) (b := 2) (g := g) (len := us.length + k + 1) (l := us.length) (k := .i64) (by omega)
  have hkl : us.length + k + 1 + 1 = us.length + k + 2 := rfl
  rw [hH, hH3, hkl]
  refine call_of_wk (call := noCall) (fn := Tryd.f79) (rs := [.tmp 6]) cokN noCall_ok (fns_cfg Tryd.func79 rfl) rfl rfl ?_
  intro env hl0 hargs
  have hn : env.length = 95 := hl0
  have h0 := hargs 0 _ rfl
  have h1 := hargs 1 _ rfl
  have h2 := hargs 2 _ rfl
  clear hargs hl0
  refine wkT_of ?_
  rw [fe_self hn]
  (try simp -dsimp (disch := omega) only [h0, h1, h2, hr0, lx, lc, dI, wrap64, e1, e3, cp, dC, s1, s2, s3, ct_ovl (C := cfgP fun _ => none) (f := 101) rfl rfl rfl rfl, ov, q2, q3, Bool.not_false, AS, avals, apairs, bareP, AV.bare, AV.bares, Nat.reduceEqDiff, Nat.reduceLT, Nat.reduceAdd, ↓reduceIte, reduceCtorEq, resA, resA1, resVal, Nat.reduceLeDiff, nb_cfg, Nat.reduceBEq, AX, Int.reduceLT, Int.reduceLE, Int.reduceEq, Int.reduceAdd, Int.reduceSub, Int.reduceMul, Int.reduceNeg, Int.reduceNe])
  exact ⟨by kernel_rfl, trivial⟩
end
end Go.Proofs.YtjejeijldllloaaDoor

/- slices.Insert of one member, as one contract. -/
namespace Go.Proofs.YtjejeijldllloaaDoor
open Go.AM
theorem noBs_vals {G : Gh} : ∀ {cs : List AV} {ys : List Value}, VRels G cs ys → (∀ c ∈ cs, c.bare = some c ∨ ∃ b g n, b < 3 ∧ c = .ex b g 6 0 n) → noBs 3 cs = true
  | [], _, _, _ => rfl
  | c :: cs, _, ⟨z, zs, rfl, r, rs⟩, h => by
    have h1 : noB 3 c = true := by
      rcases h c (by simp) with hb | ⟨b, g, n, hb, rfl⟩
      · exact noB_bare 3 c (bare_bare c c z hb r).1
      · exact decide_eq_true hb
    rw [noBs, h1, noBs_vals rs fun c hc => h c (by simp [hc])]
    rfl
theorem noBs_row {G : Gh} : ∀ {l : List AV}, (∀ (i : Nat) (x : AV), l[i]? = some x → ∃ z, VRel G x z) → (∀ x ∈ l, x.bare = some x) → noBs 3 l = true
  | [], _, _ => rfl
  | x :: l, h, hb => by
    obtain ⟨z, r⟩ := h 0 x rfl
    rw [noBs, noB_bare 3 x (bare_bare x x z (hb x (by simp)) r).1, noBs_row (G := G) (fun i y hy => h (i + 1) y (by simpa using hy)) fun y hy => hb y (by simp [hy])]
    rfl
def insL (es : List E) (i : Nat) (z : E) : List E := es.take i ++ z :: es.drop i
theorem insL_len (es : List E) (i : Nat) (z : E) : (insL es i z).length = es.length + 1 := by
  unfold insL
  rw [List.length_append, List.length_cons, List.length_take, List.length_drop]
  omega
theorem insL_map (es : List E) (i : Nat) (z : E) : (insL es i z).map enc = (es.map enc).take i ++ enc z :: (es.map enc).drop i := by
  simp [insL, List.map_take, List.map_drop]
structure In where
  c0 : List AV
  c1 : List AV
  es : List E
  i : Nat
  z : E
structure In.ok (p : In) : Prop where
  h0 : ∀ c ∈ p.c0, c.bare = some c ∨ ∃ b g n, b < 3 ∧ c = .ex b g 6 0 n
  h1 : ∀ c ∈ p.c1, c.bare = some c ∨ ∃ b g n, b < 3 ∧ c = .ex b g 6 0 n
  o : okL p.es
  z : okE p.z
  i : p.i ≤ p.es.length
  l : p.es.length < 1073741824
def In.args (p : In) : List AV := [.ex 2 0 6 0 p.es.length, .v (.int .i64 (p.i : Int)), .cl true [enc p.z]]
def In.H (p : In) : Hp := nH [⟨0, 5, [.agg p.c0]⟩, ⟨0, 5, [.agg p.c1]⟩, ⟨0, 6, p.es.map enc⟩]
def In.r (p : In) : AV := .ex 2 (insG 0) 6 0 (p.es.length + 1)
def In.H' (p : In) : Hp := nH [⟨0, 5, [.agg p.c0]⟩, ⟨0, 5, [.agg p.c1]⟩, ⟨insG 0, 6, (insL p.es p.i p.z).map enc⟩]
theorem In.callOk (p : In) (hp : p.ok) : CallOk (cfgP fun _ => none) 79 p.args p.H p.r p.H' := by
  obtain ⟨c0, c1, es, i, z⟩ := p
  obtain ⟨h0, h1, ho, hz, hi, hl⟩ := hp
  simp only at h0 h1 ho hz hi hl
  intro G W vs S rv
  obtain ⟨v, l, rfl, r1, rest⟩ := rv
  have hbl : blkAt (nH [⟨0, 5, [.agg c0]⟩, ⟨0, 5, [.agg c1]⟩, ⟨0, 6, es.map enc⟩]) 2 0 = some ⟨0, 6, es.map enc⟩ := rfl
  obtain ⟨c, G1, hnc, hcb, S1, A1, r1'⟩ := Sim.reveal S hbl (by decide) r1
  obtain ⟨g, hg⟩ : ∃ g, capG 0 c = g := ⟨_, rfl⟩
  have hcap : exCap g = some c := by rw [← hg]; exact exCap_capG hcb
  have hnx : nextG g = insG 0 := by rw [← hg]; exact nextG_capG hcb
  have hlt : g < insG 0 := by rw [← hg]; exact insG_lt hcb
  rw [hg] at S1 r1'
  replace S1 : Sim (cfgP fun _ => none) G1 (nH [⟨0, 5, [.agg c0]⟩, ⟨0, 5, [.agg c1]⟩, ⟨g, 6, es.map enc⟩]) W := S1
  have rv1 : VRels G1.g [.ex 2 g 6 0 es.length, .v (.int .i64 (i : Int)), .cl true [enc z]] (v :: l) := ⟨v, l, rfl, r1', VRels.mono A1.gle _ _ rest⟩
  have hy : (enc z).cells.length = 6 := by rw [enc_cells, List.length_cons, hz.1]
  have adv : ∀ {x : AV} {H : Hp} {y : Value} {W' : World}, Post (cfgP fun _ => none) G1 W x H y W' → Post (cfgP fun _ => none) G W x H y W' := fun ⟨G', r, S', A⟩ => ⟨G', r, S', A1.trans A⟩
  have hml : (es.map enc).length = es.length := List.length_map ..
  show Calls _ _ _ W fun e W' => ∃ y, e = .returned y ∧ Post (cfgP fun _ => none) G W (.ex 2 (insG 0) 6 0 (es.length + 1)) (nH [⟨0, 5, [.agg c0]⟩, ⟨0, 5, [.agg c1]⟩, ⟨insG 0, 6, (insL es i z).map enc⟩]) y W'
  rw [insL_map]
  by_cases hend : i = es.length
  · subst hend
    have h := ins_end (b0 := ⟨0, 5, [.agg c0]⟩) (b1 := ⟨0, 5, [.agg c1]⟩) (g := g) hml hy hl G1 W (v :: l) S1 rv1
    rw [hnx] at h
    refine h.mono fun e W' ⟨y, he, hp⟩ => ⟨y, he, ?_⟩
    have := adv hp
    rw [List.take_of_length_le (by omega), List.drop_of_length_le (by omega)]
    exact this
  · obtain ⟨k, hk⟩ : ∃ k, es.length = i + k + 1 := ⟨es.length - i - 1, by omega⟩
    obtain ⟨us, hus⟩ : ∃ us, (es.map enc).take i = us := ⟨_, rfl⟩
    obtain ⟨ws, hws⟩ : ∃ ws, (es.map enc).drop i = ws := ⟨_, rfl⟩
    have hcat : es.map enc = us ++ ws := by rw [← hus, ← hws, List.take_append_drop]
    have hul : us.length = i := by rw [← hus, List.length_take, hml]; omega
    have hwl : ws.length = k + 1 := by rw [← hws, List.length_drop, hml]; omega
    rw [hus, hws]
    have hbare : ∀ x ∈ us ++ ws, x.bare = some x := by
      rw [← hcat]
      intro x hx
      obtain ⟨q, hq, rfl⟩ := List.mem_map.1 hx
      exact enc_bare (ho q hq)
    rw [hcat] at S1
    by_cases hroom : es.length + 1 ≤ c
    · have h := ins_room (b0 := ⟨0, 5, [.agg c0]⟩) (b1 := ⟨0, 5, [.agg c1]⟩) (y := enc z) hk hul hwl hy hl hcap hroom G1 W (v :: l) S1 rv1
      refine h.mono fun e W' ⟨y, he, hp⟩ => ⟨y, he, ?_⟩
      exact adv (Post.remark hp (zs := us ++ enc z :: ws) rfl (insG_le 0) hlt (insG_cap 0))
    · have h := ins_grow (b0 := ⟨0, 5, [.agg c0]⟩) (b1 := ⟨0, 5, [.agg c1]⟩) (y := enc z) hk hul hwl hy hl hcap (by omega) G1 W (v :: l) S1 rv1
      refine h.mono fun e W' ⟨y, he, hp⟩ => ⟨y, he, ?_⟩
      have hz3 : noBs 3 (us ++ enc z :: ws) = true := by
        obtain ⟨_, G2, _, S2, _⟩ : ∃ x : Unit, ∃ G2, True ∧ Sim (cfgP fun _ => none) G2 (nH [⟨0, 5, [.agg c0]⟩, ⟨0, 5, [.agg c1]⟩, ⟨g, 6, us ++ ws⟩, ⟨0, 6, us ++ enc z :: ws⟩]) W' ∧ True := by
          obtain ⟨G2, _, S2, _⟩ := hp
          exact ⟨(), G2, trivial, S2, trivial⟩
        obtain ⟨_, _, cells, _, _, _, _, _, _, hr⟩ := S2.blk 3 ⟨0, 6, us ++ enc z :: ws⟩ rfl
        refine noBs_row (fun j x hx => by obtain ⟨z, r, _⟩ := hr j x hx; exact ⟨z, r⟩) fun x hx => ?_
        rcases List.mem_append.1 hx with h | h
        · exact hbare x (by simp [h])
        · rcases List.mem_cons.1 h with rfl | h
          · exact enc_bare hz
          · exact hbare x (by simp [h])
      refine adv (Post.move (t := []) (L := [⟨0, 5, [.agg c0]⟩, ⟨0, 5, [.agg c1]⟩, ⟨g, 6, us ++ ws⟩]) (b := 2) (xs := us ++ ws) hp rfl (insG_le 0) hlt (insG_cap 0) (fun g' => S1.blkN 3 g' (by simp [nH])) (fun k hk => ?_) hz3)
      simp only [List.mem_cons, List.not_mem_nil, or_false] at hk
      rcases hk with rfl | rfl | rfl
      · obtain ⟨_, _, _, _, _, _, _, _, _, hr⟩ := S1.blk 0 ⟨0, 5, [.agg c0]⟩ rfl
        obtain ⟨z0, ⟨ys, _, r⟩, _⟩ := hr 0 (.agg c0) rfl
        show (noBs 3 c0 && true) = true
        rw [noBs_vals r h0]
        rfl
      · obtain ⟨_, _, _, _, _, _, _, _, _, hr⟩ := S1.blk 1 ⟨0, 5, [.agg c1]⟩ rfl
        obtain ⟨z0, ⟨ys, _, r⟩, _⟩ := hr 0 (.agg c1) rfl
        show (noBs 3 c1 && true) = true
        rw [noBs_vals r h1]
        rfl
      · obtain ⟨_, _, cells, _, _, _, _, _, _, hr⟩ := S1.blk 2 ⟨g, 6, us ++ ws⟩ rfl
        exact noBs_row (fun j x hx => by obtain ⟨z, r, _⟩ := hr j x hx; exact ⟨z, r⟩) hbare
noncomputable def inT := relT 79 In.ok In.args In.H In.r In.H'
theorem inT_ok : CallsOk (cfgP fun _ => none) inT := relT_ok (fns_cfg Tryd.func79 rfl) rfl fun p h => In.callOk p h
theorem inT_eq (p : In) (hp : p.ok) : inT 79 p.args p.H = some (p.r, p.H') :=
  relT_eq (f0 := 79) (X := In.ok) (a := In.args) (h := In.H) (r := In.r) (h' := In.H') (fun p q hp hq ha hh => by
    obtain ⟨c0, c1, es, i, z⟩ := p
    obtain ⟨d0, d1, fs, j, y⟩ := q
    injection ha with _ ha
    injection ha with a1 ha
    injection ha with a2 _
    injection a1 with a1
    injection a1 with _ a1
    injection a2 with _ a2
    injection a2 with a2 _
    have ij : i = j := Int.ofNat_inj.1 a1
    have zy : z = y := enc_inj a2
    have hh' : nH [⟨0, 5, [.agg c0]⟩, ⟨0, 5, [.agg c1]⟩, ⟨0, 6, es.map enc⟩] = nH [⟨0, 5, [.agg d0]⟩, ⟨0, 5, [.agg d1]⟩, ⟨0, 6, fs.map enc⟩] := hh
    injection hh' with _ hb
    injection hb with b0 hb
    injection hb with b1 hb
    injection hb with b2 _
    injection b0 with _ _ b0
    injection b0 with b0 _
    injection b0 with b0
    injection b1 with _ _ b1
    injection b1 with b1 _
    injection b1 with b1
    injection b2 with _ _ b2
    have ef := encs_inj b2
    subst ij zy b0 b1 ef
    exact ⟨rfl, rfl⟩) p hp
/-! ### Into nothing -/
theorem ins_nil (b : Bool) {b0 b1 : Blk} {y : AV} (hy : y.cells.length = 6) : CallOk (cfgP fun _ => none) 79 [nilm b, .v (.int .i64 0), .cl true [y]] (nH [b0, b1]) (.ex 2 0 6 0 1) (nH [b0, b1, ⟨0, 6, [y]⟩]) := by
  have q : appXA (cfgP fun _ => none) #[37, 37] [nilm b, .cl true [y]] (nH [b0, b1]) = some (.ex 2 0 6 0 1, nH [b0, b1, ⟨0, 6, [y]⟩]) := by
    have h0 : ((#[37, 37] : Array TypeId)[0]?).bind (elemT (cfgP fun _ => none)) = some 48 := by kernel_rfl
    have h1 : ((#[37, 37] : Array TypeId)[1]?).bind (cfgP fun _ => none).und = some (.slice 48) := by kernel_rfl
    have hz : zeroA (cfgP fun _ => none) 48 = some z6 := by kernel_rfl
    have hzl : z6.cells.length = 6 := rfl
    have hc : (cfgP fun _ => none).csz 48 = some 6 := by kernel_rfl
    cases b <;> simp only [nilm, if_true, Bool.false_eq_true, if_false, appXA, h0, h1, hz, hc, hzl, appendX, elems] <;> rw [if_pos ⟨hy, room_48 (by simp)⟩] <;> rfl
  obtain ⟨r, hr⟩ : ∃ r, sliceA (cfgP fun _ => none) 37 (nilm b) (some (.v (.int .i64 0))) none none = some r := by
    cases b
    · exact ⟨_, (by kernel_rfl : sliceA (cfgP fun _ => none) 37 (.v (.slice none 0 0)) (some (.v (.int .i64 0))) none none = some (.v (.slice none 0 0)))⟩
    · exact ⟨_, (by kernel_rfl : sliceA (cfgP fun _ => none) 37 (.cl true []) (some (.v (.int .i64 0))) none none = some (.cl true []))⟩
  have nb : nbD 79 (some 25) = true := rfl
  have lx := nilm_len (prim := fun _ => none) b
  have lc : lenA (cfgP fun _ => none) #[37] [.cl true [y]] = some (.v (.int .i64 1)) := len_cl (e := 48) (by kernel_rfl)
  obtain ⟨x, hx⟩ : ∃ x, nilm b = x := ⟨_, rfl⟩
  obtain ⟨H, hH⟩ : ∃ H, nH [b0, b1] = H := ⟨_, rfl⟩
  obtain ⟨H', hH'⟩ : ∃ H', nH [b0, b1, ⟨0, 6, [y]⟩] = H' := ⟨_, rfl⟩
  rw [hH, hH', hx] at q
  rw [hx] at hr lx
  rw [hH, hH', hx]
  refine call_of_wk (call := noCall) (fn := Tryd.f79) (rs := [.tmp 6]) cokN noCall_ok (fns_cfg Tryd.func79 rfl) rfl rfl ?_
  intro env hl0 hargs
  have hn : env.length = 95 := hl0
  have h0 := hargs 0 _ rfl
  have h1 := hargs 1 _ rfl
  have h2 := hargs 2 _ rfl
  clear hargs hl0
  refine wkT_of ?_
  rw [fe_self hn]
  (try simp -dsimp (disch := omega) only [h0, h1, h2, hr, lx, lc, nb, BEq.rfl, appB_t, q, AS, avals, apairs, bareP, AV.bare, AV.bares, Nat.reduceEqDiff, Nat.reduceLT, Nat.reduceAdd, ↓reduceIte, reduceCtorEq, resA, resA1, resVal, Nat.reduceLeDiff, nb_cfg, Nat.reduceBEq, AX, Int.reduceLT, Int.reduceLE, Int.reduceEq, Int.reduceAdd, Int.reduceSub, Int.reduceMul, Int.reduceNeg, Int.reduceNe])
noncomputable def in0T := relT 79 (fun p : Bool × Blk × Blk × AV => p.2.2.2.cells.length = 6) (fun p => [nilm p.1, .v (.int .i64 0), .cl true [p.2.2.2]]) (fun p => nH [p.2.1, p.2.2.1]) (fun _ => .ex 2 0 6 0 1) (fun p => nH [p.2.1, p.2.2.1, ⟨0, 6, [p.2.2.2]⟩])
theorem in0T_ok : CallsOk (cfgP fun _ => none) in0T := relT_ok (fns_cfg Tryd.func79 rfl) rfl fun p h => ins_nil p.1 h
theorem in0T_eq {b : Bool} {b0 b1 : Blk} {y : AV} (hy : y.cells.length = 6) : in0T 79 [nilm b, .v (.int .i64 0), .cl true [y]] (nH [b0, b1]) = some (.ex 2 0 6 0 1, nH [b0, b1, ⟨0, 6, [y]⟩]) :=
  relT_eq (f0 := 79) (X := fun p : Bool × Blk × Blk × AV => p.2.2.2.cells.length = 6) (a := fun p => [nilm p.1, .v (.int .i64 0), .cl true [p.2.2.2]]) (h := fun p => nH [p.2.1, p.2.2.1]) (r := fun _ => .ex 2 0 6 0 1) (h' := fun p => nH [p.2.1, p.2.2.1, ⟨0, 6, [p.2.2.2]⟩]) (fun p q _ _ ha hh => by
    obtain ⟨b, b0, b1, y⟩ := p
    obtain ⟨c, c0, c1, z⟩ := q
    injection ha with _ ha
    injection ha with _ ha
    injection ha with a2 _
    injection a2 with _ a2
    injection a2 with a2 _
    have hh' : nH [b0, b1] = nH [c0, c1] := hh
    injection hh' with _ hb
    injection hb with e0 hb
    injection hb with e1 _
    have a3 : y = z := a2
    subst a3 e0 e1
    exact ⟨rfl, rfl⟩) (b, b0, b1, y) hy
end Go.Proofs.YtjejeijldllloaaDoor

/- Chapter 2: Set with a new key: its walk. -/
namespace Go.Proofs.YtjejeijldllloaaDoor
open Go.AM
/-- Where a member goes into what rises. -/
def insK (p : List UInt8 × GV) : List (List UInt8 × GV) → List (List UInt8 × GV)
  | [] => [p]
  | y :: r => if bl y.1 p.1 = true then y :: insK p r else if y.1 = p.1 then p :: r else p :: y :: r
theorem fms_insK : ∀ {m : List (List UInt8 × GV)} {es : List E} {p : List UInt8 × GV} {q : E}, FMs m (es.map enc) → FMp p (enc q) → FMs (insK p m) ((insR q es).map enc)
  | [], [], _, _, _, hp => ⟨_, _, rfl, hp, rfl⟩
  | [], e :: es, _, _, h, _ => by cases (show (e :: es).map enc = [] from h)
  | p :: r, [], _, _, h, _ => by obtain ⟨y, ys, e, _⟩ := h; cases e
  | p :: r, e :: es, a, q, h, hp => by
    obtain ⟨y, ys, h0, h1, h2⟩ := h
    injection h0 with h3 h4
    subst h3 h4
    have k1 := fmp_key h1
    have k2 := fmp_key hp
    rw [insK, insR, k1, k2]
    split
    · exact ⟨_, _, rfl, h1, fms_insK h2 hp⟩
    · split
      · exact ⟨_, _, rfl, hp, h2⟩
      · exact ⟨_, _, rfl, hp, _, _, rfl, h1, h2⟩
theorem insK_len (p : List UInt8 × GV) : ∀ m, (insK p m).length ≤ m.length + 1
  | [] => by simp [insK]
  | y :: r => by
    have := insK_len p r
    rw [insK]
    split
    · simp only [List.length_cons]; omega
    · split <;> simp only [List.length_cons] <;> omega
def GV.putG (key : List UInt8) (w : GV) : GV → GV
  | .mk k n s l m => if k = 5 then .mk k n s l (insK (key, w) m) else .mk k n s l m
def putR (x : AV) (es : List E) : AV := match x with
  | .agg [k, n, s, L, _] => .agg [k, n, s, L, .ro (es.map enc)]
  | y => y
/-- A key that is not there stands behind all that are less. -/
theorem insR_new {es : List E} {z : E} (hs : Str es) (hn : ∀ q ∈ es, q.1 ≠ z.1) : insR z es = insL es (low (es.map Prod.fst) z.1) z := by
  obtain ⟨h1, h2⟩ : (∀ (j : Nat) (y : E), j < low (es.map Prod.fst) z.1 → es[j]? = some y → bl y.1 z.1 = true) ∧ ∀ y, es[low (es.map Prod.fst) z.1]? = some y → bl y.1 z.1 = false := by
    clear hs hn
    induction es with
    | nil => exact ⟨fun j y _ h => (by cases h), fun y h => (by cases h)⟩
    | cons e r ih =>
      cases hb : bl e.1 z.1 with
      | false =>
        have hl : low ((e :: r).map Prod.fst) z.1 = 0 := by unfold low; rw [List.map_cons, List.takeWhile_cons_of_neg (by simp [hb])]; rfl
        rw [hl]
        exact ⟨fun j y hj => by omega, fun y hy => by injection hy with hy; rw [← hy]; exact hb⟩
      | true =>
        have hl : low ((e :: r).map Prod.fst) z.1 = low (r.map Prod.fst) z.1 + 1 := by unfold low; rw [List.map_cons, List.takeWhile_cons_of_pos (by simp [hb])]; rfl
        rw [hl]
        refine ⟨fun j y hj hy => ?_, fun y hy => ih.2 y hy⟩
        cases j with
        | zero => injection hy with hy; rw [← hy]; exact hb
        | succ j => exact ih.1 j y (by omega) hy
  have hle : low (es.map Prod.fst) z.1 ≤ es.length := by
    have := (List.takeWhile_sublist (fun x => bl x z.1) (l := es.map Prod.fst)).length_le
    rw [List.length_map] at this
    exact this
  rw [insR_at z es _ h1 hle h2, if_neg]
  · rfl
  · intro h
    obtain ⟨y, hy, he⟩ := Option.map_eq_some_iff.1 h
    exact hn y (List.mem_of_getElem? hy) he
theorem low_le (es : List E) (k : List UInt8) : low (es.map Prod.fst) k ≤ es.length := by
  have := (List.takeWhile_sublist (fun x => bl x k) (l := es.map Prod.fst)).length_le
  rw [List.length_map] at this
  exact this
structure Sn where
  v : GV
  x : AV
  es : List E
  key : List UInt8
  w : GV
  ys : List AV
structure Sn.ok (p : Sn) : Prop where
  f : FV p.v p.x
  s : p.v.sml
  r : p.v.rise
  k : p.v.kind = 5
  m : memsA p.x = p.es.map enc
  l : p.es.length < 1000000000
  w : FV p.w (.agg p.ys)
  kl : p.key.length ≤ 9223372036854775807
def Sn.args (p : Sn) : List AV := [p.x, str p.key, .agg p.ys]
def Sn.res (p : Sn) : AV := putR p.x (insR (p.key, p.ys) p.es)
theorem Sn.facts {p : Sn} (h : p.ok) : ∃ n s l m L M, p.v = .mk 5 n s l m ∧ p.x = .agg [.v (.int .i64 5), .v (.int .i64 n), str s, L, M] ∧ elems M = some (p.es.map enc) ∧ slK M ∧ FMs m (p.es.map enc) ∧ okL p.es ∧ (∀ q ∈ p.es, okT q) ∧ Str p.es ∧ p.es.map Prod.fst = m.map Prod.fst := by
  obtain ⟨v, x, es, key, w, ys⟩ := p
  obtain ⟨hf, hs, hr, hk, hm, hl, hw⟩ := h
  simp only at hf hs hr hk hm hl hw ⊢
  cases v with
  | mk k n s l m =>
    have k5 : k = 5 := hk
    subst k5
    obtain ⟨L, M, xs, zs, rfl, hL, hM, k1, k2, b1, b2, f1, f2, sl, hl', hm', hv, hwm⟩ := hf
    have hys : zs = es.map enc := by simpa [memsA, hM] using hm
    subst hys
    obtain ⟨es', hes, ho, hT⟩ := fms_encs hwm
    obtain rfl := encs_inj hes
    have hks := fms_keys hwm
    exact ⟨n, s, l, m, L, M, rfl, rfl, hM, k2, hwm, ho, fun q hq => (hT q hq).1, str_keys (by rw [hks]; exact List.pairwise_map.2 (hr rfl)), hks⟩
theorem Sn.res_fv {p : Sn} (h : p.ok) : FV (GV.putG p.key p.w p.v) p.res := by
  obtain ⟨n, s, l, m, L, M, hv, hx, hM, hk2, hwm, ho, hT, hstr, hks⟩ := Sn.facts h
  have hf := h.f
  have hfm : FMp (p.key, p.w) (enc (p.key, p.ys)) := ⟨p.ys, rfl, h.kl, h.w⟩
  have hset := fms_insK hwm hfm
  have hml : m.length = p.es.length := by rw [← hwm.len, List.length_map]
  have hl := h.l
  unfold Sn.res
  rw [hv, hx] at hf ⊢
  obtain ⟨L', M', xs, zs, e, hL, hM', k1, k2, b1, b2, f1, f2, sl, hl', hm', hvv, _⟩ := hf
  injection e with e
  injection e with _ e
  injection e with _ e
  injection e with _ e
  injection e with e1 e
  injection e with e2 _
  subst e1 e2
  exact ⟨L, _, xs, _, rfl, hL, rfl, k1, .inr ⟨rfl, rfl⟩, b1, rfl, f1, rfl, sl, hl', by have := insK_len (p.key, p.w) m; omega, hvv, hset⟩
theorem o_st2g {prim : FuncId → Option (List AV → Option AV)} {b0 b1 : Blk} {es : List E} {i g : Nat} {key : List UInt8} {cs ys : List AV} (hi : es[i]? = some (key, cs)) (hc5 : cs.length = 5) (hy5 : ys.length = 5) (hf : ys.all AV.flat = true) : storeA (cfgP prim) 39 2 g i 1 (.agg ys) (nH [b0, b1, ⟨g, 6, es.map enc⟩]) = some (nH [b0, b1, ⟨g, 6, (es.set i (key, ys)).map enc⟩]) := by
  have hc : (cfgP prim).csz 39 = some 5 := by kernel_rfl
  have hb : blkAt (nH [b0, b1, ⟨g, 6, es.map enc⟩]) 2 g = some ⟨g, 6, es.map enc⟩ := by simp [blkAt, nH]
  have hg := HB_get hi
  have hs : setCells (enc (key, cs)) 1 (AV.agg ys).cells = some (enc (key, ys)) := by
    show (if 1 + ys.length ≤ (str key :: cs).length then some (AV.agg ((str key :: cs).take 1 ++ ys ++ (str key :: cs).drop (1 + ys.length))) else none) = _
    rw [if_pos (by rw [List.length_cons]; omega), List.drop_of_length_le (by rw [List.length_cons]; omega)]
    simp [enc]
  have hcd : some (AV.agg ys).cells.length = (cfgP prim).csz 39 ∧ (AV.agg ys).cells.all AV.flat = true := ⟨by rw [hc]; exact congrArg some hy5, hf⟩
  simp only [storeA, hb, hg]
  rw [if_pos hcd, hs]
  simp only [Option.map_some, nH, List.map_set]
  rfl
theorem mixg {prim : FuncId → Option (List AV → Option AV)} {b g i len : Nat} {k : IntKind} (h : i < len) : indexAddrA (cfgP prim) 37 (.ex b g 6 0 len) (.v (.int k (i : Int))) = some (.ptr b g i 0) := by
  have h0 : (0 : Int) ≤ i := by omega
  have hu : (cfgP prim).und 37 = some (.slice 48) := by kernel_rfl
  have hc : (cfgP prim).csz 48 = some 6 := by kernel_rfl
  simp only [indexAddrA, idx, h0, if_true, hu, hc, Int.toNat_natCast, h, and_self, Nat.zero_add]
theorem putR_thaw {k n s L M : AV} {es : List E} {H : Hp} {b g : Nat} (hb : blkAt H b g = some ⟨g, 6, es.map enc⟩) (hT : ∀ q ∈ es, okT q) (h1 : ∀ j, AV.thaw H (j + 1) k = some k) (h2 : ∀ j, AV.thaw H (j + 1) n = some n) (h3 : ∀ j, AV.thaw H (j + 1) s = some s) (h4 : ∀ j, AV.thaw H (j + 1) L = some L) :
    ∃ N, AV.thaw H N (.agg [k, n, s, L, .ex b g 6 0 es.length]) = some (putR (.agg [k, n, s, L, M]) es) := by
  have ht := thaws_enc (H := H) (n := 0) hT
  obtain ⟨N, hN⟩ : ∃ N, es.length + 0 + 10 = N := ⟨_, rfl⟩
  rw [hN] at ht
  have h5 : AV.thaw H (N + 1) (.ex b g 6 0 es.length) = some (.ro (es.map enc)) := by
    have h2 : 0 + es.length ≤ (es.map enc).length ∧ True := ⟨by simp, trivial⟩
    rw [AV.thaw]
    simp only [hb]
    rw [if_pos h2, List.drop_zero, List.take_of_length_le (by simp), ht]
    rfl
  refine ⟨N + 7, ?_⟩
  show (AV.thaws H (N + 6) [k, n, s, L, .ex b g 6 0 es.length]).map AV.agg = _
  rw [AV.thaws, h1, AV.thaws, h2, AV.thaws, h3, AV.thaws, h4, AV.thaws, h5, AV.thaws]
  simp only [putR, Option.map_some]
set_option maxHeartbeats 8000000 in
set_option maxRecDepth 100000 in
theorem setN_ok (p : Sn) (hp : p.ok) (hnf : idxG p.v p.key = none) : PureOk (cfgP se1) 40 p.args p.res := by
  obtain ⟨n, s, l, m, L, M, hv, hx, hM, hk2, hwm, ho, hT, hstr, hks⟩ := Sn.facts hp
  have qp := plQ_eq (p := ⟨p.v, p.x, p.key⟩) ⟨hp.f, hp.s, hp.r⟩
  have hf := hp.f
  have hr := hp.r
  have hl := hp.l
  have hw := hp.w
  have hres : p.res = putR p.x (insR (p.key, p.ys) p.es) := rfl
  obtain ⟨v, x, es, key, w, ys⟩ := p
  simp only at hv hx hM hwm hstr hks ho hT hf hr hl hw hnf hres qp
  subst hv hx
  have hb := hf.bare
  have hfl0 := hf.fl
  have hfv := hf
  obtain ⟨L', M', xs, zs, e, hL, hM', k1, k2, b1, b2, f1, f2, sl, hl', hm', hvv, hww⟩ := hf
  injection e with e
  injection e with _ e
  injection e with _ e
  injection e with _ e
  injection e with e1 e
  injection e with e2 _
  subst e1 e2
  obtain ⟨lo, hlo⟩ : ∃ lo, low (es.map Prod.fst) key = lo := ⟨_, rfl⟩
  have hloL : lo ≤ es.length := by rw [← hlo]; exact low_le es key
  have hpl : plQ [.agg [.v (.int .i64 5), .v (.int .i64 n), str s, L, M], str key] = some (.tup [.v (.int .i64 (lo : Int)), .v (.bool false)]) := by
    refine qp.trans (congrArg some ((if_pos rfl).trans ?_))
    rcases place_idx (k := 5) (n := n) (s := s) (l := l) rfl (hr rfl) key with ⟨h1, h2⟩ | ⟨h1, h2⟩
    · rw [hnf] at h2
      cases h2
    · show AV.tup [.v (.int .i64 (low (m.map Prod.fst) key : Int)), .v (.bool (hasK (m.map Prod.fst) key))] = _
      rw [h1, ← hks, hlo]
  have hnew : ∀ q ∈ es, q.1 ≠ key := by
    intro q hq he
    rcases idxG_none hnf with h | h
    · exact h rfl
    · have hq2 : q.1 ∈ m.map Prod.fst := by rw [← hks]; exact List.mem_map_of_mem hq
      obtain ⟨pm, hpm, hpe⟩ := List.mem_map.1 hq2
      obtain ⟨j, hj⟩ := List.mem_iff_getElem?.1 hpm
      exact h j pm hj (hpe.trans he)
  have hins : insR (key, ys) es = insL es lo (key, ys) := by rw [insR_new (z := (key, ys)) hstr hnew, hlo]
  rw [hins] at hres
  have hz : okE (key, zE.2) := ⟨zE_ok.1, zE_ok.2.1, zE_ok.2.2⟩
  have hget : (insL es lo (key, zE.2))[lo]? = some (key, zE.2) := by
    unfold insL
    rw [List.getElem?_append_right (by simp; omega)]
    simp [List.length_take, Nat.min_eq_left hloL]
  have hset : (insL es lo (key, zE.2)).set lo (key, ys) = insL es lo (key, ys) := by
    unfold insL
    have : lo = (es.take lo).length := by simp [List.length_take, Nat.min_eq_left hloL]
    conv => lhs; arg 2; rw [this]
    rw [List.set_append_right _ _ (Nat.le_refl _)]
    simp
  have hy5 := hw.l5
  have hyf := hw.fl
  have hyb := hw.bare
  have r3 : (cfgP se1).roBox 40 3 = false := rfl
  have r5 : (cfgP se1).roBox 40 5 = true := rfl
  have r6 : (cfgP se1).roBox 40 6 = false := rfl
  have hbs := hfv.bs
  obtain ⟨cs, hcs⟩ : ∃ cs : List AV, cs = [.v (.int .i64 5), .v (.int .i64 n), str s, L, M] := ⟨_, rfl⟩
  have l5 : cs.length = 5 := by rw [hcs]; rfl
  have g0 : cs[0]? = some (.v (.int .i64 5)) := by rw [hcs]; rfl
  have g4 : cs[4]? = some M := by rw [hcs]; rfl
  have hfl : cs.all AV.flat = true := by rw [hcs]; exact hfl0
  obtain ⟨n1, hn1⟩ : ∃ n1, es.length + 1 = n1 := ⟨_, rfl⟩
  obtain ⟨T, hTok, M1, ext, g, m1c, m1f, c1, c2⟩ : ∃ T : FuncId → List AV → Hp → Option (AV × Hp), CallsOk (cfgP se1) T ∧ ∃ (M1 : AV) (ext : List Blk) (g : Nat), M1.cells = [M1] ∧ M1.flat = true ∧
      T 72 [M] (nH [⟨0, 5, [.agg cs]⟩, ⟨0, 5, [z5]⟩]) = some (M1, nH (⟨0, 5, [.agg cs]⟩ :: ⟨0, 5, [z5]⟩ :: ext)) ∧
      T 79 [M1, .v (.int .i64 (lo : Int)), .cl true [enc (key, zE.2)]] (nH (⟨0, 5, [.agg [.v (.int .i64 5), .v (.int .i64 n), str s, L, M1]]⟩ :: ⟨0, 5, [z5]⟩ :: ext)) = some (.ex 2 g 6 0 n1, nH [⟨0, 5, [.agg [.v (.int .i64 5), .v (.int .i64 n), str s, L, M1]]⟩, ⟨0, 5, [z5]⟩, ⟨g, 6, (insL es lo (key, zE.2)).map enc⟩]) := by
    by_cases he : es = []
    · subst he
      have lo0 : lo = 0 := by simpa using hloL
      subst lo0
      refine ⟨orT c0T in0T, orT_ok (calls_prim c0T_ok) (calls_prim in0T_ok), nilm (someSl M), [], 0, ?_, ?_, orT_l (c0T_eq hM k2), ?_⟩
      · cases someSl M <;> rfl
      · cases someSl M <;> rfl
      · rw [← hn1]
        exact orT_r (relT_none (by decide)) (in0T_eq (by rw [enc_cells, List.length_cons, hz.1]))
    · obtain ⟨e0, es0, hes⟩ : ∃ e0 es0, es = e0 :: es0 := by
        cases es with
        | nil => exact absurd rfl he
        | cons a b => exact ⟨a, b, rfl⟩
      refine ⟨orT clT inT, orT_ok (calls_prim clT_ok) (calls_prim inT_ok), .ex 2 0 6 0 es.length, [⟨0, 6, es.map enc⟩], insG 0, rfl, rfl, orT_l ?_, orT_r (relT_none (by decide)) ?_⟩
      · have := clT_eq ⟨nH [⟨0, 5, [.agg cs]⟩, ⟨0, 5, [z5]⟩], M, e0, es0⟩ ⟨by rw [hM, hes], by rw [← hes]; exact ho, by show (e0 :: es0).length < _; rw [← hes]; omega⟩
        simp only [← hes] at this
        exact this
      · rw [← hn1]
        refine inT_eq ⟨[.v (.int .i64 5), .v (.int .i64 n), str s, L, .ex 2 0 6 0 es.length], z5l, es, lo, (key, zE.2)⟩ ⟨?_, ?_, ho, hz, hloL, by show es.length < _; omega⟩
        · intro c hc
          simp only [List.mem_cons, List.not_mem_nil, or_false] at hc
          rcases hc with rfl | rfl | rfl | rfl | rfl
          · exact .inl rfl
          · exact .inl rfl
          · exact .inl (bare_s ..)
          · exact .inl b1
          · exact .inr ⟨2, 0, es.length, by omega, rfl⟩
        · intro c hc
          simp only [z5l, List.mem_cons, List.not_mem_nil, or_false] at hc
          rcases hc with rfl | rfl | rfl | rfl | rfl <;> exact .inl rfl
  obtain ⟨cs1, hcs1⟩ : ∃ cs1 : List AV, cs1 = [.v (.int .i64 5), .v (.int .i64 n), str s, L, M1] := ⟨_, rfl⟩
  rw [← hcs1] at c2
  have s1 := o_st (prim := se1) (t := 37) (j := 4) (x := M1) (cs := cs) (cs' := cs1) (⟨0, 5, [z5]⟩ :: ext) (by kernel_rfl) m1c m1f (by omega) (by rw [hcs, hcs1]; rfl)
  have l51 : cs1.length = 5 := by rw [hcs1]; rfl
  have g41 : cs1[4]? = some M1 := by rw [hcs1]; rfl
  obtain ⟨cs', hcs'⟩ : ∃ cs' : List AV, cs' = [.v (.int .i64 5), .v (.int .i64 n), str s, L, .ex 2 g 6 0 n1] := ⟨_, rfl⟩
  have s1' := o_st (prim := se1) (t := 37) (j := 4) (x := .ex 2 g 6 0 n1) (cs := cs1) (cs' := cs') [⟨0, 5, [z5]⟩, ⟨g, 6, (insL es lo (key, zE.2)).map enc⟩] (by kernel_rfl) rfl rfl (by omega) (by rw [hcs1, hcs']; rfl)
  have l5' : cs'.length = 5 := by rw [hcs']; rfl
  have g4' : cs'[4]? = some (.ex 2 g 6 0 n1) := by rw [hcs']; rfl
  have hfl' : cs'.all AV.flat = true := by
    rw [hcs']
    simp only [List.all_cons, List.all_nil, f1]
    rfl
  have s2 := o_st2g (prim := se1) (g := g) (b0 := ⟨0, 5, [.agg cs']⟩) (b1 := ⟨0, 5, [z5]⟩) hget zE_ok.1 hy5 hyf
  rw [hset] at s2
  have s3 := o_st1 (prim := se1) (b0 := ⟨0, 5, [.agg cs']⟩) [⟨g, 6, (insL es lo (key, ys)).map enc⟩] l5' hfl'
  have mi := mixg (prim := se1) (b := 2) (g := g) (i := lo) (len := n1) (k := .i64) (by omega)
  have hTn : ∀ q ∈ insL es lo (key, ys), okT q := fun q hq => by
    unfold insL at hq
    rcases List.mem_append.1 hq with h | h
    · exact hT q (List.mem_of_mem_take h)
    · rcases List.mem_cons.1 h with rfl | h
      · exact okT_of hw
      · exact hT q (List.mem_of_mem_drop h)
  have hth : ∃ N, AV.thaw (nH [⟨0, 5, [.agg cs']⟩, ⟨0, 5, [.agg cs']⟩, ⟨g, 6, (insL es lo (key, ys)).map enc⟩]) N (.agg cs') = some (putR (.agg [.v (.int .i64 5), .v (.int .i64 n), str s, L, M]) (insL es lo (key, ys))) := by
    obtain ⟨H, hH⟩ : ∃ H, nH [⟨0, 5, [.agg cs']⟩, ⟨0, 5, [.agg cs']⟩, ⟨g, 6, (insL es lo (key, ys)).map enc⟩] = H := ⟨_, rfl⟩
    have hbk : blkAt H 2 g = some ⟨g, 6, (insL es lo (key, ys)).map enc⟩ := by rw [← hH]; simp [blkAt, nH]
    have e1 : ∀ (x : Value) (j : Nat), AV.thaw H (j + 1) (.v x) = some (.v x) := fun _ _ => rfl
    have e2 : ∀ (x : List UInt8) (j : Nat), AV.thaw H (j + 1) (str x) = some (str x) := fun _ _ => rfl
    have hn2 : n1 = (insL es lo (key, ys)).length := by rw [insL_len, hn1]
    rw [hH, hcs', hn2]
    exact putR_thaw hbk hTn (fun j => e1 _ j) (fun j => e1 _ j) (fun j => e2 _ j) (fun j => thaw_sl k1 b1 H j)
  obtain ⟨N, hth⟩ := hth
  rw [hres]
  show PureOk (cfgP se1) 40 [.agg [.v (.int .i64 5), .v (.int .i64 n), str s, L, M], str key, .agg ys] (putR (.agg [.v (.int .i64 5), .v (.int .i64 n), str s, L, M]) (insL es lo (key, ys)))
  obtain ⟨R, hR⟩ : ∃ R, putR (.agg [.v (.int .i64 5), .v (.int .i64 n), str s, L, M]) (insL es lo (key, ys)) = R := ⟨_, rfl⟩
  rw [hR] at hth ⊢
  rw [← hcs] at hpl hbs hb ⊢
  have bk := build_key (prim := se1) (k := key)
  have bs1 := bsM (prim := se1) hz
  have hbe := enc_bare hz
  obtain ⟨EN, hEN⟩ : ∃ EN, enc (key, zE.2) = EN := ⟨_, rfl⟩
  rw [hEN] at bk bs1 c2 hbe
  obtain ⟨B1, hB1⟩ : ∃ B1, (insL es lo (key, zE.2)).map enc = B1 := ⟨_, rfl⟩
  rw [hB1] at c2 s1' s2
  clear hcs hcs' hcs1 hres hR hTn hfv hget hset hins
  refine pure_of_wk (call := T) (fn := Tryd.f40) (rs := [.cell 6 39]) se1_ok hTok (fns_cfg Tryd.func40 rfl) rfl rfl ?_
  intro env hl0 hargs
  have hn : env.length = 40 := hl0
  have h0 := hargs 0 _ rfl
  have h1 := hargs 1 _ rfl
  have h2 := hargs 2 _ rfl
  clear hargs hl0
  refine wkT_of ?_
  rw [fe_self hn]
  (try simp -dsimp (disch := omega) only [h0, h1, h2, r3, r5, r6, g39, bx_o l5 hfl, bxt_ro hyb hyf, o_al1, gfp0, gp4, vp3, vp37, o_blk, o_blk1, List.getElem?_cons_zero, cellsA, g0, g4, g4', g41, vp39 l5, vp39 l5', vp39 l51, vp39 hy5, ct_prim se1_78, hbs, bare_s, hpl, ct_own (C := cfgP se1) (f := 72) rfl rfl, ct_own (C := cfgP se1) (f := 79) rfl rfl, c1, c2, s1, s1', bk, hbe, bs1, mi, mf1p, s2, s3, Bool.not_true, Bool.not_false, AS, avals, apairs, bareP, AV.bare, AV.bares, Nat.reduceEqDiff, Nat.reduceLT, Nat.reduceAdd, ↓reduceIte, reduceCtorEq, resA, resA1, resVal, Nat.reduceLeDiff, nb_cfg, Nat.reduceBEq, AX, Int.reduceLT, Int.reduceLE, Int.reduceEq, Int.reduceAdd, Int.reduceSub, Int.reduceMul, Int.reduceNeg, Int.reduceNe])
  exact ⟨N, hth⟩
end Go.Proofs.YtjejeijldllloaaDoor

/- Chapter 2: IntAt, the program's and the document's. -/
namespace Go.Proofs.YtjejeijldllloaaDoor
open Go.AM
end Go.Proofs.YtjejeijldllloaaDoor

/- Chapter 2: Set, the program's and the document's, of whatever value. -/
namespace Go.Proofs.YtjejeijldllloaaDoor
open Go.AM
structure Sn.okA (p : Sn) : Prop where
  f : FV p.v p.x
  s : p.v.sml
  r : p.v.rise
  m : memsA p.x = p.es.map enc
  l : p.es.length < 1000000000
  w : FV p.w (.agg p.ys)
  kl : p.key.length ≤ 9223372036854775807
theorem Sn.okA.ok {p : Sn} (h : p.okA) (hk : p.v.kind = 5) : p.ok := ⟨h.f, h.s, h.r, hk, h.m, h.l, h.w, h.kl⟩
def Sn.resA (p : Sn) : AV := if p.v.kind = 5 then p.res else p.x
theorem putG_ne {v : GV} {key : List UInt8} {w : GV} (h : v.kind ≠ 5) : GV.putG key w v = v := by
  cases v with
  | mk k n s l m =>
    have hk : k ≠ 5 := h
    exact if_neg hk
theorem Sn.resA_fv {p : Sn} (h : p.okA) : FV (GV.putG p.key p.w p.v) p.resA := by
  unfold Sn.resA
  by_cases hk : p.v.kind = 5
  · rw [if_pos hk]
    exact Sn.res_fv (h.ok hk)
  · rw [if_neg hk, putG_ne hk]
    exact h.f
/-- A key that is there: the same as in its place. -/
theorem Sn.found {p : Sn} (h : p.ok) {i : Nat} (hi : idxG p.v p.key = some i) : St.ok ⟨p.v, p.x, p.es, i, p.key, p.w, p.ys⟩ ∧ p.res = St.res ⟨p.v, p.x, p.es, i, p.key, p.w, p.ys⟩ := by
  have hst : St.ok ⟨p.v, p.x, p.es, i, p.key, p.w, p.ys⟩ := ⟨h.f, h.s, h.r, h.m, hi, by have := h.l; show p.es.length < _; omega, h.w⟩
  refine ⟨hst, ?_⟩
  obtain ⟨n, s, l, m, L, M, hv, hx, hM, hwm, hsome, hil, ⟨c0, hcs0⟩, ho, hT⟩ := St.facts hst
  obtain ⟨_, _, _, _, _, _, _, _, _, _, _, _, _, hstr, _⟩ := Sn.facts h
  simp only at hx hcs0 hil
  have hins : insR (p.key, p.ys) p.es = p.es.set i (p.key, p.ys) := by
    rw [insR_at (p.key, p.ys) p.es i (fun j y hj hy => by have := str_get hstr hy hcs0 hj; exact this) (by omega) (fun y hy => by rw [hcs0] at hy; injection hy with hy; rw [← hy]; exact bl_irrefl _), if_pos (by rw [hcs0]; rfl)]
  unfold Sn.res St.res
  rw [hins]
  simp only [hx, putR, keepR, hsome, if_true, St.new]
set_option maxHeartbeats 4000000 in
set_option maxRecDepth 100000 in
theorem setX_ok (p : Sn) (hp : p.okA) (hk : p.v.kind ≠ 5) : PureOk (cfgP se1) 40 p.args p.x := by
  obtain ⟨v, x, es, key, w, ys⟩ := p
  have hf := hp.f
  have hw := hp.w
  simp only at hf hw hk
  have hfv := hf
  have hy5 := hw.l5
  have hyf := hw.fl
  have hyb := hw.bare
  have r3 : (cfgP se1).roBox 40 3 = false := rfl
  have r5 : (cfgP se1).roBox 40 5 = true := rfl
  have r6 : (cfgP se1).roBox 40 6 = false := rfl
  cases v with
  | mk k n s l m =>
    obtain ⟨cs, rfl, l5, hbs, hfl⟩ := hf.shape
    have g0 : cs[0]? = some (.v (.int .i64 k)) := by
      obtain ⟨L, M, xs, ys, e, _⟩ := hf
      injection e with e
      rw [e]; rfl
    have dk : decide (k = 5) = false := decide_eq_false hk
    have st := o_st1 (prim := se1) (b0 := ⟨0, 5, [.agg cs]⟩) [] l5 hfl
    have hth := thaw_val hfv (nH [⟨0, 5, [.agg cs]⟩, ⟨0, 5, [.agg cs]⟩]) 12
    show PureOk (cfgP se1) 40 [.agg cs, str key, .agg ys] (.agg cs)
    refine pure_of_wk (call := noCall) (fn := Tryd.f40) (rs := [.cell 6 39]) se1_ok noCall_ok (fns_cfg Tryd.func40 rfl) rfl rfl ?_
    intro env hl0 hargs
    have hn : env.length = 40 := hl0
    have h0 := hargs 0 _ rfl
    have h1 := hargs 1 _ rfl
    have h2 := hargs 2 _ rfl
    clear hargs hl0
    refine wkT_of ?_
    rw [fe_self hn]
    (try simp -dsimp (disch := omega) only [h0, h1, h2, r3, r5, r6, g39, bx_o l5 hfl, bxt_ro hyb hyf, o_al1, gfp0, vp3, o_blk, o_blk1, List.getElem?_cons_zero, cellsA, g0, dk, vp39 l5, st, Bool.not_false, AS, avals, apairs, bareP, AV.bare, AV.bares, Nat.reduceEqDiff, Nat.reduceLT, Nat.reduceAdd, ↓reduceIte, reduceCtorEq, resA, resA1, resVal, Nat.reduceLeDiff, nb_cfg, Nat.reduceBEq, AX, Int.reduceLT, Int.reduceLE, Int.reduceEq, Int.reduceAdd, Int.reduceSub, Int.reduceMul, Int.reduceNeg, Int.reduceNe])
    exact ⟨20, hth⟩
theorem setA_ok (p : Sn) (hp : p.okA) : PureOk (cfgP se1) 40 p.args p.resA := by
  unfold Sn.resA
  by_cases hk : p.v.kind = 5
  · rw [if_pos hk]
    cases hi : idxG p.v p.key with
    | none => exact setN_ok p (hp.ok hk) hi
    | some i =>
      obtain ⟨h1, h2⟩ := Sn.found (hp.ok hk) hi
      rw [h2]
      exact set_ok _ h1
  · rw [if_neg hk]
    exact setX_ok p hp hk
theorem Sn.inj {p q : Sn} (hp : p.okA) (hq : q.okA) (e : p.args = q.args) : p.v = q.v ∧ p.x = q.x ∧ p.es = q.es ∧ p.key = q.key ∧ p.ys = q.ys := by
  injection e with e1 e
  injection e with e2 e
  injection e with e3 _
  injection e3 with e3
  have h1 := hp.f.rv
  rw [e1] at h1
  have hm := hp.m
  rw [e1, hq.m] at hm
  exact ⟨RV.uniq h1 hq.f.rv, e1, (encs_inj hm).symm, str_inj e2, e3⟩
noncomputable def saQ := relP Sn.okA Sn.args Sn.resA
theorem saQ_eq {p : Sn} (h : p.okA) : saQ p.args = some p.resA := relP_eq (X := Sn.okA) (a := Sn.args) (r := Sn.resA) (fun p q hp hq e => by
  obtain ⟨h1, h2, h3, h4, h5⟩ := Sn.inj hp hq e
  unfold Sn.resA Sn.res
  rw [h1, h2, h3, h4, h5]) p h
theorem saQ_ok : ∀ xs y, saQ xs = some y → PureOk (cfgP fun _ => none) 40 xs y := relP_ok (R := fun xs y => PureOk (cfgP fun _ => none) 40 xs y) fun p hp => pureOk_prim (setA_ok p hp)
/-! ### The document's -/
end Go.Proofs.YtjejeijldllloaaDoor

/- Chapter 2: plain facts of Set: what is light is not deep; what was put. -/
namespace Go.Proofs.YtjejeijldllloaaDoor
open Go.AM
theorem wts_each {most : Int} (m0 : 0 ≤ most) (m1 : most ≤ 1000000) : ∀ {d n : Int} {l : List GV}, GV.smls l → 0 ≤ d → d ≤ 71 → 1 ≤ n → n ≤ most → GV.wts most d n l ≤ most → ∀ p ∈ l, GV.wt most d p ≤ most
  | d, n, [], _, _, _, _, _, _, p, hp => by cases hp
  | d, n, q :: r, h, h0, h1, g0, g1, hw, p, hp => by
    obtain ⟨a1, a2⟩ := h
    rw [GV.wts] at hw
    split at hw
    · have b := wt_bnd m0 m1 a1 h0 h1
      rw [wrap64 (n := n + GV.wt most d q) (by omega) (by omega)] at hw
      have c := wts_bnd m0 m1 (n := n + GV.wt most d q) a2 h0 h1 (by omega) (by omega)
      rcases List.mem_cons.1 hp with rfl | hp
      · omega
      · exact wts_each m0 m1 a2 h0 h1 (by omega) (by omega) hw p hp
    · omega
theorem dws_le {b : Int} (hb : 0 ≤ b) : ∀ {l : List GV}, (∀ v ∈ l, v.dw ≤ b) → GV.dws l ≤ b
  | [], _ => hb
  | v :: r, h => by
    have h1 := h v (by simp)
    have h2 := dws_le hb (l := r) fun w hw => h w (by simp [hw])
    rw [GV.dws]
    omega
theorem dwm_le {b : Int} (hb : 0 ≤ b) : ∀ {l : List (List UInt8 × GV)}, (∀ v ∈ l, v.2.dw ≤ b) → GV.dwm l ≤ b
  | [], _ => hb
  | (k, v) :: r, h => by
    have h1 := h (k, v) (by simp)
    have h2 := dwm_le hb (l := r) fun w hw => h w (by simp [hw])
    have h1 : v.dw ≤ b := h1
    rw [GV.dwm, GV.dwp]
    omega
theorem dws_nn : ∀ {l : List GV}, 0 ≤ GV.dws l
  | [] => by simp [GV.dws]
  | v :: r => by
    have := dws_nn (l := r)
    rw [GV.dws]
    omega
theorem dwm_nn : ∀ {l : List (List UInt8 × GV)}, 0 ≤ GV.dwm l
  | [] => by simp [GV.dwm]
  | (k, v) :: r => by
    have := dwm_nn (l := r)
    rw [GV.dwm]
    omega
theorem dwm_mem : ∀ {l : List (List UInt8 × GV)} {p : List UInt8 × GV}, p ∈ l → p.2.dw ≤ GV.dwm l
  | (k, v) :: r, p, h => by
    rw [GV.dwm, GV.dwp]
    rcases List.mem_cons.1 h with rfl | h
    · show v.dw ≤ _; omega
    · have := dwm_mem h; omega
theorem smls_all : ∀ {l : List GV}, GV.smls l → ∀ v ∈ l, v.sml
  | v :: r, h, w, hw => by
    rcases List.mem_cons.1 hw with rfl | hw
    · exact h.1
    · exact smls_all h.2 w hw
/-- What is light is not deep. -/
theorem light_dw {most : Int} (m0 : 0 ≤ most) (m1 : most ≤ 1000000) : ∀ (N : Nat) {d : Int} {v : GV}, v.sz < N → v.sml → 0 ≤ d → d ≤ 71 → GV.wt most d v ≤ most → v.dw ≤ 71 - d
  | 0, _, _, hN, _, _, _, _ => by omega
  | N + 1, d, .mk k n s l m, hN, hs, h0, h1, hw => by
    by_cases hd : 70 < d
    · rw [GV.wt, if_pos hd, wrap64 (by omega) (by omega)] at hw
      omega
    obtain ⟨a1, a2, a3, a4, a5⟩ := hs
    rw [GV.wt, if_neg hd, wrap64 (by omega) (by omega)] at hw
    have b1 := wts_bnd m0 m1 (d := d + 1) (n := 1 + (s.length : Int)) a4 (by omega) (by omega) (by omega) (by omega)
    have b2 := wtm_bnd m0 m1 (d := d + 1) (n := GV.wts most (d + 1) (1 + (s.length : Int)) l) a5 (by omega) (by omega) (by omega) (by omega)
    have e1 := wts_each m0 m1 (d := d + 1) (n := 1 + (s.length : Int)) a4 (by omega) (by omega) (by omega) (by omega) (by omega)
    have e2 := wtm_each m0 m1 (d := d + 1) (n := GV.wts most (d + 1) (1 + (s.length : Int)) l) a5 (by omega) (by omega) (by omega) (by omega) hw
    have f1 : GV.dws l ≤ 70 - d := dws_le (by omega) fun v hv => by
      have hsz : v.sz < N := by
        obtain ⟨i, hi⟩ := List.getElem?_of_mem hv
        have := szs_get hi
        rw [GV.sz] at hN
        omega
      have := light_dw m0 m1 N hsz (smls_all a4 v hv) (by omega) (by omega) (e1 v hv)
      omega
    have f2 : GV.dwm m ≤ 70 - d := dwm_le (by omega) fun p hp => by
      obtain ⟨pk, pv⟩ := p
      have hsz : pv.sz < N := by
        obtain ⟨i, hi⟩ := List.getElem?_of_mem hp
        have := szm_get hi
        rw [GV.sz] at hN
        omega
      have he : GV.wt most (d + 1) pv ≤ most := e2 _ hp
      have hps : pv.sml := (smlm_all a5 (pk, pv) hp).2
      have := light_dw m0 m1 N hsz hps (by omega) (by omega) he
      show pv.dw ≤ _
      omega
    have g1 := dws_nn (l := l)
    have g2 := dwm_nn (l := m)
    rw [GV.dw]
    split
    · rw [wrap64 (by omega) (by omega)]; omega
    · split
      · rw [wrap64 (by omega) (by omega)]; omega
      · omega
/-! ### What was put -/
theorem insK_mem {p q : List UInt8 × GV} : ∀ {m : List (List UInt8 × GV)}, q ∈ insK p m → q = p ∨ q ∈ m
  | [], h => by simpa [insK] using h
  | y :: r, h => by
    rw [insK] at h
    split at h
    · rcases List.mem_cons.1 h with rfl | h
      · exact .inr List.mem_cons_self
      · rcases insK_mem h with h | h
        · exact .inl h
        · exact .inr (List.mem_cons_of_mem _ h)
    · split at h
      · rcases List.mem_cons.1 h with h | h
        · exact .inl h
        · exact .inr (List.mem_cons_of_mem _ h)
      · rcases List.mem_cons.1 h with h | h
        · exact .inl h
        · exact .inr h
theorem insK_rise (p : List UInt8 × GV) : ∀ {m : List (List UInt8 × GV)}, m.Pairwise (fun a b => bl a.1 b.1 = true) → (insK p m).Pairwise fun a b => bl a.1 b.1 = true
  | [], _ => List.pairwise_singleton _ _
  | y :: r, h => by
    obtain ⟨h1, h2⟩ := List.pairwise_cons.1 h
    rw [insK]
    split
    · rename_i hy
      refine List.pairwise_cons.2 ⟨fun z hz => ?_, insK_rise p h2⟩
      rcases insK_mem hz with rfl | hz
      · exact hy
      · exact h1 z hz
    · rename_i hy
      split
      · rename_i he
        exact List.pairwise_cons.2 ⟨fun z hz => by rw [← he]; exact h1 z hz, h2⟩
      · rename_i hne
        have hpy : bl p.1 y.1 = true := by
          cases hb : bl p.1 y.1 with
          | true => rfl
          | false => exact absurd (bl_tri (by simpa using hy) hb) hne
        refine List.pairwise_cons.2 ⟨fun z hz => ?_, h⟩
        rcases List.mem_cons.1 hz with rfl | hz
        · exact hpy
        · exact bl_trans hpy (h1 z hz)
theorem insK_drop (p : List UInt8 × GV) (f : List UInt8 → Bool) (hf : f p.1 = false) : ∀ m : List (List UInt8 × GV), (insK p m).filter (fun q => f q.1) = m.filter fun q => f q.1
  | [] => by rw [insK, List.filter_cons_of_neg (by simp [hf])]
  | y :: r => by
    rw [insK]
    split
    · rw [List.filter_cons, List.filter_cons, insK_drop p f hf r]
    · split
      · rename_i he
        rw [List.filter_cons_of_neg (by simp [hf]), List.filter_cons_of_neg (by simp [he, hf])]
      · rw [List.filter_cons_of_neg (by simp [hf])]
theorem pw_first {m : List (List UInt8 × GV)} (h : m.Pairwise fun a b => bl a.1 b.1 = true) {i j : Nat} {p q : List UInt8 × GV} (hi : m[i]? = some p) (hj : m[j]? = some q) (hji : j < i) : q.1 ≠ p.1 := by
  obtain ⟨a, rfl⟩ := List.getElem?_eq_some_iff.1 hi
  obtain ⟨b, rfl⟩ := List.getElem?_eq_some_iff.1 hj
  have := List.pairwise_iff_getElem.1 h j i b a hji
  intro e
  rw [e, bl_irrefl] at this
  cases this
theorem maym_utf : ∀ (m : List (List UInt8 × GV)) (o : Option (List UInt8)), GV.maym o m = true → ∀ p ∈ m, utfB p.1 = true
  | [], _, _, p, hp => by cases hp
  | (k, v) :: r, o, h, p, hp => by
    have h2 : utfB k = true ∧ GV.maym (some k) r = true := by
      cases o with
      | none =>
        rw [GV.maym] at h
        simp only [Bool.and_eq_true] at h
        exact ⟨h.1.1.1, h.2⟩
      | some q =>
        rw [GV.maym] at h
        simp only [Bool.and_eq_true] at h
        exact ⟨h.1.1.1, h.2⟩
    rcases List.mem_cons.1 hp with rfl | hp
    · exact h2.1
    · exact maym_utf r _ h2.2 p hp
end Go.Proofs.YtjejeijldllloaaDoor

/- ValueParts: what Get, Set, Keep, Drop, TextAt, IntAt, Same tell is as the document says. -/
namespace Go.Proofs.YtjejeijldllloaaDoor
open Go.AM
theorem textR_form (v : GV) (key : List UInt8) : ∃ s b, textR v key = .tup [str s, .v (.bool b)] := by
  unfold textR
  cases textG v key with
  | none => exact ⟨_, _, rfl⟩
  | some s => exact ⟨_, _, rfl⟩
theorem good_may {v : GV} (h : v.good = true) : v.may = true := by
  unfold GV.good at h
  exact (Bool.and_eq_true _ _ ▸ h).2
end Go.Proofs.YtjejeijldllloaaDoor

/- ValueSets: what was set is found. -/
namespace Go.Proofs.YtjejeijldllloaaDoor
open Go.AM
def tvA (s : List UInt8) : AV := .agg [.v (.int .i64 3), .v (.int .i64 0), str s, .v (.slice none 0 0), .v (.slice none 0 0)]
theorem tvA_fv {s : List UInt8} (h : s.length ≤ 9223372036854775807) : FV (.mk 3 0 s [] []) (tvA s) := ⟨.v (.slice none 0 0), .v (.slice none 0 0), [], [], rfl, rfl, rfl, .inl rfl, .inl rfl, rfl, rfl, rfl, rfl, h, by simp, by simp, rfl, rfl⟩
theorem tv_build {prim : FuncId → Option (List AV → Option AV)} {s : List UInt8} : buildA (cfgP prim) 39 [(0, .v (.int .i64 3)), (2, str s)] = some (tvA s) := by kernel_rfl
set_option maxRecDepth 100000 in
theorem text_ok (s : List UInt8) : PureOk (cfgP fun _ => none) 38 [str s] (tvA s) := by
  obtain ⟨X, hX⟩ : ∃ X, tvA s = X := ⟨_, rfl⟩
  have hb := tv_build (prim := fun _ => none) (s := s)
  have hl : X.cells.length = 5 := by rw [← hX]; rfl
  have hth : AV.thaw (nH [⟨0, 5, [X]⟩]) 20 X = some X := by rw [← hX]; rfl
  have hp : partA (cfgP fun _ => none) 39 X.cells 0 = some X := by rw [← hX]; exact vp39 rfl
  rw [hX] at hb ⊢
  obtain ⟨xs, hxs⟩ : ∃ xs, X = .agg xs := ⟨_, hX.symm⟩
  have l5 : xs.length = 5 := by rw [hxs] at hl; exact hl
  have xf : xs.all AV.flat = true := by
    have h : X.cells.all AV.flat = true := by rw [← hX]; rfl
    rw [hxs] at h
    exact h
  subst hxs
  have st := o_st0 (prim := fun _ => none) [] l5 xf
  have r2 : (cfgP fun _ => none).roBox 38 2 = false := rfl
  refine pure_of_wk (call := noCall) (fn := Tryd.f38) (rs := [.cell 2 39]) cokN noCall_ok (fns_cfg Tryd.func38 rfl) rfl rfl ?_
  intro env hl0 hargs
  have hn : env.length = 5 := hl0
  have h0 := hargs 0 _ rfl
  clear hargs hl0
  refine wkT_of ?_
  rw [fe_self hn]
  (try simp -dsimp (disch := omega) only [h0, r2, hb, o_al0, st, o_blk, List.getElem?_cons_zero, cellsA, vp39 l5, AS, avals, apairs, bareP, AV.bare, AV.bares, Nat.reduceEqDiff, Nat.reduceLT, Nat.reduceAdd, ↓reduceIte, reduceCtorEq, resA, resA1, resVal, Nat.reduceLeDiff, nb_cfg, Nat.reduceBEq, AX, Int.reduceLT, Int.reduceLE, Int.reduceEq, Int.reduceAdd, Int.reduceSub, Int.reduceMul, Int.reduceNeg, Int.reduceNe])
  exact ⟨20, hth⟩
noncomputable def tvQ := relP (fun s : List UInt8 => True) (fun s => [str s]) tvA
theorem tvQ_eq (s : List UInt8) : tvQ [str s] = some (tvA s) := relP_eq (X := fun s : List UInt8 => True) (a := fun s => [str s]) (r := tvA) (fun p q _ _ e => by
  injection e with e _
  rw [str_inj e]) s trivial
theorem tvQ_ok : ∀ xs y, tvQ xs = some y → PureOk (cfgP fun _ => none) 38 xs y := relP_ok (R := fun xs y => PureOk (cfgP fun _ => none) 38 xs y) fun s _ => text_ok s
section
variable {prim : FuncId → Option (List AV → Option AV)}
end
/-- A map's members, its value as it lies. -/
theorem G5_shape {m : List (List UInt8 × GV)} {x : AV} (h : FV (G5 m) x) : ∃ (vs : List AV) (es : List E) (M : AV), x = .agg vs ∧ vs.length = 5 ∧ AV.bares vs = some vs ∧ vs.all AV.flat = true ∧ vs[4]? = some M ∧ elems M = some (es.map enc) ∧ memsA x = es.map enc ∧ es.length = m.length := by
  obtain ⟨vs, e, h1, h2, h3⟩ := h.shape
  obtain ⟨L, M, xs, ys, e', _, hM, _, _, _, _, _, _, _, _, _, _, hw⟩ := h
  rw [e] at e'
  injection e' with e'
  obtain ⟨es, rfl, _, _⟩ := fms_encs hw
  refine ⟨vs, es, M, e, h1, h2, h3, by rw [e']; rfl, hM, by rw [e, e']; simp [memsA, hM], ?_⟩
  rw [← hw.len, List.length_map]
theorem keepG_G5 (m : List (List UInt8 × GV)) (b : Bool) (ks : List (List UInt8)) : (G5 m).keepG b ks = G5 (m.filter fun q => !delB b ks q.1) := by
  unfold G5 GV.keepG
  exact if_pos rfl
theorem putG_G5 (m : List (List UInt8 × GV)) (key : List UInt8) (w : GV) : GV.putG key w (G5 m) = G5 (insK (key, w) m) := by
  unfold G5 GV.putG
  exact if_pos rfl
theorem text_good {s : List UInt8} (h : (GV.mk 3 0 s [] []).good = true) : utfB s = true := by
  have := good_may h
  rw [GV.may] at this
  simp only [Int.reduceEq, if_false, if_true, Bool.and_eq_true] at this
  exact this.1.1.2
end Go.Proofs.YtjejeijldllloaaDoor

/- Chapter 13: plain facts of what stays: twice it is as once; what is added changes nothing. -/
namespace Go.Proofs.YtjejeijldllloaaDoor
open Go.AM
abbrev Ms := List (List UInt8 × GV)
theorem idxG_G5 (m : Ms) (key : List UInt8) : idxG (G5 m) key = (m.map Prod.fst).findIdx? (fun x => decide (x = key)) := by
  unfold idxG
  exact if_pos rfl
theorem getV_find (key : List UInt8) : ∀ m : Ms, getV (G5 m) key = (m.find? fun q => decide (q.1 = key)).map Prod.snd
  | [] => by unfold G5 getV; simp [idxG_none, idxG, GV.kind, GV.keys]
  | q :: r => by
    have ih := getV_find key r
    have h1 : getV (G5 (q :: r)) key = (idxG (G5 (q :: r)) key).bind fun i => (q :: r)[i]?.map Prod.snd := rfl
    have h2 : getV (G5 r) key = (idxG (G5 r) key).bind fun i => r[i]?.map Prod.snd := rfl
    rw [h2, idxG_G5] at ih
    rw [h1, idxG_G5, List.map_cons, List.findIdx?_cons, List.find?_cons]
    by_cases hq : q.1 = key
    · simp [hq]
    · simp only [hq, decide_false, Bool.false_eq_true, if_false]
      rw [← ih]
      cases hf : (r.map Prod.fst).findIdx? (fun x => decide (x = key)) with
      | none => rfl
      | some i => rfl
theorem getV_filter {f : List UInt8 → Bool} {key : List UInt8} (hf : f key = true) (m : Ms) : getV (G5 (m.filter fun q => f q.1)) key = getV (G5 m) key := by
  rw [getV_find, getV_find, List.find?_filter]
  congr 2
  funext q
  by_cases hq : q.1 = key
  · simp [hq, hf]
  · simp [hq]
theorem getV_set {a key : List UInt8} (hn : key ≠ a) : ∀ {m : Ms} {i : Nat} {c c0 : GV}, m[i]? = some (a, c0) → getV (G5 (m.set i (a, c))) key = getV (G5 m) key := by
  intro m i c c0 h
  rw [getV_find, getV_find]
  congr 1
  induction m generalizing i with
  | nil => cases h
  | cons q r ih =>
    cases i with
    | zero =>
      injection h with h
      subst h
      rw [List.set_cons_zero, List.find?_cons, List.find?_cons]
      have h1 : decide (a = key) = false := decide_eq_false fun e => hn e.symm
      simp only [h1]
    | succ i =>
      rw [List.set_cons_succ, List.find?_cons, List.find?_cons]
      cases decide (q.1 = key) with
      | true => rfl
      | false => exact ih h
theorem map_fst_set {a : List UInt8} : ∀ {m : Ms} {i : Nat} {c c0 : GV}, m[i]? = some (a, c0) → (m.set i (a, c)).map Prod.fst = m.map Prod.fst
  | [], _, _, _, h => by cases h
  | q :: r, 0, c, c0, h => by
    injection h with h
    subst h
    rfl
  | q :: r, i + 1, c, c0, h => by
    rw [List.set_cons_succ, List.map_cons, List.map_cons, map_fst_set (m := r) (i := i) h]
theorem idxG_set {a key : List UInt8} {m : Ms} {i : Nat} {c c0 : GV} (h : m[i]? = some (a, c0)) : idxG (G5 (m.set i (a, c))) key = idxG (G5 m) key := by
  rw [idxG_G5, idxG_G5, map_fst_set h]
/-- What a content's part is. -/
def gT : Option (List UInt8) → List UInt8 → Bool
  | none, _ => false
  | some t, k => !delB true (kL t) k
/-- What becomes of the members that stay. -/
def redC (o : GV) : GV := match idxG o ctK, getV o ctK with
    | some i, some c => if c.kind = 5 then
        match textG o tyK with
        | none => GV.setG i ctK (G5 []) o
        | some t => GV.setG i ctK (c.keepG true (kL t)) o
      else o
    | _, _ => o
theorem redG_eq (v : GV) : redG v = if v.good = true ∧ v.kind = 5 then redC (redO v) else v := rfl
theorem redO_G5 (m : Ms) : redO (G5 m) = G5 (m.filter fun q => !delB true mL q.1) := keepG_G5 m true mL
/-- What it is, of members that stay. -/
theorem redC_cases (mo : Ms) (hm : ∀ p ∈ mo, p.2.may = true) : (redC (G5 mo) = G5 mo ∧ ∀ (i : Nat) (c : GV), idxG (G5 mo) ctK = some i → mo[i]? = some (ctK, c) → c.kind ≠ 5) ∨ ∃ i mc, idxG (G5 mo) ctK = some i ∧ mo[i]? = some (ctK, G5 mc) ∧ redC (G5 mo) = G5 (mo.set i (ctK, G5 (mc.filter fun q => gT (textG (G5 mo) tyK) q.1))) := by
  cases hi : idxG (G5 mo) ctK with
  | none =>
    left
    refine ⟨?_, fun i c h => by cases h⟩
    unfold redC
    rw [hi]
  | some i =>
    obtain ⟨_, hil, ⟨c, hc⟩, _⟩ := idxG_some hi
    have hg : getV (G5 mo) ctK = some c := by
      have : getV (G5 mo) ctK = (idxG (G5 mo) ctK).bind fun i => mo[i]?.map Prod.snd := rfl
      rw [this, hi, Option.bind_some, hc]
      rfl
    by_cases hk : c.kind = 5
    · right
      have hmay := hm _ (List.mem_of_getElem? hc)
      cases c with
      | mk k n s l mc =>
        have k5 : k = 5 := hk
        subst k5
        obtain ⟨rfl, rfl, rfl, _, _⟩ := may_map hmay
        refine ⟨i, mc, rfl, hc, ?_⟩
        unfold redC
        rw [hi, hg]
        simp only [hk, if_true]
        cases ht : textG (G5 mo) tyK with
        | none =>
          have : mc.filter (fun q => gT none q.1) = [] := by
            rw [List.filter_eq_nil_iff]
            intro q _
            simp [gT]
          rw [this]
          rfl
        | some t =>
          have := keepG_G5 mc true (kL t)
          unfold G5 at this
          simp only [this]
          rfl
    · left
      refine ⟨?_, fun j c' hj hc' => ?_⟩
      · unfold redC
        rw [hi, hg]
        simp only [hk, if_false]
      · injection hj with hj
        subst hj
        rw [hc] at hc'
        injection hc' with hc'
        injection hc' with _ hc'
        rw [← hc']
        exact hk
theorem textG_set {m : Ms} {i : Nat} {c c0 : GV} (h : m[i]? = some (ctK, c0)) : textG (G5 (m.set i (ctK, c))) tyK = textG (G5 m) tyK := by
  unfold textG
  rw [getV_set (by decide) h]
end Go.Proofs.YtjejeijldllloaaDoor

/- Chapter 13: plain facts: redacted twice; each member that stays. -/
namespace Go.Proofs.YtjejeijldllloaaDoor
open Go.AM
/-- A member is found. -/
def found (u : GV) (q : List UInt8 × GV) : Prop := ∃ j, idxG u q.1 = some j ∧ u.mems[j]? = some q
theorem found_of {m : Ms} (hr : m.Pairwise fun a b => bl a.1 b.1 = true) {q : List UInt8 × GV} (hq : q ∈ m) : found (G5 m) q := by
  obtain ⟨j, hj⟩ := List.getElem?_of_mem hq
  exact ⟨j, idxG_of (w := q.2) rfl hj fun i p hi hp => pw_first hr hj hp hi, hj⟩
/-- How a member stays. -/
def stays (v : GV) (p : List UInt8 × GV) : Prop := ∃ j u, idxG v p.1 = some j ∧ v.mems[j]? = some (p.1, u) ∧ (p.1 ≠ ctK → p.2 = u) ∧ ∀ q ∈ p.2.mems, found u q
end Go.Proofs.YtjejeijldllloaaDoor

/- RedactTwice: redacted twice it is as once. -/
namespace Go.Proofs.YtjejeijldllloaaDoor
open Go.AM
theorem wt_deep {most : Int} (m0 : 0 ≤ most) (m1 : most ≤ 1000000) {d : Int} {v : GV} (hs : v.sml) (h0 : 0 ≤ d) (h1 : d ≤ 71) (hl : v.wt most d ≤ most) : ∀ p ∈ v.mems, p.2.sml ∧ p.2.wt most (d + 1) ≤ most := by
  cases v with
  | mk k n s l m =>
    intro p hp
    have hp : p ∈ m := hp
    by_cases hd : 70 < d
    · rw [GV.wt, if_pos hd, wrap64 (by omega) (by omega)] at hl
      omega
    obtain ⟨a1, a2, a3, a4, a5⟩ := hs
    rw [GV.wt, if_neg hd, wrap64 (by omega) (by omega)] at hl
    have b1 := wts_bnd m0 m1 (d := d + 1) (n := 1 + (s.length : Int)) a4 (by omega) (by omega) (by omega) (by omega)
    have b2 := wtm_bnd m0 m1 (d := d + 1) (n := GV.wts most (d + 1) (1 + (s.length : Int)) l) a5 (by omega) (by omega) (by omega) (by omega)
    have he := wtm_each m0 m1 (d := d + 1) (n := GV.wts most (d + 1) (1 + (s.length : Int)) l) a5 (by omega) (by omega) (by omega) (by omega) hl p hp
    obtain ⟨pk, pv⟩ := p
    exact ⟨(smlm_all a5 (pk, pv) hp).2, he⟩
theorem light_dwm {most : Int} (m0 : 0 ≤ most) (m1 : most ≤ 1000000) {v : GV} (hs : v.sml) (hl : v.wt most 0 ≤ most) : GV.dwm v.mems ≤ 1000 ∧ ∀ p ∈ v.mems, GV.dwm p.2.mems ≤ 1000 := by
  have h1 := wt_deep m0 m1 hs (by decide) (by decide) hl
  refine ⟨dwm_le (by decide) fun p hp => ?_, fun p hp => dwm_le (by decide) fun q hq => ?_⟩
  · obtain ⟨a, b⟩ := h1 p hp
    have := light_dw m0 m1 (p.2.sz + 1) (d := 0 + 1) (Nat.lt_succ_self _) a (by decide) (by decide) b
    omega
  · obtain ⟨a, b⟩ := h1 p hp
    obtain ⟨a2, b2⟩ := wt_deep m0 m1 a (d := 0 + 1) (by decide) (by decide) b q hq
    have := light_dw m0 m1 (q.2.sz + 1) (d := 0 + 1 + 1) (Nat.lt_succ_self _) a2 (by decide) (by decide) b2
    omega
/-- A value as it lies. -/
theorem FV.opn {v : GV} {x : AV} (h : FV v x) : ∃ (vs : List AV) (es : List E) (M : AV), x = .agg vs ∧ vs.length = 5 ∧ AV.bares vs = some vs ∧ vs.all AV.flat = true ∧ vs[0]? = some (.v (.int .i64 v.kind)) ∧ vs[4]? = some M ∧ elems M = some (es.map enc) ∧ memsA x = es.map enc ∧ es.length = v.mems.length ∧ FMs v.mems (es.map enc) ∧ okL es := by
  obtain ⟨vs, e, h1, h2, h3⟩ := h.shape
  cases v with
  | mk k n s l m =>
    obtain ⟨L, M, xs, ys, e', _, hM, _, _, _, _, _, _, _, _, _, _, hw⟩ := h
    rw [e] at e'
    injection e' with e'
    obtain ⟨es, rfl, ho, _⟩ := fms_encs hw
    refine ⟨vs, es, M, e, h1, h2, h3, by rw [e']; rfl, by rw [e']; rfl, hM, by rw [e, e']; simp [memsA, hM], ?_, hw, ho⟩
    have hlen := hw.len
    rw [List.length_map] at hlen
    exact hlen
end Go.Proofs.YtjejeijldllloaaDoor

/- Chapter 13: plain facts: what is added changes nothing of what stays. -/
namespace Go.Proofs.YtjejeijldllloaaDoor
open Go.AM
theorem bl_asym {a b : List UInt8} (h : bl a b = true) : bl b a ≠ true := by
  intro h2
  have := bl_trans h h2
  rw [bl_irrefl] at this
  cases this
theorem insK_front {p : List UInt8 × GV} : ∀ {l : Ms}, (∀ q ∈ l, bl p.1 q.1 = true) → insK p l = p :: l
  | [], _ => rfl
  | y :: r, h => by
    have hy := h y (by simp)
    rw [insK, if_neg (bl_asym hy), if_neg]
    intro e
    rw [e, bl_irrefl] at hy
    cases hy
theorem insK_filter {p : List UInt8 × GV} (f : List UInt8 → Bool) (hf : f p.1 = true) : ∀ {m : Ms}, m.Pairwise (fun a b => bl a.1 b.1 = true) → (insK p m).filter (fun q => f q.1) = insK p (m.filter fun q => f q.1)
  | [], _ => by
    have h1 : insK p [] = [p] := rfl
    rw [h1, List.filter_cons_of_pos (by simpa using hf)]
    rfl
  | y :: r, h => by
    obtain ⟨h1, h2⟩ := List.pairwise_cons.1 h
    have ih := insK_filter f hf h2
    by_cases hy : bl y.1 p.1 = true
    · have e1 : insK p (y :: r) = y :: insK p r := by rw [insK, if_pos hy]
      rw [e1]
      cases hfy : f y.1 with
      | true => rw [List.filter_cons_of_pos (by simpa using hfy), List.filter_cons_of_pos (by simpa using hfy), ih, insK, if_pos hy]
      | false => rw [List.filter_cons_of_neg (by simp [hfy]), List.filter_cons_of_neg (by simp [hfy]), ih]
    · by_cases he : y.1 = p.1
      · have e1 : insK p (y :: r) = p :: r := by rw [insK, if_neg hy, if_pos he]
        have hfy : f y.1 = true := by rw [he]; exact hf
        rw [e1, List.filter_cons_of_pos (by simpa using hf), List.filter_cons_of_pos (by simpa using hfy), insK, if_neg hy, if_pos he]
      · have e1 : insK p (y :: r) = p :: y :: r := by rw [insK, if_neg hy, if_neg he]
        have hpy : bl p.1 y.1 = true := by
          cases hb : bl p.1 y.1 with
          | true => rfl
          | false => exact absurd (bl_tri (by simpa using hy) hb) he
        rw [e1, List.filter_cons_of_pos (by simpa using hf), insK_front]
        intro q hq
        rcases List.mem_cons.1 (List.mem_filter.1 hq).1 with rfl | hq
        · exact hpy
        · exact bl_trans hpy (h1 q hq)
theorem insK_at : ∀ {m : Ms} {i : Nat} {k : List UInt8} {w w0 : GV}, m.Pairwise (fun a b => bl a.1 b.1 = true) → m[i]? = some (k, w0) → insK (k, w) m = m.set i (k, w)
  | [], _, _, _, _, _, h => by cases h
  | y :: r, 0, k, w, w0, _, h => by
    injection h with h
    subst h
    rw [insK, if_neg (by rw [bl_irrefl]; simp), if_pos rfl]
    rfl
  | y :: r, i + 1, k, w, w0, hp, h => by
    obtain ⟨h1, h2⟩ := List.pairwise_cons.1 hp
    have h : r[i]? = some (k, w0) := h
    have hy := h1 _ (List.mem_of_getElem? h)
    rw [insK, if_pos hy, List.set_cons_succ, insK_at h2 h]
theorem G5_dw_eq {m : Ms} (h : GV.dwm m ≤ 1000) : (G5 m).dw = GV.dwm m + 1 := by
  have n1 := dwm_nn (l := m)
  unfold G5
  rw [GV.dw, if_neg (by decide), if_pos rfl, wrap64 (by omega) (by omega)]
theorem put_may {m : Ms} {key : List UInt8} {w : GV} (hg : (G5 m).may = true) (hw : w.may = true) (hk : utfB key = true) : (G5 (insK (key, w) m)).may = true := by
  rw [G5_may] at hg ⊢
  obtain ⟨r1, _, r3⟩ := maym_rise m none hg
  refine maym_of _ _ (fun p hp => ?_) (insK_rise _ r1) fun q e => by cases e
  rcases insK_mem hp with rfl | hp
  · exact ⟨hk, hw⟩
  · exact ⟨maym_utf m none hg p hp, r3 p hp⟩
theorem put_dwm {m : Ms} {key : List UInt8} {w : GV} {a : Int} (h0 : 0 ≤ a) (h1 : GV.dwm m ≤ a) (h2 : w.dw ≤ a) : GV.dwm (insK (key, w) m) ≤ a := dwm_le h0 fun p hp => by
  rcases insK_mem hp with rfl | hp
  · exact h2
  · have := dwm_mem hp; omega
theorem good_of {m : Ms} (h : (G5 m).may = true) (hd : GV.dwm m ≤ 49) : (G5 m).good = true := by
  unfold GV.good
  rw [Bool.and_eq_true, decide_eq_true_eq, G5_dw_eq (by omega)]
  exact ⟨by omega, h⟩
theorem wt_len {most : Int} (m0 : 0 ≤ most) (m1 : most ≤ 1000000) {d : Int} {v : GV} (hs : v.sml) (h0 : 0 ≤ d) (h1 : d ≤ 71) (hl : v.wt most d ≤ most) : (v.mems.length : Int) ≤ most := by
  cases v with
  | mk k n s l m =>
    by_cases hd : 70 < d
    · rw [GV.wt, if_pos hd, wrap64 (by omega) (by omega)] at hl
      omega
    obtain ⟨a1, a2, a3, a4, a5⟩ := hs
    rw [GV.wt, if_neg hd, wrap64 (by omega) (by omega)] at hl
    have b1 := wts_bnd m0 m1 (d := d + 1) (n := 1 + (s.length : Int)) a4 (by omega) (by omega) (by omega) (by omega)
    have b2 := wtm_bnd m0 m1 (d := d + 1) (n := GV.wts most (d + 1) (1 + (s.length : Int)) l) a5 (by omega) (by omega) (by omega) (by omega)
    show (m.length : Int) ≤ most
    omega
theorem textG_filter {m : Ms} : textG (G5 (m.filter fun q => !delB true mL q.1)) tyK = textG (G5 m) tyK := by
  unfold textG
  rw [getV_filter (f := fun k => !delB true mL k) (by decide)]
def nbK : List UInt8 := [110, 111, 98, 111, 100, 121, 39, 115]
/-- A member that no chapter names. -/
theorem red_nobody {m : Ms} {x : GV} (hg : (G5 m).good = true) (hg2 : (G5 (insK (nbK, x) m)).good = true) : redG (G5 (insK (nbK, x) m)) = redG (G5 m) := by
  rw [redG_eq, redG_eq, if_pos ⟨hg2, rfl⟩, if_pos ⟨hg, rfl⟩, redO_G5, redO_G5, insK_drop (nbK, x) (fun k => !delB true mL k) (show (!delB true mL nbK) = false by decide)]
/-- A member of a content that no list names. -/
theorem red_content {m mc : Ms} {key : List UInt8} {x : GV} {i : Nat} (hg : (G5 m).good = true) (hg2 : (G5 (insK (ctK, G5 (insK (key, x) mc)) m)).good = true) (hi : idxG (G5 m) ctK = some i) (hc : m[i]? = some (ctK, G5 mc)) (hk : ∀ t, textG (G5 m) tyK = some t → key ∉ kL t) : redG (G5 (insK (ctK, G5 (insK (key, x) mc)) m)) = redG (G5 m) := by
  have hmay := good_may hg
  have hmay2 := good_may hg2
  obtain ⟨_, _, _, hri, hme⟩ := may_map (show (GV.mk 5 0 [] [] m).may = true from hmay)
  obtain ⟨_, _, _, hri2, hme2⟩ := may_map (show (GV.mk 5 0 [] [] (insK (ctK, G5 (insK (key, x) mc)) m)).may = true from hmay2)
  obtain ⟨mo, hmo⟩ : ∃ mo, m.filter (fun q => !delB true mL q.1) = mo := ⟨_, rfl⟩
  have hori : mo.Pairwise fun a b => bl a.1 b.1 = true := by rw [← hmo]; exact hri.filter _
  have htx : textG (G5 mo) tyK = textG (G5 m) tyK := by rw [← hmo]; exact textG_filter
  have hcm : (ctK, G5 mc) ∈ mo := by
    rw [← hmo]
    exact List.mem_filter.2 ⟨List.mem_of_getElem? hc, show (!delB true mL ctK) = true by decide⟩
  obtain ⟨j, hj, hcj⟩ := found_of hori hcm
  have hcj : mo[j]? = some (ctK, G5 mc) := hcj
  have hj : idxG (G5 mo) ctK = some j := hj
  have hjl := (List.getElem?_eq_some_iff.1 hcj).1
  have hfil : (insK (ctK, G5 (insK (key, x) mc)) m).filter (fun q => !delB true mL q.1) = mo.set j (ctK, G5 (insK (key, x) mc)) := by
    rw [insK_filter (fun k => !delB true mL k) (show (!delB true mL ctK) = true by decide) hri, hmo, insK_at hori hcj]
  have hmo1 : ∀ p ∈ mo, p.2.may = true := fun p hp => by rw [← hmo] at hp; exact hme p (List.mem_filter.1 hp).1
  have hmo2 : ∀ p ∈ mo.set j (ctK, G5 (insK (key, x) mc)), p.2.may = true := fun p hp => by rw [← hfil] at hp; exact hme2 p (List.mem_filter.1 hp).1
  rw [redG_eq, redG_eq, if_pos ⟨hg2, rfl⟩, if_pos ⟨hg, rfl⟩, redO_G5, redO_G5, hfil, hmo]
  have hgk : gT (textG (G5 m) tyK) key = false := by
    cases ht : textG (G5 m) tyK with
    | none => rfl
    | some t =>
      have := hk t ht
      simp [gT, delB, hasT, this]
  rcases redC_cases mo hmo1 with ⟨_, h1⟩ | ⟨a, mc1, ha, hca, h1⟩
  · exact absurd rfl (h1 j _ hj hcj)
  · rw [hj] at ha
    injection ha with ha
    subst ha
    rw [hcj] at hca
    injection hca with hca
    injection hca with _ hca
    have hmc : mc = mc1 := by unfold G5 at hca; injection hca
    subst hmc
    have hs1 : idxG (G5 (mo.set j (ctK, G5 (insK (key, x) mc)))) ctK = some j := by rw [idxG_set hcj, hj]
    have hs2 : (mo.set j (ctK, G5 (insK (key, x) mc)))[j]? = some (ctK, G5 (insK (key, x) mc)) := List.getElem?_set_self hjl
    rcases redC_cases _ hmo2 with ⟨_, h2⟩ | ⟨b, mc2, hb, hcb, h2⟩
    · exact absurd rfl (h2 j _ hs1 hs2)
    · rw [hs1] at hb
      injection hb with hb
      subst hb
      rw [hs2] at hcb
      injection hcb with hcb
      injection hcb with _ hcb
      have hmc2 : insK (key, x) mc = mc2 := by unfold G5 at hcb; injection hcb
      subst hmc2
      rw [h1, h2, textG_set hcj, htx, List.set_set, insK_drop (key, x) (gT (textG (G5 m) tyK)) hgk]
end Go.Proofs.YtjejeijldllloaaDoor

/- RedactMore: what no list names changes nothing of what stays. -/
namespace Go.Proofs.YtjejeijldllloaaDoor
open Go.AM
noncomputable def rm1 : FuncId → Option (List AV → Option AV) := tab [(53, vawakeP), (29, lightT), (32, (vP gdA)), (30, (vP dwA)), (38, tvQ), (44, txQ), (39, getQ), (57, kyQ), (40, saQ), (54, rpQ), (37, eqP)]
theorem rm1_ok : (cfgP rm1).Ok := cfg_ok (tab_ok ⟨prim_at Tryd.func53 (by kernel_rfl) rfl ((fun xs r h => pureOk_prim (prim' := fun _ => none) (rawake_ok xs r h))), prim_at Tryd.func29 (by kernel_rfl) rfl (lightT_ok), prim_at Tryd.func32 (by kernel_rfl) rfl (gdP_ok), prim_at Tryd.func30 (by kernel_rfl) rfl (dwP_ok), prim_at Tryd.func38 (by kernel_rfl) rfl (tvQ_ok), prim_at Tryd.func44 (by kernel_rfl) rfl (txQ_ok), prim_at Tryd.func39 (by kernel_rfl) rfl (getQ_ok), prim_at Tryd.func57 (by kernel_rfl) rfl (kyP_ok), prim_at Tryd.func40 (by kernel_rfl) rfl (saQ_ok), prim_at Tryd.func54 (by kernel_rfl) rfl (rpQ_ok), prim_at Tryd.func37 (by kernel_rfl) rfl (samePv_ok), trivial⟩)
theorem rm1_53 : (cfgP rm1).prim 53 = some vawakeP := rfl
theorem rm1_29 : (cfgP rm1).prim 29 = some lightT := rfl
theorem rm1_32 : (cfgP rm1).prim 32 = some (vP gdA) := rfl
theorem rm1_30 : (cfgP rm1).prim 30 = some (vP dwA) := rfl
theorem rm1_38 : (cfgP rm1).prim 38 = some tvQ := rfl
theorem rm1_44 : (cfgP rm1).prim 44 = some txQ := rfl
theorem rm1_39 : (cfgP rm1).prim 39 = some getQ := rfl
theorem rm1_57 : (cfgP rm1).prim 57 = some kyQ := rfl
theorem rm1_40 : (cfgP rm1).prim 40 = some saQ := rfl
theorem rm1_54 : (cfgP rm1).prim 54 = some rpQ := rfl
theorem rm1_37 : (cfgP rm1).prim 37 = some eqP := rfl
theorem nbK_utf : utfB nbK = true := by decide
theorem ctK_utf : utfB ctK = true := by decide
/-- What Set, then Redact say. -/
theorem set_red {m : Ms} {cs ds : List AV} {es : List E} {key : List UInt8} {w : GV} (hf : FV (G5 m) (.agg cs)) (hs : (G5 m).sml) (hr : m.Pairwise fun a b => bl a.1 b.1 = true) (hm : memsA (.agg cs) = es.map enc) (hl : m.length ≤ 3000) (hp : ∀ p ∈ m, p.2.mems.length ≤ 3000) (hw : FV w (.agg ds)) (hws : w.sml) (hwl : w.mems.length ≤ 900000) (hk : key.length ≤ 100) :
    ∃ rs, saQ [.agg cs, str key, .agg ds] = some (.agg rs) ∧ FV (G5 (insK (key, w) m)) (.agg rs) ∧ (G5 (insK (key, w) m)).sml ∧ RdX (G5 (insK (key, w) m), .agg rs) := by
  have hel : es.length = m.length := by
    obtain ⟨vs, es', M, e, _, _, _, _, hM, hme, hel⟩ := G5_shape hf
    rw [hme] at hm
    rw [← encs_inj hm]
    exact hel
  have hsn : Sn.okA ⟨G5 m, .agg cs, es, key, w, ds⟩ := ⟨hf, hs, fun _ => hr, hm, by show es.length < _; omega, hw, by show key.length ≤ _; omega⟩
  have q := saQ_eq hsn
  have hf3 := Sn.resA_fv hsn
  rw [putG_G5] at hf3
  obtain ⟨rs, e, _⟩ := hf3.shape
  rw [e] at hf3
  have hil := insK_len (key, w) m
  have hs3 : (G5 (insK (key, w) m)).sml := G5_sml (fun p hp => by
    rcases insK_mem hp with rfl | hp
    · exact ⟨by show key.length ≤ _; omega, hws⟩
    · exact smlm_all hs.2.2.2.2 p hp) (by omega)
  refine ⟨rs, by rw [← e]; exact q, hf3, hs3, hf3, hs3, by show (insK (key, w) m).length ≤ _; omega, fun p hp' => ?_⟩
  rcases insK_mem hp' with rfl | hp'
  · show w.mems.length ≤ _; omega
  · have := hp p hp'; omega
theorem kL_len (t : List UInt8) : (kL t).length ≤ 100 := by
  unfold kL
  repeat' split
  all_goals decide
structure RmJ (x y k t T b : AV) (i : Nat) (e : Env) (h : Hp) : Prop where
  len : e.length = 111
  a1 : aget e 1 = k
  a3 : aget e 3 = .rp x 0
  a5 : aget e 5 = .rp y 0
  a9 : aget e 9 = .ptr 0 0 0 0
  a11 : aget e 11 = T
  a12 : aget e 12 = .v (.int .i64 (i : Int))
  hp : h = nH [⟨0, 5, [b]⟩]
set_option maxHeartbeats 16000000 in
set_option maxRecDepth 100000 in
theorem redactMore_core (x y : AV) (key : List UInt8) (hx : Arg Tryd.prog 39 x) (hy : Arg Tryd.prog 39 y) (sx : Small x) (sy : Small y) (hkl : key.length ≤ 140737488355328) : PureOk (cfgP rm1) 16 [x, str key, y] (.v (.bool true)) := by
  obtain ⟨v, h⟩ := arg_val hx
  obtain ⟨w, hw⟩ := arg_val hy
  have hsm := h.sml sx
  have hwm := hw.sml sy
  have qa : vawakeP [] = some (.v (.bool true)) := rfl
  have ql := lightT_eq (most := 3000) h
  have qlw := lightT_eq (most := 500) hw
  have qg := vP_eq (r := gdA) h hsm
  have qgw := vP_eq (r := gdA) hw hwm
  have qd := vP_eq (r := dwA) h hsm
  have qdw := vP_eq (r := dwA) hw hwm
  simp only [gdA] at qg qgw
  simp only [dwA] at qd qdw
  have hfv := h
  have hfw := hw
  obtain ⟨cs, es, M, rfl, h5, hbs, hfl, c0, c4, hM, hme, hel, hfm, hok⟩ := FV.opn h
  obtain ⟨ds, rfl, w5, wbs, wfl⟩ := hw.shape
  have hb := h.bare
  have wb := hw.bare
  have htf := tvA_fv (s := key) (by omega)
  have hts : (GV.mk 3 0 key [] []).sml := ⟨hkl, by simp, by simp, trivial, trivial⟩
  have qt := tvQ_eq key
  have qgt := vP_eq (r := gdA) htf hts
  simp only [gdA] at qgt
  have btv := htf.bare
  obtain ⟨TVK, hTVK⟩ : ∃ X, tvA key = X := ⟨_, rfl⟩
  rw [hTVK] at qt qgt btv
  have r3 : (cfgP rm1).roBox 16 3 = true := rfl
  have r5 : (cfgP rm1).roBox 16 5 = true := rfl
  have r9 : (cfgP rm1).roBox 16 9 = false := rfl
  have r13 : (cfgP rm1).roBox 16 13 = false := rfl
  cases hl1 : decide (v.wt 3000 0 ≤ 3000) with
  | false =>
    rw [hl1] at ql
    refine pure_of_wk (call := noCall) (fn := Tryd.f16) (rs := [.tmp 6]) rm1_ok noCall_ok (fns_cfg Tryd.func16 rfl) rfl rfl ?_
    intro env hl0 hargs
    have hn : env.length = 111 := hl0
    have h0 := hargs 0 _ rfl
    have h1 := hargs 1 _ rfl
    have h2 := hargs 2 _ rfl
    clear hargs hl0
    refine wkT_of ?_
    rw [fe_self hn]
    (try simp -dsimp (disch := omega) only [h0, h1, h2, r3, r5, r9, r13, bxt_ro hb hfl, bxt_ro wb wfl, cellsA, vp39 h5, vp39 w5, hbs, wbs, bare_s, len_s, gf0, vp3, c0, qa, ql, qlw, qg, qgw, qt, btv, qgt, qd, qdw, Bool.not_true, Bool.not_false, ct_prim rm1_53, ct_prim rm1_29, ct_prim rm1_32, ct_prim rm1_38, ct_prim rm1_30, AS, avals, apairs, bareP, AV.bare, AV.bares, Nat.reduceEqDiff, Nat.reduceLT, Nat.reduceAdd, ↓reduceIte, reduceCtorEq, resA, resA1, resVal, Nat.reduceLeDiff, nb_cfg, Nat.reduceBEq, AX, Int.reduceLT, Int.reduceLE, Int.reduceEq, Int.reduceAdd, Int.reduceSub, Int.reduceMul, Int.reduceNeg, Int.reduceNe])
    exact ⟨1, rfl⟩
  | true =>
    rw [hl1] at ql
    cases hl2 : decide (w.wt 500 0 ≤ 500) with
    | false =>
      rw [hl2] at qlw
      refine pure_of_wk (call := noCall) (fn := Tryd.f16) (rs := [.tmp 6]) rm1_ok noCall_ok (fns_cfg Tryd.func16 rfl) rfl rfl ?_
      intro env hl0 hargs
      have hn : env.length = 111 := hl0
      have h0 := hargs 0 _ rfl
      have h1 := hargs 1 _ rfl
      have h2 := hargs 2 _ rfl
      clear hargs hl0
      refine wkT_of ?_
      rw [fe_self hn]
      (try simp -dsimp (disch := omega) only [h0, h1, h2, r3, r5, r9, r13, bxt_ro hb hfl, bxt_ro wb wfl, cellsA, vp39 h5, vp39 w5, hbs, wbs, bare_s, len_s, gf0, vp3, c0, qa, ql, qlw, qg, qgw, qt, btv, qgt, qd, qdw, Bool.not_true, Bool.not_false, ct_prim rm1_53, ct_prim rm1_29, ct_prim rm1_32, ct_prim rm1_38, ct_prim rm1_30, AS, avals, apairs, bareP, AV.bare, AV.bares, Nat.reduceEqDiff, Nat.reduceLT, Nat.reduceAdd, ↓reduceIte, reduceCtorEq, resA, resA1, resVal, Nat.reduceLeDiff, nb_cfg, Nat.reduceBEq, AX, Int.reduceLT, Int.reduceLE, Int.reduceEq, Int.reduceAdd, Int.reduceSub, Int.reduceMul, Int.reduceNeg, Int.reduceNe])
      exact ⟨1, rfl⟩
    | true =>
      rw [hl2] at qlw
      cases hl3 : v.good with
      | false =>
        rw [hl3] at qg
        refine pure_of_wk (call := noCall) (fn := Tryd.f16) (rs := [.tmp 6]) rm1_ok noCall_ok (fns_cfg Tryd.func16 rfl) rfl rfl ?_
        intro env hl0 hargs
        have hn : env.length = 111 := hl0
        have h0 := hargs 0 _ rfl
        have h1 := hargs 1 _ rfl
        have h2 := hargs 2 _ rfl
        clear hargs hl0
        refine wkT_of ?_
        rw [fe_self hn]
        (try simp -dsimp (disch := omega) only [h0, h1, h2, r3, r5, r9, r13, bxt_ro hb hfl, bxt_ro wb wfl, cellsA, vp39 h5, vp39 w5, hbs, wbs, bare_s, len_s, gf0, vp3, c0, qa, ql, qlw, qg, qgw, qt, btv, qgt, qd, qdw, Bool.not_true, Bool.not_false, ct_prim rm1_53, ct_prim rm1_29, ct_prim rm1_32, ct_prim rm1_38, ct_prim rm1_30, AS, avals, apairs, bareP, AV.bare, AV.bares, Nat.reduceEqDiff, Nat.reduceLT, Nat.reduceAdd, ↓reduceIte, reduceCtorEq, resA, resA1, resVal, Nat.reduceLeDiff, nb_cfg, Nat.reduceBEq, AX, Int.reduceLT, Int.reduceLE, Int.reduceEq, Int.reduceAdd, Int.reduceSub, Int.reduceMul, Int.reduceNeg, Int.reduceNe])
        exact ⟨1, rfl⟩
      | true =>
        rw [hl3] at qg
        cases hl4 : w.good with
        | false =>
          rw [hl4] at qgw
          refine pure_of_wk (call := noCall) (fn := Tryd.f16) (rs := [.tmp 6]) rm1_ok noCall_ok (fns_cfg Tryd.func16 rfl) rfl rfl ?_
          intro env hl0 hargs
          have hn : env.length = 111 := hl0
          have h0 := hargs 0 _ rfl
          have h1 := hargs 1 _ rfl
          have h2 := hargs 2 _ rfl
          clear hargs hl0
          refine wkT_of ?_
          rw [fe_self hn]
          (try simp -dsimp (disch := omega) only [h0, h1, h2, r3, r5, r9, r13, bxt_ro hb hfl, bxt_ro wb wfl, cellsA, vp39 h5, vp39 w5, hbs, wbs, bare_s, len_s, gf0, vp3, c0, qa, ql, qlw, qg, qgw, qt, btv, qgt, qd, qdw, Bool.not_true, Bool.not_false, ct_prim rm1_53, ct_prim rm1_29, ct_prim rm1_32, ct_prim rm1_38, ct_prim rm1_30, AS, avals, apairs, bareP, AV.bare, AV.bares, Nat.reduceEqDiff, Nat.reduceLT, Nat.reduceAdd, ↓reduceIte, reduceCtorEq, resA, resA1, resVal, Nat.reduceLeDiff, nb_cfg, Nat.reduceBEq, AX, Int.reduceLT, Int.reduceLE, Int.reduceEq, Int.reduceAdd, Int.reduceSub, Int.reduceMul, Int.reduceNeg, Int.reduceNe])
          exact ⟨1, rfl⟩
        | true =>
          rw [hl4] at qgw
          cases hl5 : (GV.mk 3 0 key [] []).good with
          | false =>
            rw [hl5] at qgt
            refine pure_of_wk (call := noCall) (fn := Tryd.f16) (rs := [.tmp 6]) rm1_ok noCall_ok (fns_cfg Tryd.func16 rfl) rfl rfl ?_
            intro env hl0 hargs
            have hn : env.length = 111 := hl0
            have h0 := hargs 0 _ rfl
            have h1 := hargs 1 _ rfl
            have h2 := hargs 2 _ rfl
            clear hargs hl0
            refine wkT_of ?_
            rw [fe_self hn]
            (try simp -dsimp (disch := omega) only [h0, h1, h2, r3, r5, r9, r13, bxt_ro hb hfl, bxt_ro wb wfl, cellsA, vp39 h5, vp39 w5, hbs, wbs, bare_s, len_s, gf0, vp3, c0, qa, ql, qlw, qg, qgw, qt, btv, qgt, qd, qdw, Bool.not_true, Bool.not_false, ct_prim rm1_53, ct_prim rm1_29, ct_prim rm1_32, ct_prim rm1_38, ct_prim rm1_30, AS, avals, apairs, bareP, AV.bare, AV.bares, Nat.reduceEqDiff, Nat.reduceLT, Nat.reduceAdd, ↓reduceIte, reduceCtorEq, resA, resA1, resVal, Nat.reduceLeDiff, nb_cfg, Nat.reduceBEq, AX, Int.reduceLT, Int.reduceLE, Int.reduceEq, Int.reduceAdd, Int.reduceSub, Int.reduceMul, Int.reduceNeg, Int.reduceNe])
            exact ⟨1, rfl⟩
          | true =>
            rw [hl5] at qgt
            cases hl6 : decide ((50 : Int) < (key.length : Int)) with
            | true =>
              refine pure_of_wk (call := noCall) (fn := Tryd.f16) (rs := [.tmp 6]) rm1_ok noCall_ok (fns_cfg Tryd.func16 rfl) rfl rfl ?_
              intro env hl0 hargs
              have hn : env.length = 111 := hl0
              have h0 := hargs 0 _ rfl
              have h1 := hargs 1 _ rfl
              have h2 := hargs 2 _ rfl
              clear hargs hl0
              refine wkT_of ?_
              rw [fe_self hn]
              (try simp -dsimp (disch := omega) only [h0, h1, h2, r3, r5, r9, r13, bxt_ro hb hfl, bxt_ro wb wfl, cellsA, vp39 h5, vp39 w5, hbs, wbs, bare_s, len_s, gf0, vp3, c0, qa, ql, qlw, qg, qgw, qt, btv, qgt, qd, qdw, Bool.not_true, Bool.not_false, ct_prim rm1_53, ct_prim rm1_29, ct_prim rm1_32, ct_prim rm1_38, ct_prim rm1_30, hl6, AS, avals, apairs, bareP, AV.bare, AV.bares, Nat.reduceEqDiff, Nat.reduceLT, Nat.reduceAdd, ↓reduceIte, reduceCtorEq, resA, resA1, resVal, Nat.reduceLeDiff, nb_cfg, Nat.reduceBEq, AX, Int.reduceLT, Int.reduceLE, Int.reduceEq, Int.reduceAdd, Int.reduceSub, Int.reduceMul, Int.reduceNeg, Int.reduceNe])
              exact ⟨1, rfl⟩
            | false =>
              cases hl7 : decide (v.kind = 5) with
              | false =>
                refine pure_of_wk (call := noCall) (fn := Tryd.f16) (rs := [.tmp 6]) rm1_ok noCall_ok (fns_cfg Tryd.func16 rfl) rfl rfl ?_
                intro env hl0 hargs
                have hn : env.length = 111 := hl0
                have h0 := hargs 0 _ rfl
                have h1 := hargs 1 _ rfl
                have h2 := hargs 2 _ rfl
                clear hargs hl0
                refine wkT_of ?_
                rw [fe_self hn]
                (try simp -dsimp (disch := omega) only [h0, h1, h2, r3, r5, r9, r13, bxt_ro hb hfl, bxt_ro wb wfl, cellsA, vp39 h5, vp39 w5, hbs, wbs, bare_s, len_s, gf0, vp3, c0, qa, ql, qlw, qg, qgw, qt, btv, qgt, qd, qdw, Bool.not_true, Bool.not_false, ct_prim rm1_53, ct_prim rm1_29, ct_prim rm1_32, ct_prim rm1_38, ct_prim rm1_30, hl6, hl7, AS, avals, apairs, bareP, AV.bare, AV.bares, Nat.reduceEqDiff, Nat.reduceLT, Nat.reduceAdd, ↓reduceIte, reduceCtorEq, resA, resA1, resVal, Nat.reduceLeDiff, nb_cfg, Nat.reduceBEq, AX, Int.reduceLT, Int.reduceLE, Int.reduceEq, Int.reduceAdd, Int.reduceSub, Int.reduceMul, Int.reduceNeg, Int.reduceNe])
                exact ⟨1, rfl⟩
              | true =>
                cases hl8 : decide ((40 : Int) < w.dw) with
                | true =>
                  refine pure_of_wk (call := noCall) (fn := Tryd.f16) (rs := [.tmp 6]) rm1_ok noCall_ok (fns_cfg Tryd.func16 rfl) rfl rfl ?_
                  intro env hl0 hargs
                  have hn : env.length = 111 := hl0
                  have h0 := hargs 0 _ rfl
                  have h1 := hargs 1 _ rfl
                  have h2 := hargs 2 _ rfl
                  clear hargs hl0
                  refine wkT_of ?_
                  rw [fe_self hn]
                  (try simp -dsimp (disch := omega) only [h0, h1, h2, r3, r5, r9, r13, bxt_ro hb hfl, bxt_ro wb wfl, cellsA, vp39 h5, vp39 w5, hbs, wbs, bare_s, len_s, gf0, vp3, c0, qa, ql, qlw, qg, qgw, qt, btv, qgt, qd, qdw, Bool.not_true, Bool.not_false, ct_prim rm1_53, ct_prim rm1_29, ct_prim rm1_32, ct_prim rm1_38, ct_prim rm1_30, hl6, hl7, hl8, AS, avals, apairs, bareP, AV.bare, AV.bares, Nat.reduceEqDiff, Nat.reduceLT, Nat.reduceAdd, ↓reduceIte, reduceCtorEq, resA, resA1, resVal, Nat.reduceLeDiff, nb_cfg, Nat.reduceBEq, AX, Int.reduceLT, Int.reduceLE, Int.reduceEq, Int.reduceAdd, Int.reduceSub, Int.reduceMul, Int.reduceNeg, Int.reduceNe])
                  exact ⟨1, rfl⟩
                | false =>
                  cases hl9 : decide ((48 : Int) < v.dw) with
                  | true =>
                    refine pure_of_wk (call := noCall) (fn := Tryd.f16) (rs := [.tmp 6]) rm1_ok noCall_ok (fns_cfg Tryd.func16 rfl) rfl rfl ?_
                    intro env hl0 hargs
                    have hn : env.length = 111 := hl0
                    have h0 := hargs 0 _ rfl
                    have h1 := hargs 1 _ rfl
                    have h2 := hargs 2 _ rfl
                    clear hargs hl0
                    refine wkT_of ?_
                    rw [fe_self hn]
                    (try simp -dsimp (disch := omega) only [h0, h1, h2, r3, r5, r9, r13, bxt_ro hb hfl, bxt_ro wb wfl, cellsA, vp39 h5, vp39 w5, hbs, wbs, bare_s, len_s, gf0, vp3, c0, qa, ql, qlw, qg, qgw, qt, btv, qgt, qd, qdw, Bool.not_true, Bool.not_false, ct_prim rm1_53, ct_prim rm1_29, ct_prim rm1_32, ct_prim rm1_38, ct_prim rm1_30, hl6, hl7, hl8, hl9, AS, avals, apairs, bareP, AV.bare, AV.bares, Nat.reduceEqDiff, Nat.reduceLT, Nat.reduceAdd, ↓reduceIte, reduceCtorEq, resA, resA1, resVal, Nat.reduceLeDiff, nb_cfg, Nat.reduceBEq, AX, Int.reduceLT, Int.reduceLE, Int.reduceEq, Int.reduceAdd, Int.reduceSub, Int.reduceMul, Int.reduceNeg, Int.reduceNe])
                    exact ⟨1, rfl⟩
                  | false =>
                    have hlt := of_decide_eq_true hl1
                    have hltw := of_decide_eq_true hl2
                    obtain ⟨hd1, hd2⟩ := light_dwm (by decide) (by decide) hsm hlt
                    have hln := wt_len (by decide) (by decide) hsm (by decide) (by decide) hlt
                    have hlw := wt_len (by decide) (by decide) hwm (by decide) (by decide) hltw
                    have hln2 : ∀ p ∈ v.mems, p.2.mems.length ≤ 3000 := fun p hp => by
                      obtain ⟨a, b⟩ := wt_deep (by decide) (by decide) hsm (by decide) (by decide) hlt p hp
                      have := wt_len (by decide) (by decide) a (by decide) (by decide) b
                      omega
                    have hmay := good_may hl3
                    have hmayw := good_may hl4
                    have hkey := text_good hl5
                    have hk50 : key.length ≤ 50 := by have := of_decide_eq_false hl6; omega
                    have hk5 := of_decide_eq_true hl7
                    have hdw := of_decide_eq_false hl8
                    have hdv := of_decide_eq_false hl9
                    have hfew := light_few2 (by decide) (by decide) hsm hlt
                    cases v with
                    | mk k n s l m =>
                      have k5 : k = 5 := hk5
                      subst k5
                      obtain ⟨rfl, rfl, rfl, hri, hme2⟩ := may_map hmay
                      have hfv : FV (G5 m) (.agg cs) := hfv
                      have hsm : (G5 m).sml := hsm
                      have hg : (G5 m).good = true := hl3
                      have hmay : (G5 m).may = true := hmay
                      have hd1 : GV.dwm m ≤ 1000 := hd1
                      have hd2 : ∀ p ∈ m, GV.dwm p.2.mems ≤ 1000 := hd2
                      have hln : (m.length : Int) ≤ 3000 := hln
                      have hln2 : ∀ p ∈ m, p.2.mems.length ≤ 3000 := hln2
                      have hdv : ¬ 48 < (G5 m).dw := hdv
                      rw [G5_dw_eq hd1] at hdv
                      have hpl : Pl.ok ⟨G5 m, .agg cs, tyK⟩ := ⟨hfv, hsm, fun _ => hri⟩
                      have hpc : Pl.ok ⟨G5 m, .agg cs, ctK⟩ := ⟨hfv, hsm, fun _ => hri⟩
                      have qtx := txQ_eq hpl
                      have qgc := getQ_eq hpc
                      obtain ⟨t, tb, et⟩ := textR_form (G5 m) tyK
                      replace qtx : txQ [.agg cs, str [116, 121, 112, 101]] = some (.tup [str t, .v (.bool tb)]) := qtx.trans (congrArg some et)
                      cases hidx : idxG (G5 m) ctK with
                      | none =>
                        replace qgc : getQ [.agg cs, str [99, 111, 110, 116, 101, 110, 116]] = some (.tup [.agg z5l, .v (.bool false)]) := qgc.trans (congrArg some (getR_none hidx))
                        have st0 := o_st0 (prim := rm1) (cs := z5l) [] rfl rfl
                        refine pure_of_wk (call := noCall) (fn := Tryd.f16) (rs := [.tmp 6]) rm1_ok noCall_ok (fns_cfg Tryd.func16 rfl) rfl rfl ?_
                        intro env hl0 hargs
                        have hn : env.length = 111 := hl0
                        have h0 := hargs 0 _ rfl
                        have h1 := hargs 1 _ rfl
                        have h2 := hargs 2 _ rfl
                        clear hargs hl0
                        refine wkT_of ?_
                        rw [fe_self hn]
                        (try simp -dsimp (disch := omega) only [h0, h1, h2, r3, r5, r9, r13, bxt_ro hb hfl, bxt_ro wb wfl, cellsA, vp39 h5, vp39 w5, hbs, wbs, bare_s, len_s, gf0, vp3, c0, qa, ql, qlw, qg, qgw, qt, btv, qgt, qd, qdw, Bool.not_true, Bool.not_false, ct_prim rm1_53, ct_prim rm1_29, ct_prim rm1_32, ct_prim rm1_38, ct_prim rm1_30, hl6, hl7, hl8, hl9, qtx, qgc, o_al0, st0, o_blk, List.getElem?_cons_zero, ct_prim rm1_44, ct_prim rm1_39, ct_prim rm1_57, ct_prim rm1_40, ct_prim rm1_54, ct_prim rm1_37, AS, avals, apairs, bareP, AV.bare, AV.bares, Nat.reduceEqDiff, Nat.reduceLT, Nat.reduceAdd, ↓reduceIte, reduceCtorEq, resA, resA1, resVal, Nat.reduceLeDiff, nb_cfg, Nat.reduceBEq, AX, Int.reduceLT, Int.reduceLE, Int.reduceEq, Int.reduceAdd, Int.reduceSub, Int.reduceMul, Int.reduceNeg, Int.reduceNe])
                        exact ⟨1, rfl⟩
                      | some i =>
                        obtain ⟨c, c1, f1, f2, f3, f4⟩ := getR_some hfv hidx
                        have hci : m[i]? = some (ctK, c) := f4 _ _ _ _ _ rfl
                        replace qgc : getQ [.agg cs, str [99, 111, 110, 116, 101, 110, 116]] = some (.tup [.agg c1, .v (.bool true)]) := qgc.trans (congrArg some f3)
                        have st0 := o_st0 (prim := rm1) (cs := c1) [] f2 f1.fl
                        have hcm := List.mem_of_getElem? hci
                        have hcmay := hme2 _ hcm
                        obtain ⟨c1', ec, MC, e1, _, cbs, cfl, cc0, cc4, hMC, hmec, helc, hfmc, hokc⟩ := FV.opn f1
                        injection e1 with e1
                        subst e1
                        by_cases ck : c.kind = 5
                        case neg =>
                          have dc : decide (c.kind = 5) = false := decide_eq_false ck
                          refine pure_of_wk (call := noCall) (fn := Tryd.f16) (rs := [.tmp 6]) rm1_ok noCall_ok (fns_cfg Tryd.func16 rfl) rfl rfl ?_
                          intro env hl0 hargs
                          have hn : env.length = 111 := hl0
                          have h0 := hargs 0 _ rfl
                          have h1 := hargs 1 _ rfl
                          have h2 := hargs 2 _ rfl
                          clear hargs hl0
                          refine wkT_of ?_
                          rw [fe_self hn]
                          (try simp -dsimp (disch := omega) only [h0, h1, h2, r3, r5, r9, r13, bxt_ro hb hfl, bxt_ro wb wfl, cellsA, vp39 h5, vp39 w5, hbs, wbs, bare_s, len_s, gf0, vp3, c0, qa, ql, qlw, qg, qgw, qt, btv, qgt, qd, qdw, Bool.not_true, Bool.not_false, ct_prim rm1_53, ct_prim rm1_29, ct_prim rm1_32, ct_prim rm1_38, ct_prim rm1_30, hl6, hl7, hl8, hl9, qtx, qgc, o_al0, st0, o_blk, List.getElem?_cons_zero, gfp0, cc0, dc, ct_prim rm1_44, ct_prim rm1_39, ct_prim rm1_57, ct_prim rm1_40, ct_prim rm1_54, ct_prim rm1_37, AS, avals, apairs, bareP, AV.bare, AV.bares, Nat.reduceEqDiff, Nat.reduceLT, Nat.reduceAdd, ↓reduceIte, reduceCtorEq, resA, resA1, resVal, Nat.reduceLeDiff, nb_cfg, Nat.reduceBEq, AX, Int.reduceLT, Int.reduceLE, Int.reduceEq, Int.reduceAdd, Int.reduceSub, Int.reduceMul, Int.reduceNeg, Int.reduceNe])
                          exact ⟨1, rfl⟩
                        have dc : decide (c.kind = 5) = true := decide_eq_true ck
                        have qky := kyQ_eq t
                        have ktv := kA_tv t
                        have lT := len23 (prim := rm1) ktv.el
                        rw [List.length_map] at lT
                        obtain ⟨n3, hn3⟩ : ∃ n3, (kL t).length = n3 := ⟨_, rfl⟩
                        have hn3b : n3 ≤ 100 := by rw [← hn3]; exact kL_len t
                        rw [hn3] at lT
                        cases c with
                        | mk ckk cn cS cl mc =>
                          have ckk5 : ckk = 5 := ck
                          subst ckk5
                          obtain ⟨rfl, rfl, rfl, hric, hmec2⟩ := may_map hcmay
                          have f1 : FV (G5 mc) (.agg c1) := f1
                          have hci : m[i]? = some (ctK, G5 mc) := hci
                          have hcmay : (G5 mc).may = true := hcmay
                          have hcm : (ctK, G5 mc) ∈ m := hcm
                          have hcs : (G5 mc).sml := (smlm_all hsm.2.2.2.2 (ctK, G5 mc) hcm).2
                          have hdc1 : GV.dwm mc ≤ 1000 := hd2 _ hcm
                          have hdc := dwm_mem hcm
                          have hdc : (G5 mc).dw ≤ GV.dwm m := hdc
                          rw [G5_dw_eq hdc1] at hdc
                          have hmcl : mc.length ≤ 3000 := hln2 _ hcm
                          have hmcl2 : ∀ p ∈ mc, p.2.mems.length ≤ 3000 := fun p hp => by
                            obtain ⟨a, b⟩ := wt_deep (by decide) (by decide) hsm (by decide) (by decide) (show (G5 m).wt 3000 0 ≤ 3000 from hlt) (ctK, G5 mc) hcm
                            obtain ⟨a2, b2⟩ := wt_deep (by decide) (by decide) a (d := 0 + 1) (by decide) (by decide) b p hp
                            have := wt_len (by decide) (by decide) a2 (d := 0 + 1 + 1) (by decide) (by decide) b2
                            omega
                          obtain ⟨s1, q1, g1, g2, _⟩ := set_red (key := key) f1 hcs hric hmec hmcl hmcl2 hfw hwm (by omega) (by omega)
                          have hil := insK_len (key, w) mc
                          obtain ⟨s2, q2, k1, k2, k3⟩ := set_red (key := ctK) hfv hsm hri hme (by omega) hln2 g1 g2 (by show (insK (key, w) mc).length ≤ _; omega) (by decide)
                          obtain ⟨s3, q3, j1, j2, j3⟩ := set_red (key := nbK) hfv hsm hri hme (by omega) hln2 hfw hwm (by omega) (by decide)
                          have hX : RdX (G5 m, .agg cs) := ⟨hfv, hsm, hfew⟩
                          have p0 := rpQ_eq hX
                          have p2 := rpQ_eq k3
                          have p3 := rpQ_eq j3
                          have u0 := (rpR_ok hX).2
                          have u2 := (rpR_ok k3).2
                          have u3 := (rpR_ok j3).2
                          have hgood1 : (G5 (insK (key, w) mc)).may = true := put_may hcmay hmayw hkey
                          have hdm1 : GV.dwm (insK (key, w) mc) ≤ 46 := put_dwm (by decide) (by omega) (by omega)
                          have hgd1 : (G5 (insK (key, w) mc)).dw ≤ 47 := by rw [G5_dw_eq (by omega)]; omega
                          have hgood2 : (G5 (insK (ctK, G5 (insK (key, w) mc)) m)).good = true := good_of (put_may hmay hgood1 ctK_utf) (by have := put_dwm (m := m) (key := ctK) (w := G5 (insK (key, w) mc)) (a := 47) (by decide) (by omega) hgd1; omega)
                          have hgood3 : (G5 (insK (nbK, w) m)).good = true := good_of (put_may hmay hmayw nbK_utf) (by have := put_dwm (m := m) (key := nbK) (w := w) (a := 47) (by decide) (by omega) (by omega); omega)
                          have hr3 : redG (G5 (insK (nbK, w) m)) = redG (G5 m) := red_nobody hg hgood3
                          have u0 : FV (redG (G5 m)) (rpR (G5 m, .agg cs)) := u0
                          have u2 : FV (redG (G5 (insK (ctK, G5 (insK (key, w) mc)) m))) (rpR (G5 (insK (ctK, G5 (insK (key, w) mc)) m), .agg s2)) := u2
                          have u3 : FV (redG (G5 (insK (nbK, w) m))) (rpR (G5 (insK (nbK, w) m), .agg s3)) := u3
                          rw [hr3] at u3
                          have e3 := eqP_eq u3 u0
                          have e2 := eqP_eq u2 u0
                          rw [dq_eq rfl] at e3
                          have bu0 := u0.bare
                          have bu2 := u2.bare
                          have bu3 := u3.bare
                          obtain ⟨R0, hR0⟩ : ∃ R, rpR (G5 m, .agg cs) = R := ⟨_, rfl⟩
                          obtain ⟨R2, hR2⟩ : ∃ R, rpR (G5 (insK (ctK, G5 (insK (key, w) mc)) m), .agg s2) = R := ⟨_, rfl⟩
                          obtain ⟨R3, hR3⟩ : ∃ R, rpR (G5 (insK (nbK, w) m), .agg s3) = R := ⟨_, rfl⟩
                          rw [hR0] at p0 e2 e3 bu0
                          rw [hR2] at p2 e2 bu2
                          rw [hR3] at p3 e3 bu3
                          replace p0 : rpQ [.agg cs] = some R0 := p0
                          replace p2 : rpQ [.agg s2] = some R2 := p2
                          replace p3 : rpQ [.agg s3] = some R3 := p3
                          have hfin : key ∉ kL t → eqP [R2, R0] = some (.v (.bool true)) := fun hn => by
                            rw [e2]
                            congr 3
                            refine dq_eq (red_content hg hgood2 hidx hci fun t' ht' => ?_)
                            have : t' = t := by
                              unfold textR at et
                              rw [ht'] at et
                              injection et with et
                              injection et with et _
                              exact str_inj et
                            rw [this]
                            exact hn
                          have s1b := g1.bs
                          have s2b := k1.bs
                          have s3b := j1.bs
                          have s25 := k1.l5
                          have s2f := k1.fl
                          replace q2 : saQ [.agg cs, str [99, 111, 110, 116, 101, 110, 116], .agg s1] = some (.agg s2) := q2
                          replace q3 : saQ [.agg cs, str [110, 111, 98, 111, 100, 121, 39, 115], .agg ds] = some (.agg s3) := q3
                          have st1 := o_st1 (prim := rm1) (b0 := ⟨0, 5, [.agg c1]⟩) [] s25 s2f
                          clear hX k3 j3 hR0 hR2 hR3 e2
                          refine pure_of_wk (call := noCall) (fn := Tryd.f16) (rs := [.tmp 6]) rm1_ok noCall_ok (fns_cfg Tryd.func16 rfl) rfl rfl ?_
                          intro env hl0 hargs
                          have hn : env.length = 111 := hl0
                          have h0 := hargs 0 _ rfl
                          have h1 := hargs 1 _ rfl
                          have h2 := hargs 2 _ rfl
                          clear hargs hl0
                          refine wkT_of ?_
                          rw [fe_self hn]
                          (try simp -dsimp (disch := omega) only [h0, h1, h2, r3, r5, r9, r13, bxt_ro hb hfl, bxt_ro wb wfl, cellsA, vp39 h5, vp39 w5, hbs, wbs, bare_s, len_s, gf0, vp3, c0, qa, ql, qlw, qg, qgw, qt, btv, qgt, qd, qdw, Bool.not_true, Bool.not_false, ct_prim rm1_53, ct_prim rm1_29, ct_prim rm1_32, ct_prim rm1_38, ct_prim rm1_30, hl6, hl7, hl8, hl9, qtx, qgc, qky, o_al0, st0, o_blk, List.getElem?_cons_zero, gfp0, cc0, dc, ct_prim rm1_44, ct_prim rm1_39, ct_prim rm1_57, ct_prim rm1_40, ct_prim rm1_54, ct_prim rm1_37, AS, avals, apairs, bareP, AV.bare, AV.bares, Nat.reduceEqDiff, Nat.reduceLT, Nat.reduceAdd, ↓reduceIte, reduceCtorEq, resA, resA1, resVal, Nat.reduceLeDiff, nb_cfg, Nat.reduceBEq, AX, Int.reduceLT, Int.reduceLE, Int.reduceEq, Int.reduceAdd, Int.reduceSub, Int.reduceMul, Int.reduceNeg, Int.reduceNe])
                          refine wt_loop (m := n3) (fun q e h => ∃ i, i + q = n3 ∧ (∀ j k, j < i → (kL t)[j]? = some k → k ≠ key) ∧ RmJ (.agg cs) (.agg ds) (str key) (str t) (kA t) (.agg c1) i e h) ?_ ?_
                          · clear hn h0 h1 h2
                            rintro q e h ⟨i2, hi2, hall, hn, h1, h3, h5', h9, h11, h12, rfl⟩
                            rw [fe_self hn]
                            cases q with
                            | zero =>
                              have di : decide ((i2 : Int) < (n3 : Int)) = false := decide_eq_false (by omega)
                              have hnot : key ∉ kL t := fun hc => by
                                obtain ⟨j, hj⟩ := List.getElem?_of_mem hc
                                exact hall j key (by have := (List.getElem?_eq_some_iff.1 hj).1; omega) hj rfl
                              have e2 := hfin hnot
                              (try simp -dsimp (disch := omega) only [h1, h3, h5', h9, h11, h12, r13, lT, di, o_blk, o_blk1, List.getElem?_cons_zero, cellsA, vp39 h5, vp39 w5, vp39 f2, vp39 s25, hbs, wbs, cbs, s1b, s2b, s3b, bare_s, bu0, bu2, bu3, q1, q2, q3, p0, p2, p3, e2, e3, o_al1, st1, Bool.not_true, Bool.not_false, ct_prim rm1_44, ct_prim rm1_39, ct_prim rm1_57, ct_prim rm1_40, ct_prim rm1_54, ct_prim rm1_37, AS, avals, apairs, bareP, AV.bare, AV.bares, Nat.reduceEqDiff, Nat.reduceLT, Nat.reduceAdd, ↓reduceIte, reduceCtorEq, resA, resA1, resVal, Nat.reduceLeDiff, nb_cfg, Nat.reduceBEq, AX, Int.reduceLT, Int.reduceLE, Int.reduceEq, Int.reduceAdd, Int.reduceSub, Int.reduceMul, Int.reduceNeg, Int.reduceNe])
                              refine ⟨by kernel_rfl, by kernel_rfl, ?_⟩
                              exact ⟨1, rfl⟩
                            | succ q =>
                              have di : decide ((i2 : Int) < (n3 : Int)) = true := decide_eq_true (by omega)
                              obtain ⟨k0, hk0⟩ : ∃ k0, (kL t)[i2]? = some k0 := ⟨(kL t)[i2]'(by omega), List.getElem?_eq_getElem (by omega)⟩
                              have ixk := ix23 (prim := rm1) (k := k0) ktv.el (strs_get hk0)
                              have ei : (i2 : Int) + 1 = ((i2 + 1 : Nat) : Int) := by omega
                              have wi : IntKind.i64.wrap ((i2 + 1 : Nat) : Int) = ((i2 + 1 : Nat) : Int) := wrap64 (by omega) (by omega)
                              cases hke : decide (k0 = key) with
                              | true =>
                                (try simp -dsimp (disch := omega) only [h1, h3, h5', h9, h11, h12, lT, di, ixk, mp9, cellsS, List.getElem?_cons_zero, hke, AS, avals, apairs, bareP, AV.bare, AV.bares, Nat.reduceEqDiff, Nat.reduceLT, Nat.reduceAdd, ↓reduceIte, reduceCtorEq, resA, resA1, resVal, Nat.reduceLeDiff, nb_cfg, Nat.reduceBEq, AX, Int.reduceLT, Int.reduceLE, Int.reduceEq, Int.reduceAdd, Int.reduceSub, Int.reduceMul, Int.reduceNeg, Int.reduceNe])
                                exact ⟨1, rfl⟩
                              | false =>
                                (try simp -dsimp (disch := omega) only [h1, h3, h5', h9, h11, h12, lT, di, ixk, mp9, cellsS, List.getElem?_cons_zero, hke, wi, ei, AS, avals, apairs, bareP, AV.bare, AV.bares, Nat.reduceEqDiff, Nat.reduceLT, Nat.reduceAdd, ↓reduceIte, reduceCtorEq, resA, resA1, resVal, Nat.reduceLeDiff, nb_cfg, Nat.reduceBEq, AX, Int.reduceLT, Int.reduceLE, Int.reduceEq, Int.reduceAdd, Int.reduceSub, Int.reduceMul, Int.reduceNeg, Int.reduceNe])
                                refine ⟨q, by omega, i2 + 1, by omega, fun j k hj hk => ?_, fe_len, ?_, ?_, ?_, ?_, ?_, ?_, rfl⟩
                                case refine_1 =>
                                  rcases Nat.lt_or_ge j i2 with h | h
                                  · exact hall j k h hk
                                  · obtain rfl : j = i2 := by omega
                                    rw [hk0] at hk
                                    injection hk with hk
                                    rw [← hk]
                                    exact of_decide_eq_false hke
                                all_goals (try simp -dsimp (disch := omega) only [h1, h3, h5', h9, h11, h12, AS, avals, apairs, bareP, AV.bare, AV.bares, Nat.reduceEqDiff, Nat.reduceLT, Nat.reduceAdd, ↓reduceIte, reduceCtorEq, resA, resA1, resVal, Nat.reduceLeDiff, nb_cfg, Nat.reduceBEq, AX, Int.reduceLT, Int.reduceLE, Int.reduceEq, Int.reduceAdd, Int.reduceSub, Int.reduceMul, Int.reduceNeg, Int.reduceNe])
                          · refine ⟨0, by omega, (fun j k hj => by omega), fe_len, ?_, ?_, ?_, ?_, ?_, ?_, rfl⟩
                            all_goals (try simp -dsimp (disch := omega) only [h0, h1, h2, AS, avals, apairs, bareP, AV.bare, AV.bares, Nat.reduceEqDiff, Nat.reduceLT, Nat.reduceAdd, ↓reduceIte, reduceCtorEq, resA, resA1, resVal, Nat.reduceLeDiff, nb_cfg, Nat.reduceBEq, AX, Int.reduceLT, Int.reduceLE, Int.reduceEq, Int.reduceAdd, Int.reduceSub, Int.reduceMul, Int.reduceNeg, Int.reduceNe])
                            all_goals rfl
end Go.Proofs.YtjejeijldllloaaDoor

/- Chapter 2: values that are computed from what lies: contracts that compute. -/
namespace Go.Proofs.YtjejeijldllloaaDoor
open Go.AM
instance riseDec (m : Ms) : Decidable (m.Pairwise fun a b => bl a.1 b.1 = true) := inferInstance
end Go.Proofs.YtjejeijldllloaaDoor

/- Chapter 2: more contracts that compute. -/
namespace Go.Proofs.YtjejeijldllloaaDoor
open Go.AM
end Go.Proofs.YtjejeijldllloaaDoor
