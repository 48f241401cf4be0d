/- What a program's functions are checked by. -/
import Derived.Test.YtcimffpckcbdlaaAmC
import Derived.Test.YtcimffpckcbdlaaAmB
import Derived.Test.YtcimffpckcbdlaaAmD
import Derived.Sort.Grow
import Derived.Sort.EncStr
set_option linter.unusedSimpArgs false
set_option linter.unusedVariables false
namespace Go.AM
/-- One function's check. -/
def chkF (P : Program) (f : FuncId) : Bool := match P.funcs[f]? with
  | some fn => !(fn.name == "runtime.NumGoroutine") && (match fn.body with | some c => regionsOk c | none => true)
  | none => true
def allF (P : Program) : List FuncId → Prop
  | [] => True
  | f :: l => chkF P f = true ∧ allF P l
theorem allF_mem {P : Program} : ∀ {l : List FuncId}, allF P l → ∀ f ∈ l, chkF P f = true
  | [], _, f, h => by cases h
  | g :: l, h, f, hf => by
    rcases List.mem_cons.1 hf with rfl | hf
    · exact h.1
    · exact allF_mem h.2 f hf
theorem funcsOk_of {P : Program} {l : List FuncId} (h : allF P l) : funcsOk P (fun f => l.contains f) = true := by
  unfold funcsOk
  rw [List.all_eq_true]
  intro f _
  cases hf : l.contains f with
  | false => simp only [hf, Bool.not_false, Bool.true_or]
  | true =>
    have := allF_mem h f (by simpa using hf)
    unfold chkF at this
    simp only [hf, Bool.not_true, Bool.false_or]
    exact this
end Go.AM

/- A row of texts that the library sorts in its place, as a contract of the machine. -/
namespace Go.AM
theorem cell_lt' {W : World} {b o : Nat} {v : Value} (h : W.cell? ⟨b, o, none⟩ = some v) : b < W.heap.size := by
  apply Decidable.byContradiction
  intro hn
  have : W.heap[b]? = none := by simp; omega
  simp [World.cell?, this] at h
theorem sim_ext' {C : Cfg} {G : Gs} {H : Hp} {W W' : World} (S : Sim C G H W) (E : W.Extends W') : Sim C G H W' where
  base := Nat.le_trans S.base E.size
  im b o v x := by
    have := S.im b o v x
    rw [E.cell _ (cell_lt' this)]; exact this
  lit b x := ⟨(S.lit b x).1, Nat.lt_of_lt_of_le (S.lit b x).2.1 E.size, (S.lit b x).2.2⟩
  own b w x := ⟨(S.own b w x).1, Nat.lt_of_lt_of_le (S.own b w x).2 E.size⟩
  tok t e tid x hs := by
    obtain ⟨y, size, vals, h1, h2, h0, h3, h4⟩ := S.tok t e tid x hs
    exact ⟨y, size, vals, h1, h2, h0, ownsRow_of_heap h3 fun B hB => E.block B (S.own B _ (h4 B hB).1).2, h4⟩
  tokN := S.tokN
  blk b k x := by
    obtain ⟨B, o, cells, tid, h1, h2, h3, h4⟩ := S.blk b k x
    exact ⟨B, o, cells, tid, h1, ⟨(E.block B (S.own B _ h3).2).trans h2.1, h2.2⟩, h3, h4⟩
  blkN := S.blkN
  gl := S.gl
  mp m es x := (S.mp m es x).move (Gle.refl _) (fun R _ hR => E.block R hR) (fun _ x _ => x)
  mpN := S.mpN
theorem adv_ext' {G : Gs} {W W' : World} (E : W.Extends W') : Adv G W G W' where
  gle := Gle.refl _
  os := E.os
  tape := E.tape
  output := E.output
  size := E.size
  frame B hB _ _ := E.block B hB
  ownK _ _ h := h
  litK _ _ h := h
  imK _ _ _ _ _ h := h
theorem grow_ext (w : World) (n : Nat) (os : Array Obj) : w.Extends (Sort.grow (Sort.ahead w n) os) := by
  have hb : ∀ i : Nat, i < w.heap.size → (Sort.grow (Sort.ahead w n) os).heap[i]? = w.heap[i]? := fun i hi => Sort.heap_grow_old (Sort.ahead w n) os hi
  exact ⟨rfl, rfl, rfl, by simp [Sort.grow, Sort.ahead], fun a ha => by simp only [World.cell?, hb _ ha], fun a ha => by simp only [World.frozen?, hb _ ha], hb⟩
/-- Texts, in the order in which they rise. -/
def sortT (l : List (List UInt8)) : List (List UInt8) := l.mergeSort fun x y => decide (x ≤ y)
theorem sortT_len (l : List (List UInt8)) : (sortT l).length = l.length := by simp [sortT]
section
variable {C : Cfg} {f : FuncId}
def SortC (C : Cfg) (f : FuncId) : Prop :=
  ∀ (blk off cap : Nat) (ss : List (List UInt8)) (w : World), Sort.Holds Go.Proofs.encStr w blk off ss.toArray → blk < w.heap.size → ss.length < 4611686018427387904 →
    Calls C.P f #[.slice (some ⟨blk, off, none⟩) ss.length cap] w fun e w' => e = .returned (.tuple #[]) ∧ ∃ n os, w' = Sort.grow (Sort.putRow Go.Proofs.encStr (Sort.ahead w n) blk off (ss.mergeSort fun x y => decide (x ≤ y)).toArray) os
theorem putRow_setRow {w : World} {B : Nat} {cells : Array Value} {tid : TypeId} {fr : Nat × Nat} (h : w.heap[B]? = some (.cells cells tid fr)) (o n : Nat) (d : Array (List UInt8)) :
    Sort.putRow Go.Proofs.encStr (Sort.ahead w n) B o d = Sort.ahead (w.setRow B (Sort.putCells Go.Proofs.encStr o d cells)) n := by
  unfold Sort.putRow Sort.mapBlock World.setRow Sort.ahead
  simp only [World.mk.injEq, and_true, true_and]
  apply Array.ext_getElem?
  intro k
  simp only [Array.getElem?_modify]
  by_cases hk : B = k
  · subst hk
    simp only [h, if_true, Option.map_some, Sort.onCells]
  · simp [hk]
theorem sort_call (hc : SortC C f) {H : Hp} {b g : Nat} {L : List (List UInt8)} {r : List AV} (hb : H.blks[b]? = some ⟨g, 1, L.map str ++ r⟩) (hL : L.length < 4611686018427387904) :
    CallOk C f [.ex b g 1 0 L.length] H (.tup []) { H with blks := H.blks.set b ⟨g, 1, (sortT L).map str ++ r⟩ } := by
  intro G W vs S rr
  obtain ⟨v, zs, rfl, rv, rfl⟩ := rr
  obtain ⟨B, o, sz, c, h1, h0, rfl, h3, h4, h5⟩ := rv
  obtain ⟨B', q', cells, ⟨ti, lo, hi⟩, k1, k2, k3, k4, k5, k6⟩ := S.blk b _ hb
  rw [h1] at k1
  injection k1 with k1
  injection k1 with e1 k1
  injection k1 with e2 k1
  injection k1 with e3 e4
  subst e1; subst e2; subst e3
  clear h0 e4
  have hlen : (L.map str ++ r).length = L.length + r.length := by simp
  have hold : Sort.Holds Go.Proofs.encStr W B (o + 0 * 1) L.toArray := by
    intro j hj
    have hj : j < L.length := by simpa using hj
    have hk5 : o + (L.length + r.length) * 1 ≤ cells.size := by rw [← hlen]; exact k5
    refine ⟨?_, ?_⟩
    · obtain ⟨z, r1, r2, r3⟩ := k6 j (str L[j]) (by rw [List.getElem?_append_left (by simpa using hj)]; simp [hj])
      obtain ⟨rfl, _⟩ := r1
      have := (r3 0 (.string ⟨L[j].toArray⟩) rfl).1
      simp only [World.cell?, k2.1, Option.isSome_none, Bool.false_eq_true, if_false]
      have e : o + 0 * 1 + j = o + j * 1 + 0 := by omega
      rw [e, this]
      simp [hj]
    · simp only [World.frozen?, k2.1]
      rcases k2.2.1 with hh | ⟨_, hh⟩
      · have q2 : hi = 0 := congrArg Prod.snd hh
        simp [q2]
      · have : ¬ lo ≤ o + j := by simp at hh; omega
        simp [this]
  have hB : B < W.heap.size := (Array.getElem?_eq_some_iff.1 k2.1).1
  refine (hc B (o + 0 * 1) c L W hold hB hL).mono ?_
  rintro e w' ⟨rfl, n, os, rfl⟩
  have hs : (Sort.putCells Go.Proofs.encStr (o + 0 * 1) (sortT L).toArray cells).size = cells.size := by simp [Sort.putCells]
  have hl2 : ((sortT L).map str ++ r).length = (L.map str ++ r).length := by simp [sortT_len]
  obtain ⟨S1, A1⟩ := S.setBlk hb h1 k2.1 k2.2 k3 hs (xs := (sortT L).map str ++ r) (by rw [hl2]; exact k5) (by
    intro i x hx
    have hi : i < ((sortT L).map str ++ r).length := (List.getElem?_eq_some_iff.1 hx).1
    have hcl : o + i < cells.size := by
      rw [hl2, hlen] at hi
      have hk5 : o + (L.length + r.length) * 1 ≤ cells.size := by rw [← hlen]; exact k5
      omega
    by_cases hin : i < L.length
    · rw [List.getElem?_append_left (by simpa [sortT_len] using hin)] at hx
      have hin' : i < (sortT L).length := by rw [sortT_len]; exact hin
      rw [List.getElem?_map, List.getElem?_eq_getElem hin'] at hx
      injection hx with hx
      subst hx
      refine ⟨.string ⟨(sortT L)[i].toArray⟩, ⟨rfl, rfl⟩, rfl, fun j v hv => ?_⟩
      have hj : j = 0 := by
        have := (Array.getElem?_eq_some_iff.1 hv).1
        have e : (Value.string ⟨(sortT L)[i].toArray⟩).cells.size = 1 := rfl
        omega
      subst hj
      have hv' : v = .string ⟨(sortT L)[i].toArray⟩ := (Option.some.inj hv).symm
      subst hv'
      refine ⟨?_, rfl⟩
      simp only [Sort.putCells, Array.getElem?_mapIdx]
      have e : o + i * 1 + 0 = o + i := by omega
      rw [e, Array.getElem?_eq_getElem hcl, Option.map_some, if_pos ⟨by omega, by simp [sortT_len]; omega⟩]
      have e2 : o + i - (o + 0 * 1) = i := by omega
      rw [e2]
      simp [hin']
    · have hx' : (L.map str ++ r)[i]? = some x := by
        rw [List.getElem?_append_right (by simpa using hin)]
        rw [List.getElem?_append_right (by simpa [sortT_len] using hin)] at hx
        simpa [sortT_len] using hx
      obtain ⟨z, r1, r2, r3⟩ := k6 i x hx'
      refine ⟨z, r1, r2, fun j v hv => ⟨?_, (r3 j v hv).2⟩⟩
      have := (r3 j v hv).1
      have hj : j = 0 := by
        have := (Array.getElem?_eq_some_iff.1 hv).1
        rw [r2] at this
        exact Nat.lt_one_iff.1 this
      subst hj
      simp only [Sort.putCells, Array.getElem?_mapIdx]
      have e : o + i * 1 + 0 = o + i := by omega
      rw [e] at this ⊢
      rw [this, Option.map_some, if_neg]
      simp only [List.size_toArray, sortT_len]
      omega)
  refine ⟨_, rfl, G, ⟨#[], rfl, rfl⟩, ?_, ?_⟩
  · have E := grow_ext (W.setRow B (Sort.putCells Go.Proofs.encStr (o + 0 * 1) (sortT L).toArray cells)) n os
    have e := putRow_setRow k2.1 (o + 0 * 1) n (sortT L).toArray
    rw [show (L.mergeSort fun x y => decide (x ≤ y)) = sortT L from rfl, e]
    exact sim_ext' S1 E
  · have E := grow_ext (W.setRow B (Sort.putCells Go.Proofs.encStr (o + 0 * 1) (sortT L).toArray cells)) n os
    have e := putRow_setRow k2.1 (o + 0 * 1) n (sortT L).toArray
    rw [show (L.mergeSort fun x y => decide (x ≤ y)) = sortT L from rfl, e]
    exact A1.trans (adv_ext' E)
theorem sort_none (hc : ∀ (p : Option Addr) (cap : Nat) (w : World), Calls C.P f #[.slice p 0 cap] w fun e w' => e = .returned (.tuple #[]) ∧ w' = w) (H : Hp) : CallOk C f [.v (.slice none 0 0)] H (.tup []) H := by
  intro G W vs S rr
  obtain ⟨v, zs, rfl, ⟨rfl, _⟩, rfl⟩ := rr
  refine (hc none 0 W).mono ?_
  rintro e w' ⟨rfl, rfl⟩
  exact ⟨_, rfl, G, ⟨#[], rfl, rfl⟩, S, Adv.refl G _⟩
end
end Go.AM
