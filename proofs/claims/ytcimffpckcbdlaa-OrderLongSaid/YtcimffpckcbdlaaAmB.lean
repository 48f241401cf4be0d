/- An abstract machine for loaded programs: what it computes, the machine computes. -/
import Derived.Test.YtcimffpckcbdlaaAmA
import Derived.Laws.MakeOwn
import Derived.MapKept
import Derived.Laws.Externs
import Derived.Still
import Derived.LoopN
set_option linter.unusedSimpArgs false
set_option linter.unusedVariables false
namespace Go.AM
section
variable {C : Cfg} {G : Gs} {H : Hp} {W : World} {o : Oper} {a : Act} {env : Env} {x : AV}

/-! ### What is appended -/
/-- What 'append' takes its cells from. -/
structure Src (P : Program) (u : TypeId) (x : Value) (m : Nat) (size : Nat) (news : List Value) (W : World) : Prop where
  typ : ∃ d, P.underlying u = some d ∧ ∀ k, d ≠ .int k
  len : ∀ W', (Builtin.lenOf x).run P W' = .ok m W'
  cells : (Builtin.firstCells size m x).run P W = .ok news.toArray W
  cells' : (Builtin.firstCells size m x).run P W.drew = .ok news.toArray W.drew
  long : news.length = m * size
  one : ∀ v ∈ news, v.oneCell' = true

theorem Src.slice {P : Program} {u e : TypeId} (hu : P.underlying u = some (.slice e)) {ad : Addr} {m c size : Nat} {news : List Value} (hl : news.length = m * size) (h : ∀ j v, news[j]? = some v → W.cell? (ad.add j) = some v) (h1 : ∀ v ∈ news, v.oneCell' = true) :
    Src P u (.slice (some ad) m c) m size news W :=
  ⟨⟨_, hu, fun k => by simp⟩, fun _ => rfl, run_firstCells_some W size m ad m c news hl h, run_firstCells_some W.drew size m ad m c news hl (by simpa using h), hl, h1⟩
theorem Src.string {P : Program} {u : TypeId} (hu : P.underlying u = some .string) (s : ByteArray) : Src P u (.string s) s.size 1 (s.data.toList.map fun c => Value.int .u8 c.toNat) W := by
  have hf : ∀ W', (Builtin.firstCells 1 s.size (.string s)).run P W' = .ok (s.data.toList.map fun c => Value.int .u8 c.toNat).toArray W' := by
    intro W'
    have hx : (s.extract 0 s.size) = s := by simp
    simp only [Builtin.firstCells, hx, Sem.run_pure]
    congr 1
    apply Array.ext'
    simp
  exact ⟨⟨_, hu, fun k => by simp⟩, fun _ => rfl, hf _, hf _, by simp, fun v hv => by simp at hv; obtain ⟨c, _, rfl⟩ := hv; rfl⟩

variable {P : Program}
theorem run_append_here {t u ty e : TypeId} {i : TypeInfo} (ht : P.underlying t = some (.slice e)) (hi : P.info? e = some i) {y : Value} {m : Nat} {news : List Value} (hs : Src P u y m i.size news W)
    {g n cap : Nat} {cur : Array Value} (hg : W.heap[g]? = some (.cells cur e (0, 0))) (hroom : n + m ≤ cap) (hfit : n * i.size + news.length ≤ cur.size) :
    (Builtin.append_ #[t, u] ty #[.slice (some ⟨g, 0, none⟩) n cap, y]).run P W =
      .ok (.slice (some ⟨g, 0, none⟩) (n + m) cap) (W.setRow g (cur.toList.take (n * i.size) ++ news ++ cur.toList.drop (n * i.size + news.length)).toArray) := by
  obtain ⟨d, hd, hn⟩ := hs.typ
  have hst := run_storeCells_at (P := P) g (n * i.size) e news 0 cur W hg (by simpa using hfit) hs.one
  simp only [Nat.add_zero] at hst
  simp [Builtin.append_, run_underlying ht, run_underlying hd, sizeOf, typeInfo, hi, hs.len, hroom, hs.cells, Addr.add_lit, hst]

theorem run_append_far {t u ty e : TypeId} {i : TypeInfo} {z : Value} (ht : P.underlying t = some (.slice e)) (hi : P.info? e = some i) (hz : i.zero = some z) {y : Value} {m : Nat} {news : List Value} (hs : Src P u y m i.size news W)
    {b : Option Addr} {n cap : Nat} {olds : List Value} (_hlo : olds.length = n * i.size) (hold : (Builtin.firstCells i.size n (.slice b n cap)).run P W.drew = .ok olds.toArray W.drew)
    (hg : cap < n + m) (h63 : n + m ≤ 9223372036854775807) (hfit : Builtin.nextslicecap (n + m) cap * i.bytes ≤ 281474976710656) :
    (Builtin.append_ #[t, u] ty #[.slice b n cap, y]).run P W =
      .ok (.slice (some ⟨W.heap.size, 0, none⟩) (n + m) (grownCap W (n + m) cap e)) (W.drew.alloc (.cells (olds.toArray ++ news.toArray ++ Builtin.zeroCells z.cells (grownCap W (n + m) cap e - (n + m))) e)) := by
  obtain ⟨d, hd, hn⟩ := hs.typ
  have hng : ¬ (n + m ≤ cap) := by omega
  have h63' : ¬ (9223372036854775807 < ((n : Int) + (m : Int))) := by omega
  have h48' : ¬ (281474976710656 < Builtin.nextslicecap (n + m) cap * i.bytes) := by omega
  simp [Builtin.append_, run_underlying ht, run_underlying hd, sizeOf, typeInfo, zeroValue, hi, hz, hs.len, hng, h63', h48', Question.forced, hs.cells', hold, newRow, grownCap]
  congr 2
  apply Array.ext'
  simp [List.append_assoc]

/-- Where what was appended to lies now. -/
theorem far_owns {e : TypeId} {z : Value} {base n m cap size : Nat} {olds news : List Value} (hzs : z.cells.size = size) (hlo : olds.length = n * size) (hl : news.length = m * size) (_hg : cap < n + m) (h63 : n + m ≤ 9223372036854775807) (hb : base ≤ W.heap.size) :
    (W.drew.alloc (.cells (olds.toArray ++ news.toArray ++ Builtin.zeroCells z.cells (grownCap W (n + m) cap e - (n + m))) e)).ownsRow base e size (.slice (some ⟨W.heap.size, 0, none⟩) (n + m) (grownCap W (n + m) cap e)) (n + m) (olds ++ news) ∧
    W.grownBy (W.drew.alloc (.cells (olds.toArray ++ news.toArray ++ Builtin.zeroCells z.cells (grownCap W (n + m) cap e - (n + m))) e)) none := by
  have hge := grownCap_ge W (n + m) cap e
  have hcm : grownCap W (n + m) cap e ≤ maxLen := grownCap_le_maxLen W (n + m) cap e (by simp only [maxLen]; omega)
  have hlen : (olds ++ news).length = (n + m) * size := by rw [List.length_append, hlo, hl, Nat.add_mul]
  refine ⟨⟨hlen, .inr ⟨W.heap.size, _, _, rfl, hb, heap_alloc_new W.drew _, hge, hcm, ?_, ?_⟩⟩, ⟨rfl, rfl, rfl, by simp, fun k hk _ => heap_alloc_old W.drew _ k hk⟩⟩
  · simp only [Array.size_append, List.size_toArray, size_zeroCells, hzs, hlo, hl, ← Nat.add_mul]
    congr 1
    omega
  · simp only [Array.toList_append, List.append_assoc]
    rw [← List.append_assoc, ← hlen]
    exact List.take_left

/-- 'append' to a row of one's own, or to nil. -/
theorem run_append_mine {t u ty e : TypeId} {i : TypeInfo} {z : Value} (ht : P.underlying t = some (.slice e)) (hi : P.info? e = some i) (hz : i.zero = some z) (hzs : z.cells.size = i.size) (_hsz : 0 < i.size) {y : Value} {m : Nat} {news : List Value} (hs : Src P u y m i.size news W) (hm : 0 < m)
    {base n : Nat} {v : Value} {xs : List Value} (hown : W.ownsRow base e i.size v n xs) (h63 : n + m ≤ 9223372036854775807) (hby : (n + m) * i.bytes ≤ 140737488355328) (hb : base ≤ W.heap.size) :
    ∃ v' W', (Builtin.append_ #[t, u] ty #[v, y]).run P W = .ok v' W' ∧ W'.ownsRow base e i.size v' (n + m) (xs ++ news) ∧
      ((v'.ownBlock = v.ownBlock ∧ W.grownBy W' v.ownBlock) ∨ (v'.ownBlock = some W.heap.size ∧ W.grownBy W' none)) := by
  rcases hown.2 with ⟨rfl, rfl⟩ | ⟨g, cap, cur, rfl, hbg, hg, hnc, hcm, hcs, htake⟩
  · have hx : xs = [] := List.eq_nil_of_length_eq_zero (by simpa using hown.1)
    subst hx
    have hr := run_append_far (ty := ty) ht hi hz hs (b := none) (n := 0) (cap := 0) (olds := []) (by simp) (run_firstCells_none W.drew i.size 0 0 0) (by omega) h63 (growslice_fits (by omega) hby)
    obtain ⟨h1, h2⟩ := far_owns (W := W) (e := e) (base := base) (cap := 0) (olds := []) (n := 0) hzs (by simp) hs.long (by omega) h63 hb
    exact ⟨_, _, hr, h1, .inr ⟨rfl, h2⟩⟩
  · by_cases hroom : n + m ≤ cap
    · have hfit : n * i.size + news.length ≤ cur.size := by rw [hs.long, hcs, ← Nat.add_mul]; exact Nat.mul_le_mul_right _ hroom
      have hr := run_append_here (ty := ty) ht hi hs hg hroom hfit
      have hlen : (xs ++ news).length = (n + m) * i.size := by rw [List.length_append, hown.1, hs.long, Nat.add_mul]
      refine ⟨_, _, hr, ⟨hlen, .inr ⟨g, cap, _, rfl, hbg, setRow_heap W g cur _ e _ hg, hroom, hcm, ?_, ?_⟩⟩, .inl ⟨rfl, ⟨rfl, rfl, rfl, by simp, fun k _ hk => setRow_other W g k _ (fun e => hk (by simp [Value.ownBlock, e]))⟩⟩⟩
      · simp only [List.size_toArray, List.length_append, List.length_take, List.length_drop, Array.length_toList]
        omega
      · rw [htake, ← hlen]
        exact List.take_left
    · have holds : ∀ j u, xs[j]? = some u → W.drew.cell? ((⟨g, 0, none⟩ : Addr).add j) = some u := fun j u hj => by simpa using hown.cells (g := g) rfl j u hj
      have hr := run_append_far (ty := ty) ht hi hz hs (b := some ⟨g, 0, none⟩) (n := n) (cap := cap) (olds := xs) hown.1 (run_firstCells_some W.drew i.size n _ n cap xs hown.1 holds) (by omega) h63 (growslice_fits (by omega) hby)
      obtain ⟨h1, h2⟩ := far_owns (W := W) (e := e) (base := base) (cap := cap) (olds := xs) (n := n) hzs hown.1 hs.long (by omega) h63 hb
      exact ⟨_, _, hr, h1, .inr ⟨rfl, h2⟩⟩

/-! ### A token goes on -/
def Gs.tok (G : Gs) (t N : Nat) (y : Value) (g : Nat) (all : List Value) : Gs :=
  { g := { G.g with im := fun b o => if b = g then all[o]? else G.g.im b o, tok := fun t1 e1 => if t1 = t ∧ e1 = N then some y else G.g.tok t1 e1 }
    own := fun b => if b = g then some (.tok t) else match G.own b with | some (.tok t1) => if t1 = t then none else some (.tok t1) | w => w }

theorem Sim.tokNext (S : Sim C G H W) {W' : World} {t N : Nat} {tid : TypeId} {y : Value} {g size : Nat} {all : List Value} (hsz : C.csz tid = some size) (h0 : 0 < size) (hy : y.ownBlock = some g) (hown : W'.ownsRow G.g.base tid size y N all)
    (hrow : (W.heap.size ≤ g ∧ W.grownBy W' none) ∨ (G.own g = some (.tok t) ∧ W.grownBy W' (some g) ∧ ∀ o v, G.g.im g o = some v → all[o]? = some v))
    (hnew : ∀ e, N ≤ e → G.g.tok t e = none) {toks : List (Nat × TypeId)} (ht : toks[t]? = some (N, tid)) (ho : ∀ t1, t1 ≠ t → toks[t1]? = H.toks[t1]?) (ho1 : ∀ v ∈ all, v.oneCell' = true) :
    Sim C (G.tok t N y g all) { H with toks := toks } W' ∧ Adv G W (G.tok t N y g all) W' ∧ ImAt (G.tok t N y g all).g g 0 all := by
  have hgrow : ∃ row, W.grownBy W' row ∧ ∀ B, row = some B → B = g := by
    rcases hrow with ⟨_, h⟩ | ⟨_, h, _⟩
    · exact ⟨none, h, fun B e => by cases e⟩
    · exact ⟨some g, h, fun B e => by injection e with e; exact e.symm⟩
  obtain ⟨row, hgr, hrow1⟩ := hgrow
  have him : ∀ b o v, G.g.im b o = some v → b < W.heap.size := fun b o v x => World.block_lt_of_cell? W _ (S.im b o v x)
  have hheap : ∀ B, B < W.heap.size → B ≠ g → W'.heap[B]? = W.heap[B]? := fun B hB hne => hgr.block B hB (fun e => hne (hrow1 B e.symm))
  have hg : G.g.base ≤ g ∧ g < W'.heap.size := hown.lt g hy
  have hgown : g < W.heap.size → G.own g = some (.tok t) := fun h => by
    rcases hrow with ⟨h', _⟩ | ⟨h', _⟩
    · omega
    · exact h'
  have hgle : Gle G.g (G.tok t N y g all).g := by
    refine ⟨rfl, fun b o v x => ?_, fun _ x => x, fun t1 e1 v x => ?_, fun _ _ _ x => x, fun _ _ x => x⟩
    · simp only [Gs.tok]
      split
      · rename_i e; subst e
        rcases hrow with ⟨h', _⟩ | ⟨_, _, h'⟩
        · have := him b o v x; omega
        · exact h' o v x
      · exact x
    · simp only [Gs.tok]
      split
      · rename_i e; obtain ⟨rfl, rfl⟩ := e
        rw [hnew _ (Nat.le_refl _)] at x
        cases x
      · exact x
  have hat : ImAt (G.tok t N y g all).g g 0 all := fun j v hj => by
    refine ⟨?_, ho1 v (List.mem_of_getElem? hj)⟩
    simp only [Gs.tok]
    rw [if_pos trivial, Nat.zero_add]
    exact hj
  have hcells := hown.cells hy
  have hmne : ∀ m R, G.own R = some (.mp m) → R ≠ g := by
    rintro m R ho rfl
    have := hgown (S.own _ _ ho).2
    rw [ho] at this
    cases this
  refine ⟨⟨?_, ?_, ?_, ?_, ?_, ?_, ?_, S.blkN, ?_, fun m es x => (S.mp m es x).move hgle (fun R ho hR => hheap R hR (hmne m R ho)) (fun R ho _ => by
    simp only [Gs.tok]
    rw [if_neg (hmne m R ho), ho]), S.mpN⟩, ⟨hgle, hgr.os, hgr.tape, hgr.output, hgr.size, ?_, ?_, fun _ _ x => x, ?_⟩, hat⟩
  · exact Nat.le_trans S.base hgr.size
  · intro b o v x
    simp only [Gs.tok] at x
    split at x
    · rename_i e; subst e
      have := hcells o v x
      rwa [Addr.add_lit, Nat.zero_add] at this
    · rename_i hne
      rw [World.cell?_of_block (hheap b (him b o v x) hne)]
      exact S.im b o v x
  · intro b x
    obtain ⟨h1, h2, h3⟩ := S.lit b x
    refine ⟨h1, Nat.lt_of_lt_of_le h2 hgr.size, ?_⟩
    simp only [Gs.tok]
    rw [if_neg, h3]
    rintro rfl
    rw [hgown h2] at h3
    cases h3
  · intro b w x
    simp only [Gs.tok] at x
    split at x
    · rename_i e; subst e; exact hg
    · split at x
      · rename_i t1 h1
        obtain ⟨k1, k2⟩ := S.own b _ h1
        exact ⟨k1, Nat.lt_of_lt_of_le k2 hgr.size⟩
      · obtain ⟨k1, k2⟩ := S.own b _ x
        exact ⟨k1, Nat.lt_of_lt_of_le k2 hgr.size⟩
  · intro t1 e1 tid1 x hs1
    by_cases h1 : t1 = t
    · subst h1
      rw [show ({ H with toks := toks } : Hp).toks = toks from rfl, ht] at x
      injection x with x
      injection x with x1 x2
      subst x1; subst x2
      refine ⟨y, size, all, by simp [Gs.tok], h0, hsz, hown, fun B hB => ?_⟩
      rw [hy] at hB
      injection hB with hB
      subst hB
      refine ⟨by simp [Gs.tok], fun o v x => ?_⟩
      simp only [Gs.tok] at x
      rw [if_pos trivial] at x
      have := (List.getElem?_eq_some_iff.1 x).1
      rw [hown.1] at this
      exact this
    · rw [show ({ H with toks := toks } : Hp).toks = toks from rfl, ho t1 h1] at x
      obtain ⟨y1, size1, vals1, k1, k2, k3, k4, k5⟩ := S.tok t1 e1 tid1 x hs1
      have hne : ∀ B, y1.ownBlock = some B → B ≠ g := by
        rintro B hB rfl
        have hB' := (k5 B hB).1
        rw [hgown (k4.lt B hB).2] at hB'
        injection hB' with hB'
        injection hB' with hB'
        exact h1 hB'.symm
      refine ⟨y1, size1, vals1, ?_, k2, k3, ownsRow_of_heap k4 fun B hB => hheap B (k4.lt B hB).2 (hne B hB), fun B hB => ⟨?_, fun o v x => ?_⟩⟩
      · simp only [Gs.tok]
        rw [if_neg (fun e => h1 e.1)]
        exact k1
      · simp only [Gs.tok]
        rw [if_neg (hne B hB), (k5 B hB).1]
        simp [h1]
      · simp only [Gs.tok] at x
        rw [if_neg (hne B hB)] at x
        exact (k5 B hB).2 o v x
  · intro t1 e1 h
    simp only [Gs.tok]
    by_cases h1 : t1 = t
    · subst h1
      have := h N tid ht
      rw [if_neg (by omega)]
      exact hnew e1 (by omega)
    · rw [if_neg (fun e => h1 e.1)]
      refine S.tokN t1 e1 fun e0 tid0 h2 => h e0 tid0 ?_
      rw [show ({ H with toks := toks } : Hp).toks = toks from rfl, ho t1 h1]
      exact h2
  · intro b k x
    obtain ⟨B, o, cells, tid', k1, k2, k3, k4, k5, k6⟩ := S.blk b k x
    have hB := (Array.getElem?_eq_some_iff.1 k2.1).1
    have hne : B ≠ g := by
      rintro rfl
      rw [hgown hB] at k3
      cases k3
    refine ⟨B, o, cells, tid', k1, ⟨(hheap B hB hne).trans k2.1, k2.2⟩, ?_, fun o => ?_, k5, fun i x hx => ?_⟩
    · simp only [Gs.tok]
      rw [if_neg hne, k3]
    · simp only [Gs.tok]
      rw [if_neg hne]
      exact k4 o
    · obtain ⟨z, r, hz⟩ := k6 i x hx
      exact ⟨z, r.mono hgle, hz⟩
  · intro g1 x hx
    obtain ⟨z, hz, hi⟩ := S.gl g1 x hx
    exact ⟨z, hz, hi.mono hgle⟩
  · intro B hB hno _
    refine hheap B hB ?_
    rintro rfl
    rw [hgown hB] at hno
    cases hno
  · intro B hB hno
    simp only [Gs.tok]
    rw [if_neg, hno]
    rintro rfl
    rw [hgown hB] at hno
    cases hno
  · intro B hB hno o v x
    simp only [Gs.tok] at x
    rw [if_neg] at x
    · exact x
    · rintro rfl
      rw [hgown hB] at hno
      cases hno
end
end Go.AM

namespace Go.AM
section
variable {C : Cfg} {G : Gs} {H : Hp} {W : World} {o : Oper} {a : Act} {env : Env} {x : AV}

/-- Elements are told by the values of their cells. -/
theorem Elems.vals {G : Gh} {es b : Nat} : ∀ {xs : List AV} {o : Nat}, Elems G es b o xs → ∃ vs : List Value, vs.length = xs.length * es ∧ ImAt G b o vs ∧ ∀ G' b' o', Gle G G' → ImAt G' b' o' vs → Elems G' es b' o' xs
  | [], _, _ => ⟨[], by simp, fun j v h => by simp at h, fun _ _ _ _ _ => trivial⟩
  | x :: xs, o, ⟨⟨z, r, hz, hi⟩, rest⟩ => by
    obtain ⟨vs, h1, h2, h3⟩ := Elems.vals rest
    have hzl : z.cells.toList.length = es := by simpa using hz
    refine ⟨z.cells.toList ++ vs, by rw [List.length_append, h1, hzl, List.length_cons, Nat.succ_mul]; omega, fun j v hj => ?_, fun G' b' o' hg hi' => ⟨⟨z, r.mono hg, hz, fun j v hj => ?_⟩, h3 G' b' (o' + es) hg fun j v hj => ?_⟩⟩
    · by_cases hlt : j < es
      · rw [List.getElem?_append_left (by omega)] at hj
        exact hi j v hj
      · rw [List.getElem?_append_right (by omega), hzl] at hj
        have := h2 _ _ hj
        rwa [show o + es + (j - es) = o + j by omega] at this
    · exact hi' j v (by rw [List.getElem?_append_left (List.getElem?_eq_some_iff.1 hj).1]; exact hj)
    · have := hi' (es + j) v (by rw [List.getElem?_append_right (by omega), hzl]; rw [show es + j - es = j by omega]; exact hj)
      rwa [show o' + (es + j) = o' + es + j by omega] at this

theorem ImAt.append {G : Gh} {b o : Nat} {us vs : List Value} (h : ImAt G b o (us ++ vs)) : ImAt G b o us ∧ ImAt G b (o + us.length) vs :=
  ⟨fun j v hj => h j v (by rw [List.getElem?_append_left (List.getElem?_eq_some_iff.1 hj).1]; exact hj),
   fun j v hj => by
    have := h (us.length + j) v (by rw [List.getElem?_append_right (by omega)]; rw [show us.length + j - us.length = j by omega]; exact hj)
    rwa [← Nat.add_assoc] at this⟩
theorem ImAt.cells {G : Gs} (S : Sim C G H W) {b o : Nat} {vs : List Value} (h : ImAt G.g b o vs) : ∀ j v, vs[j]? = some v → W.cell? ((⟨b, o, none⟩ : Addr).add j) = some v := fun j v hj => by
  rw [Addr.add_lit]
  exact S.im _ _ _ (h j v hj).1
theorem ImAt.one {G : Gh} {b o : Nat} {vs : List Value} (h : ImAt G b o vs) : ∀ v ∈ vs, v.oneCell' = true := fun v hv => by
  obtain ⟨j, hj⟩ := List.getElem?_of_mem hv
  exact (h j v hj).2

/-- What is appended: its elements and its cells. -/
theorem src_of (T : C.Tables) (S : Sim C G H W) {e : TypeId} {u : TypeId} {y : AV} {v : Value} (r : VRel G.g y v) {ys : List AV} (hne : ys ≠ []) {k : Nat} (hk : C.csz e = some (k + 1)) (hsz : szOk ys (k + 1) = true)
    (h : srcA C e y = some ys)
    (hu : (∃ e', C.und u = some (.slice e')) ∨ C.und u = some .string) :
    ∃ news, Src C.P u v ys.length (k + 1) news W ∧ Bares ys ∧ ∀ G' b' o', Gle G.g G' → ImAt G' b' o' news → Elems G' (k + 1) b' o' ys := by
  have key : ∀ xs, elems y = some xs → xs = ys → ∃ news, Src C.P u v ys.length (k + 1) news W ∧ Bares ys ∧ ∀ G' b' o', Gle G.g G' → ImAt G' b' o' news → Elems G' (k + 1) b' o' ys := by
    rintro xs hx rfl
    obtain ⟨hb, a', c, rfl, _, hE | ⟨b, w, es, rfl, hes, hE⟩⟩ := elems_val hx r
    · exact absurd hE hne
    · rcases szOk_of hsz hE with hn | rfl
      · exact absurd hn hne
      · obtain ⟨vs, h1, h2, h3⟩ := hE.vals
        rcases hu with ⟨e', hu⟩ | hu
        · exact ⟨vs, Src.slice (T.und _ _ hu) h1 (ImAt.cells S h2) (ImAt.one h2), hb, h3⟩
        · refine ⟨vs, ⟨⟨_, T.und _ _ hu, fun k => by simp⟩, fun _ => rfl, run_firstCells_some W _ _ _ _ _ vs h1 (ImAt.cells S h2), run_firstCells_some W.drew _ _ _ _ _ vs h1 (by simpa using ImAt.cells S h2), h1, ImAt.one h2⟩, hb, h3⟩
  unfold srcA at h
  split at h
  · rename_i b
    split at h
    · injection h with h
      subst h
      obtain rfl : v = .string b := r.1
      have hk0 : k = 0 := by
        unfold szOk at hsz
        cases hd : byteAVs b with
        | nil => exact absurd hd hne
        | cons z zs =>
          rw [hd] at hsz
          have hz : z ∈ byteAVs b := by rw [hd]; simp
          simp only [byteAVs, List.mem_map] at hz
          obtain ⟨c, _, rfl⟩ := hz
          simp [AV.cells] at hsz
          omega
      subst hk0
      have hlen : (byteAVs b).length = b.size := by simp [byteAVs]
      refine ⟨b.data.toList.map fun c => Value.int .u8 c.toNat, ?_, byteAVs_bare b, fun G' b' o' _ hi => ?_⟩
      · rw [hlen]
        rcases hu with ⟨e', hu⟩ | hu
        · have hs := Src.string (P := C.P) (W := W) (u := u)
          have hf : ∀ W', (Builtin.firstCells 1 b.size (.string b)).run C.P W' = .ok (b.data.toList.map fun c => Value.int .u8 c.toNat).toArray W' := by
            intro W'
            have hx : (b.extract 0 b.size) = b := by simp
            simp only [Builtin.firstCells, hx, Sem.run_pure]
            congr 1
            apply Array.ext'
            simp
          exact ⟨⟨_, T.und _ _ hu, fun k => by simp⟩, fun _ => rfl, hf _, hf _, by simp, fun v hv => by simp at hv; obtain ⟨c, _, rfl⟩ := hv; rfl⟩
        · exact Src.string (T.und _ _ hu) b
      · rw [byteAVs_rel]
        exact Elems.of_ones (fun v hv => by simp at hv; obtain ⟨c, _, rfl⟩ := hv; rfl) fun j v hj => (hi j v (by simpa using hj)).1
    · cases h
  · exact key ys h rfl

theorem roomOk_of (T : C.Tables) {e : TypeId} {n : Nat} (h : roomOk C e n = true) : ∃ i, C.P.info? e = some i ∧ n ≤ 9223372036854775807 ∧ n * i.bytes ≤ 140737488355328 := by
  unfold roomOk at h
  split at h
  · rename_i k hk
    simp only [Bool.and_eq_true, decide_eq_true_eq] at h
    obtain ⟨i, hi, rfl⟩ := T.byt _ _ hk
    exact ⟨i, hi, h.1, h.2⟩
  · cases h

theorem list_eq_of_cells {vs us : List Value} {f : Nat → Option Value} (hl : vs.length = us.length) (h : ∀ j v, vs[j]? = some v → f j = some v) (k : ∀ j v, us[j]? = some v → f j = some v) : vs = us := by
  apply List.ext_getElem?
  intro j
  by_cases hj : j < vs.length
  · have h1 := h j _ (List.getElem?_eq_getElem hj)
    have h2 := k j _ (List.getElem?_eq_getElem (hl ▸ hj))
    rw [List.getElem?_eq_getElem hj, List.getElem?_eq_getElem (hl ▸ hj)]
    rw [h1] at h2
    exact h2
  · rw [List.getElem?_eq_none (Nat.le_of_not_lt hj), List.getElem?_eq_none (by omega)]

theorem append_post (S : Sim C G H W) {W' : World} {t : Nat} {tid : TypeId} {size : Nat} {v' : Value} {vals news : List Value} {xs ys : List AV} (hsz : C.csz tid = some size) (h0 : 0 < size)
    (hown : W'.ownsRow G.g.base tid size v' (xs.length + ys.length) (vals ++ news)) (hys : ys ≠ [])
    (hrow : (v'.ownBlock = some W.heap.size ∧ W.grownBy W' none) ∨ (∃ g, v'.ownBlock = some g ∧ G.own g = some (.tok t) ∧ W.grownBy W' (some g) ∧ ∀ o v, G.g.im g o = some v → (vals ++ news)[o]? = some v))
    (hnew : ∀ e, xs.length + ys.length ≤ e → G.g.tok t e = none) {toks : List (Nat × TypeId)} (ht : toks[t]? = some (xs.length + ys.length, tid)) (ho : ∀ t1, t1 ≠ t → toks[t1]? = H.toks[t1]?)
    (h1 : ∀ v ∈ vals, v.oneCell' = true) (h2 : ∀ v ∈ news, v.oneCell' = true) (hvl : vals.length = xs.length * size)
    (hex : ∀ G' b', Gle G.g G' → ImAt G' b' 0 vals → Elems G' size b' 0 xs) (hey : ∀ G' b' o', Gle G.g G' → ImAt G' b' o' news → Elems G' size b' o' ys) (hbx : Bares xs) (hby : Bares ys) :
    Post C G W (.ap t (xs ++ ys)) { H with toks := toks } v' W' := by
  obtain ⟨g, hg⟩ : ∃ g, v'.ownBlock = some g := by
    rcases hrow with ⟨h, _⟩ | ⟨g, h, _⟩
    · exact ⟨_, h⟩
    · exact ⟨_, h⟩
  have hrow' : (W.heap.size ≤ g ∧ W.grownBy W' none) ∨ (G.own g = some (.tok t) ∧ W.grownBy W' (some g) ∧ ∀ o v, G.g.im g o = some v → (vals ++ news)[o]? = some v) := by
    rcases hrow with ⟨h, k⟩ | ⟨g', h, k⟩
    · rw [hg] at h; injection h with h; exact .inl ⟨by omega, k⟩
    · rw [hg] at h; injection h with h; subst h; exact .inr k
  obtain ⟨s1, s2, s3⟩ := S.tokNext hsz h0 hg hown hrow' hnew ht ho (fun v hv => (List.mem_append.1 hv).elim (h1 v) (h2 v))
  obtain ⟨i1, i2⟩ := s3.append
  rw [hvl, Nat.zero_add] at i2
  refine ⟨_, ⟨hbx.append hby, ?_, ?_⟩, s1, s2⟩
  · simp only [Gs.tok, List.length_append]
    simp
  · rcases hown.2 with ⟨_, hn⟩ | ⟨g', cap, cur, rfl, _, _, hc, _⟩
    · have := List.length_pos_iff.2 hys; omega
    · simp only [Value.ownBlock, Option.some.injEq] at hg
      subst hg
      refine ⟨some ⟨g', 0, none⟩, cap, by rw [List.length_append], by rw [List.length_append]; exact hc, .inr ⟨g', size, rfl, h0, ?_⟩⟩
      exact Elems.append size g' (hex _ _ s2.gle i1) (by rw [Nat.zero_add]; exact hey _ _ _ s2.gle i2)

theorem op_append (T : C.Tables) {c : Call} (ho : o.op = .call c) (hc : c.callee = .builtin .append) (S : Sim C G H W) (E : ERel G.g env a.tmps) {s y : AV} (h1 : avals C env c.args.toList = some [s, y]) {e : TypeId} (he : (c.argTypes[0]?).bind (elemT C) = some e)
    {u : TypeId} (hu0 : c.argTypes[1]? = some u) (hu : (∃ e', C.und u = some (.slice e')) ∨ C.und u = some .string) {z : AV} (hz : zeroA C e = some z) {H' : Hp} (h : appendA C e s y H = some (x, H')) (hzl : ∀ k, C.csz e = some k → z.cells.length = k) :
    OpOk C.P o a W (Post C G W x H') := by
  have r := S.avals E h1
  obtain ⟨vs, l, hargs, rs, v, l', e2, ry, e3⟩ := r
  obtain rfl : l' = [] := e3
  subst e2
  simp only [Option.bind_eq_some_iff] at he
  obtain ⟨t, ht, he⟩ := he
  have htu := elemT_und T he
  have hargs' : c.args.map a.eval = #[vs, v] := by apply Array.ext'; simpa using hargs
  have hty : (Builtin.append_ c.argTypes o.type #[vs, v]) = (Builtin.append_ #[t, u] o.type #[vs, v]) := by
    simp only [Builtin.append_, ht, hu0]
    rfl
  have fin : ∀ v' W', (Builtin.append_ #[t, u] o.type #[vs, v]).run C.P W = .ok v' W' → Post C G W x H' v' W' → OpOk C.P o a W (Post C G W x H') := by
    intro v' W' hr hp
    refine OpOk.value (y := v') (W' := W') ?_ hp
    simp only [execOp, ho, resolve, hc, hargs', Sem.run_bind, Sem.run_pure, Result.andThen_ok, invoke, builtin, hty, hr]
  unfold appendA at h
  split at h
  · -- nothing is appended
    rename_i k hsrc hk
    obtain ⟨i, hi, hik⟩ := T.csz _ _ hk
    have hempty : ∃ d, C.P.underlying u = some d ∧ (∀ k, d ≠ .int k) := by
      rcases hu with ⟨e', hu⟩ | hu
      · exact ⟨_, T.und _ _ hu, fun k => by simp⟩
      · exact ⟨_, T.und _ _ hu, fun k => by simp⟩
    obtain ⟨d, hd, hdn⟩ := hempty
    have hsrc0 : (∀ W', (Builtin.lenOf v).run C.P W' = .ok 0 W') ∧ ∀ n, (Builtin.firstCells n 0 v).run C.P W = .ok #[] W := by
      unfold srcA at hsrc
      split at hsrc
      · rename_i b
        split at hsrc
        · injection hsrc with hsrc
          obtain rfl : v = .string b := ry.1
          have hb : b.size = 0 := by
            have : (byteAVs b).length = 0 := by rw [hsrc]; rfl
            simpa [byteAVs] using this
          refine ⟨fun _ => by simp [Builtin.lenOf, hb], fun n => ?_⟩
          simp [Builtin.firstCells]
        · cases hsrc
      · obtain ⟨_, a', c', rfl, _⟩ := elems_val hsrc ry
        refine ⟨fun _ => rfl, fun n => ?_⟩
        cases a' <;> simp [Builtin.firstCells, loadCells, loadCellsFrom]
    have hrun : ∀ b n cp, vs = .slice b n cp → n ≤ cp → (Builtin.append_ #[t, u] o.type #[vs, v]).run C.P W = .ok vs W := by
      rintro b n cp rfl hle
      cases b <;> simp [Builtin.append_, run_underlying htu, run_underlying hd, sizeOf, typeInfo, hi, hsrc0.1, hsrc0.2, hle, storeCells]
    split at h
    · rename_i t0 xs
      injection h with h
      injection h with hx hH
      subst hx; subst hH
      have rs' := rs
      obtain ⟨_, _, a', cp, hvs, hle, _⟩ := rs
      exact fin vs W (hrun _ _ _ hvs hle) (Post.here S rs')
    · injection h with h
      injection h with hx hH
      subst hx; subst hH
      exact fin vs W (hrun _ _ _ rs.1 (Nat.le_refl _)) (Post.here S rs)
    · rename_i f xs
      injection h with h
      injection h with hx hH
      subst hx; subst hH
      have rs' := rs
      obtain ⟨_, a', hvs, _⟩ := rs
      exact fin vs W (hrun _ _ _ hvs (Nat.le_refl _)) (Post.here S rs')
    · rename_i xs
      injection h with h
      injection h with hx hH
      subst hx; subst hH
      have rs' := rs
      obtain ⟨_, a', cp, hvs, hle, _⟩ := rs
      exact fin vs W (hrun _ _ _ hvs hle) (Post.here S rs')
    · cases h
  · rename_i y0 ys k hsrc hk
    split at h
    · cases h
    · rename_i hyl
      have hyl' : y0.cells.length = k + 1 := by omega
      obtain ⟨news, hs, hby, hel⟩ := src_of T S (u := u) ry (ys := y0 :: ys) (by simp) hk (by simp [szOk, hyl']) hsrc hu
      obtain ⟨i, hi, hik⟩ := T.csz _ _ hk
      obtain ⟨zv, hzv, rz, _⟩ := zeroA_rel hz
      obtain ⟨i', hi', hiz⟩ := T.zero _ _ hzv
      have ei : i' = i := by rw [hi] at hi'; injection hi' with h; exact h.symm
      subst ei
      have hzs : zv.cells.size = i'.size := by
        have := VRels.length (rz G.g).cells
        have h2 := hzl _ hk
        simp at this
        omega
      have hsi : Src C.P u v (y0 :: ys).length i'.size news W := by rw [hik]; exact hs
      have hroom : ∀ n, roomOk C e n = true → n ≤ 9223372036854775807 ∧ n * i'.bytes ≤ 140737488355328 := by
        intro n hn
        obtain ⟨i2, hi2, c4, c5⟩ := roomOk_of T hn
        have ei2 : i2 = i' := by rw [hi] at hi2; injection hi2 with h; exact h.symm
        subst ei2
        exact ⟨c4, c5⟩
      have htn : ∀ e', G.g.tok H.toks.length e' = none := fun e' => S.tokN _ _ (fun e0 tid h => by simp at h)
      split at h
      · -- a token's
        rename_i t0 xs
        split at h
        · rename_i hcond
          obtain ⟨c1, c2, c3⟩ := hcond
          injection h with h
          injection h with hx hH
          subst hx; subst hH
          obtain ⟨c4, c5⟩ := hroom _ c3
          obtain ⟨yv, size, vals, k1, k2, k3, k4, k5⟩ := S.tok t0 xs.length e c1 (by rw [hk]; rfl)
          have hsize : size = i'.size := by rw [hk] at k3; injection k3 with k3; omega
          subst hsize
          obtain ⟨hbx, htok, a', cp, hvs, hcp, hE⟩ := rs
          obtain rfl : yv = vs := by rw [k1] at htok; injection htok
          obtain ⟨v', W', hr, hown, hcase⟩ := run_append_mine (ty := o.type) htu hi hiz hzs k2 hsi (by simp) k4 c4 c5 S.base
          -- what the row holds is what its elements say
          have hvals : (∀ v ∈ vals, v.oneCell' = true) ∧ ∀ G' b', Gle G.g G' → ImAt G' b' 0 vals → Elems G' i'.size b' 0 xs := by
            rcases hE with ⟨rfl, _⟩ | ⟨b, es, rfl, hes, hE⟩
            · have : vals = [] := List.eq_nil_of_length_eq_zero (by simpa using k4.1)
              subst this
              exact ⟨fun v h => by simp at h, fun _ _ _ _ => trivial⟩
            · rcases szOk_of c2 hE with rfl | he'
              · have : vals = [] := List.eq_nil_of_length_eq_zero (by simpa using k4.1)
                subst this
                exact ⟨fun v h => by simp at h, fun _ _ _ _ => trivial⟩
              · have hes2 : es = i'.size := by omega
                subst hes2
                obtain ⟨us, u1, u2, u3⟩ := hE.vals
                have hcells := k4.cells (g := b) (by rw [hvs]; rfl)
                have : vals = us := list_eq_of_cells (f := fun j => W.cell? ((⟨b, 0, none⟩ : Addr).add j)) (by rw [u1, k4.1]) hcells (ImAt.cells S u2)
                subst this
                exact ⟨ImAt.one u2, fun G' b' hg hi => u3 G' b' 0 hg hi⟩
          refine fin v' W' hr (append_post S k3 k2 hown (by simp) ?_ ?_ ?_ ?_ hvals.1 hs.one k4.1 hvals.2 (by rw [hik]; exact hel) hbx hby)
          · rcases hcase with ⟨q1, q2⟩ | ⟨q1, q2⟩
            · obtain ⟨g, hg⟩ : ∃ g, v'.ownBlock = some g := by
                rcases hown.2 with ⟨_, hn⟩ | ⟨g', cap, cur, rfl, _⟩
                · simp at hn
                · exact ⟨g', rfl⟩
              rw [hg] at q1
              refine .inr ⟨g, hg, (k5 g q1.symm).1, by rw [← q1] at q2; exact q2, fun o' v' hv => ?_⟩
              have hlt := (k5 g q1.symm).2 o' v' hv
              have hcell := S.im _ _ _ hv
              have hcv := k4.cells q1.symm
              have hl : o' < vals.length := by rw [k4.1]; exact hlt
              have := hcv o' _ (List.getElem?_eq_getElem hl)
              rw [Addr.add_lit, Nat.zero_add, hcell] at this
              injection this with this
              rw [List.getElem?_append_left hl, List.getElem?_eq_getElem hl, this]
            · exact .inl ⟨q1, q2⟩
          · intro e' he'
            refine S.tokN t0 e' fun e0 tid h => ?_
            rw [c1] at h
            injection h with h
            injection h with h _
            simp only [List.length_cons] at he'
            omega
          · rw [List.getElem?_set_self (List.getElem?_eq_some_iff.1 c1).1]
          · intro t1 h1
            rw [List.getElem?_set_ne (fun e => h1 e.symm)]
        · cases h
      · -- nil
        split at h
        · rename_i hcond
          injection h with h
          injection h with hx hH
          subst hx; subst hH
          obtain ⟨c4, c5⟩ := hroom _ hcond
          obtain rfl : vs = .slice none 0 0 := rs.1
          obtain ⟨v', W', hr, hown, hcase⟩ := run_append_mine (ty := o.type) (base := G.g.base) (n := 0) (xs := []) htu hi hiz hzs (by omega) hsi (by simp) (World.ownsRow_nil W G.g.base e i'.size) (by omega) (by rw [Nat.zero_add]; exact c5) S.base
          refine fin v' W' hr (append_post (xs := []) (vals := []) S (tid := e) (by rw [hik]; exact hk) (by omega) hown (by simp) ?_ (fun e' _ => htn e') ?_ ?_ (fun v h => by simp at h) hs.one (by simp) (fun _ _ _ _ => trivial) (by rw [hik]; exact hel) trivial hby)
          · rcases hcase with ⟨q1, q2⟩ | ⟨q1, q2⟩
            · exfalso
              rcases hown.2 with ⟨_, hn⟩ | ⟨g', cap, cur, rfl, _⟩
              · simp at hn
              · simp [Value.ownBlock] at q1
            · exact .inl ⟨q1, q2⟩
          · simp
          · intro t1 h1
            rcases Nat.lt_or_ge t1 H.toks.length with h | h
            · rw [List.getElem?_append_left h]
            · rw [List.getElem?_eq_none (by simp; omega), List.getElem?_eq_none h]
        · cases h
      · -- a slice whose capacity is its length
        rename_i f xs
        split at h
        · rename_i hcond
          obtain ⟨c2, c3⟩ := hcond
          injection h with h
          injection h with hx hH
          subst hx; subst hH
          obtain ⟨c4, c5⟩ := hroom _ c3
          obtain ⟨hbx, a', rfl, _, hE⟩ := rs
          have hvals : ∃ vals : List Value, vals.length = xs.length * i'.size ∧ (Builtin.firstCells i'.size xs.length (.slice a' xs.length xs.length)).run C.P W.drew = .ok vals.toArray W.drew ∧ (∀ v ∈ vals, v.oneCell' = true) ∧ ∀ G' b', Gle G.g G' → ImAt G' b' 0 vals → Elems G' i'.size b' 0 xs := by
            have nil : xs = [] → ∃ vals : List Value, vals.length = xs.length * i'.size ∧ (Builtin.firstCells i'.size xs.length (.slice a' xs.length xs.length)).run C.P W.drew = .ok vals.toArray W.drew ∧ (∀ v ∈ vals, v.oneCell' = true) ∧ ∀ G' b', Gle G.g G' → ImAt G' b' 0 vals → Elems G' i'.size b' 0 xs := by
              rintro rfl
              refine ⟨[], by simp, ?_, fun v h => by simp at h, fun _ _ _ _ => trivial⟩
              cases a' with
              | none => rfl
              | some a' => simp [Builtin.firstCells, loadCells, loadCellsFrom]
            rcases hE with hn | ⟨b, w, es, rfl, hes, hE⟩
            · exact nil hn
            · rcases szOk_of c2 hE with hn | he'
              · exact nil hn
              · have hes2 : es = i'.size := by omega
                subst hes2
                obtain ⟨us, u1, u2, u3⟩ := hE.vals
                exact ⟨us, u1, run_firstCells_some W.drew _ _ _ _ _ us u1 (by simpa using ImAt.cells S u2), ImAt.one u2, fun G' b' hg hi => u3 G' b' 0 hg hi⟩
          obtain ⟨vals, v1, v2, v3, v4⟩ := hvals
          have hr := run_append_far (ty := o.type) htu hi hiz hsi v1 v2 (by simp) (by omega) (growslice_fits (by simp) c5)
          obtain ⟨f1, f2⟩ := far_owns (W := W) (e := e) (base := G.g.base) (cap := xs.length) hzs v1 hsi.long (by simp) (by omega) S.base
          refine fin _ _ hr (append_post S (tid := e) (by rw [hik]; exact hk) (by omega) f1 (by simp) (.inl ⟨rfl, f2⟩) (fun e' _ => htn e') ?_ ?_ v3 hs.one v1 v4 (by rw [hik]; exact hel) hbx hby)
          · simp
          · intro t1 h1
            rcases Nat.lt_or_ge t1 H.toks.length with h | h
            · rw [List.getElem?_append_left h]
            · rw [List.getElem?_eq_none (by simp; omega), List.getElem?_eq_none h]
        · cases h
      · cases h
  · cases h
end
end Go.AM

namespace Go.AM
section
variable {C : Cfg} {G : Gs} {H : Hp} {W : World} {o : Oper} {a : Act} {env : Env} {x : AV}

/-! ### Blocks that may be written -/
def Gs.newBlk (G : Gs) (b B sz es : Nat) (gn : Nat := 0) : Gs :=
  { g := { G.g with blk := fun b1 g1 => if b1 = b ∧ g1 = gn then some (B, 0, sz, es) else G.g.blk b1 g1 }
    own := fun B1 => if B1 = B then some (.blk b) else G.own B1 }

theorem Sim.newBlk (S : Sim C G H W) (vals : Array Value) (tid : TypeId) (es : Nat) (xs : List AV) (hrow : RowIs G.g vals 0 es xs) (hlen : xs.length * es ≤ vals.size) (gn : Nat := 0) (hgn : gn = 0 ∨ (gn = tid + 1 ∧ vals.size = es) := by exact .inl rfl) :
    Sim C (G.newBlk H.blks.length W.heap.size vals.size es gn) { H with blks := H.blks ++ [⟨gn, es, xs⟩] } (W.alloc (.cells vals tid)) ∧ Adv G W (G.newBlk H.blks.length W.heap.size vals.size es gn) (W.alloc (.cells vals tid)) := by
  have him : ∀ b o v, G.g.im b o = some v → b < W.heap.size := fun b o v x => World.block_lt_of_cell? W _ (S.im b o v x)
  have hgle : Gle G.g (G.newBlk H.blks.length W.heap.size vals.size es gn).g := ⟨rfl, fun _ _ _ x => x, fun _ x => x, fun _ _ _ x => x, fun b g v x => by
    simp only [Gs.newBlk]
    rw [if_neg]
    · exact x
    · rintro ⟨rfl, rfl⟩
      rw [S.blkN _ _ (Nat.le_refl _)] at x
      exact (nomatch x), fun _ _ x => x⟩
  refine ⟨⟨?_, ?_, ?_, ?_, ?_, S.tokN, ?_, ?_, ?_, fun m es x => (S.mp m es x).move hgle (fun R _ hR => heap_alloc_old W _ R hR) (fun R ho hR => by
    simp only [Gs.newBlk]
    rw [if_neg (by omega)]
    exact ho), S.mpN⟩, ⟨hgle, rfl, rfl, rfl, by simp, fun B hB _ _ => heap_alloc_old W _ B hB, ?_, fun _ _ x => x, fun _ _ _ _ _ x => x⟩⟩
  · have := S.base; simp [Gs.newBlk]; omega
  · intro b o v x
    rw [World.cell?_alloc_lt W (h := him b o v x)]
    exact S.im b o v x
  · intro b x
    obtain ⟨h1, h2, h3⟩ := S.lit b x
    refine ⟨h1, by simp; omega, ?_⟩
    simp only [Gs.newBlk]
    rw [if_neg (by omega)]
    exact h3
  · intro b w x
    simp only [Gs.newBlk] at x
    split at x
    · rename_i e; subst e; exact ⟨S.base, by simp⟩
    · obtain ⟨h1, h2⟩ := S.own b w x; exact ⟨h1, by simp; omega⟩
  · intro t e tid' x hs
    obtain ⟨y, size, vs, h1, h2, h0, h3, h4⟩ := S.tok t e tid' x hs
    refine ⟨y, size, vs, h1, h2, h0, h3.alloc _, fun B hB => ⟨?_, (h4 B hB).2⟩⟩
    have := (h3.lt B hB).2
    simp only [Gs.newBlk]
    rw [if_neg (by omega)]
    exact (h4 B hB).1
  · intro b k x
    rcases Nat.lt_or_ge b H.blks.length with hb | hb
    · rw [show ({ H with blks := H.blks ++ [⟨gn, es, xs⟩] } : Hp).blks = H.blks ++ [⟨gn, es, xs⟩] from rfl, List.getElem?_append_left hb] at x
      obtain ⟨B, o, cells, tid', h1, h2, h3, h4, h5, h6⟩ := S.blk b k x
      have hB := (Array.getElem?_eq_some_iff.1 h2.1).1
      refine ⟨B, o, cells, tid', ?_, ⟨(heap_alloc_old W _ B hB).trans h2.1, h2.2.1, h2.2.2.1, fun g' a c => by
        simp only [Gs.newBlk]
        rw [if_neg (by omega)]
        exact h2.2.2.2 g' a c⟩, ?_, h4, h5, fun i x hx => ?_⟩
      · simp only [Gs.newBlk]
        rw [if_neg (by omega)]
        exact h1
      · simp only [Gs.newBlk]
        rw [if_neg (by omega)]
        exact h3
      · obtain ⟨z, r, hz⟩ := h6 i x hx
        exact ⟨z, r.mono hgle, hz⟩
    · rw [show ({ H with blks := H.blks ++ [⟨gn, es, xs⟩] } : Hp).blks = H.blks ++ [⟨gn, es, xs⟩] from rfl, List.getElem?_append_right hb] at x
      obtain ⟨rfl, rfl⟩ : b = H.blks.length ∧ k = ⟨gn, es, xs⟩ := by
        obtain ⟨n, hn⟩ : ∃ n, b - H.blks.length = n := ⟨_, rfl⟩
        rw [hn] at x
        cases n with
        | zero => simp at x; exact ⟨by omega, x.symm⟩
        | succ n => simp at x
      refine ⟨W.heap.size, 0, vals, (tid, 0, 0), by simp [Gs.newBlk], ⟨heap_alloc_new W _, .inl rfl, hgn.imp id fun h => .inl ⟨h.1, rfl, h.2⟩, fun g' _ hlt => by
        simp only [Gs.newBlk]
        rw [if_neg (by rintro ⟨_, h⟩; rw [h] at hlt; exact Nat.lt_irrefl _ hlt)]
        exact S.blkN _ _ (Nat.le_refl _)⟩, by simp [Gs.newBlk], fun o => ?_, by simpa using hlen, fun i x hx => ?_⟩
      · cases hh : G.g.im W.heap.size o with
        | none => exact hh
        | some v => have := him _ _ _ hh; omega
      · obtain ⟨z, r, hz⟩ := hrow i x hx
        exact ⟨z, r.mono hgle, hz⟩
  · intro b g h
    simp only [List.length_append, List.length_cons, List.length_nil] at h
    simp only [Gs.newBlk]
    rw [if_neg (by omega)]
    exact S.blkN b g (by omega)
  · intro g x hx
    obtain ⟨z, hz, hi⟩ := S.gl g x hx
    exact ⟨z, hz, hi.mono hgle⟩
  · intro B hB hno
    simp only [Gs.newBlk]
    rw [if_neg (by omega)]
    exact hno

theorem newBlk_at {b B sz es gn : Nat} : (G.newBlk b B sz es gn).g.blk b gn = some (B, 0, sz, es) := by simp [Gs.newBlk]

theorem row_one {G : Gh} {x : AV} {z : Value} (r : VRel G x z) (hf : x.cells.all AV.flat = true) : RowIs G z.cells 0 x.cells.length [x] := by
  intro i y hy
  cases i with
  | succ i => simp at hy
  | zero =>
    simp at hy
    subst hy
    have hl := VRels.length r.cells
    refine ⟨z, r, by simpa using hl, fun j v hj => ⟨by simpa using hj, ?_⟩⟩
    exact VRels.flat r.cells hf v (Array.mem_toList_iff.2 (Array.mem_of_getElem? hj))

/-- A block of one element. -/
theorem new_ptr (S : Sim C G H W) {z : Value} (r : VRel G.g x z) (hf : x.cells.all AV.flat = true) (tid : TypeId) (gn : Nat) (hgn : gn = 0 ∨ gn = tid + 1) :
    Post C G W (.ptr H.blks.length gn 0 0) { H with blks := H.blks ++ [⟨gn, x.cells.length, [x]⟩] } (.pointer (some ⟨W.heap.size, 0, none⟩)) (W.alloc (.cells z.cells tid)) := by
  have hl := VRels.length r.cells
  simp only [Array.length_toList] at hl
  obtain ⟨s1, s2⟩ := S.newBlk z.cells tid x.cells.length [x] (row_one r hf) (by simp [hl]) gn (hgn.imp id fun h => ⟨h, hl⟩)
  exact ⟨_, ⟨W.heap.size, 0, z.cells.size, x.cells.length, newBlk_at, by simp⟩, s1, s2⟩
theorem genOf_or (e : TypeId) : genOf C e = 0 ∨ genOf C e = e + 1 := by
  unfold genOf
  split
  · exact .inr rfl
  · exact .inl rfl

theorem op_box_heap {e : TypeId} {p : Operand} (ho : o.op = .box e p) (S : Sim C G H W) (r : VRel G.g x (a.eval p)) (hf : x.cells.all AV.flat = true) :
    OpOk C.P o a W (Post C G W (.ptr H.blks.length (genOf C e) 0 0) { H with blks := H.blks ++ [⟨genOf C e, x.cells.length, [x]⟩] }) := by
  refine OpOk.value (y := .pointer (some ⟨W.heap.size, 0, none⟩)) (W' := W.alloc (.cells (a.eval p).cells e)) ?_ (new_ptr S r hf e _ (genOf_or e))
  simp only [execOp, ho]
  refine runV ?_
  simp [Instr.box, newVar, newRow]

theorem blkAt_val {b g : Nat} {k : Blk} (h : blkAt H b g = some k) : H.blks[b]? = some k ∧ k.gen = g := by
  unfold blkAt at h
  split at h
  · rename_i k' hk
    split at h
    · rename_i hg; injection h with h; subst h; exact ⟨hk, hg⟩
    · cases h
  · cases h

theorem cell_of_heap {B : Nat} {cells : Array Value} {tid : TypeId} {fr : Nat × Nat} (h : W.heap[B]? = some (.cells cells tid fr)) (j : Nat) : W.cell? ⟨B, j, none⟩ = cells[j]? := by
  simp [World.cell?, h]

variable (T : C.Tables)
include T

theorem op_alloc_heap {e : TypeId} (ho : o.op = .alloc e) (S : Sim C G H W) {z : AV} (hz : zeroA C e = some z) (hf : z.cells.all AV.flat = true) :
    OpOk C.P o a W (Post C G W (.ptr H.blks.length (genOf C e) 0 0) { H with blks := H.blks ++ [⟨genOf C e, z.cells.length, [z]⟩] }) := by
  obtain ⟨y, hy, r, _⟩ := zeroA_rel hz
  refine OpOk.value (y := .pointer (some ⟨W.heap.size, 0, none⟩)) (W' := W.alloc (.cells y.cells e)) ?_ (new_ptr S (r _) hf e _ (genOf_or e))
  simp only [execOp, ho]
  refine runV ?_
  simp [Instr.alloc, run_zeroA T hy, newVar, newRow]

theorem op_load_ptr {t : TypeId} {p : Operand} (ho : o.op = .load t p) (S : Sim C G H W) (E : ERel G.g env a.tmps) {b g i j : Nat} (h : aval C env p = some (.ptr b g i j)) {k : Blk} (hk : blkAt H b g = some k) {z : AV} (hz : k.xs[i]? = some z) (hx : partA C t z.cells j = some x) :
    OpOk C.P o a W (Post C G W x H) := by
  obtain ⟨B, q, sz, es, hb, he⟩ := S.aval E h
  obtain ⟨hk1, rfl⟩ := blkAt_val hk
  obtain ⟨B', q', cells, tid, k1, k2, k3, k4, k5, k6⟩ := S.blk b k hk1
  rw [hb] at k1
  injection k1 with k1
  injection k1 with e1 k1
  injection k1 with e2 k1
  injection k1 with e3 e4
  subst e1; subst e2; subst e4
  obtain ⟨w, rw', hws, hw⟩ := k6 i z hz
  obtain ⟨y, hy, ry⟩ := run_loadA T hx rw'.cells (W := W) (b := B) (o := q + i * k.es) (fun j v hj => by
    rw [cell_of_heap k2.1]
    exact (hw j v (by simpa using hj)).1)
  refine OpOk.value (y := y) (W' := W) ?_ (Post.here S ry)
  simp only [execOp, ho]
  exact runV (by simp [Instr.loadAt, he, Instr.sureAddr, hy])
end
end Go.AM

namespace Go.AM
section
variable {C : Cfg} {G : Gs} {H : Hp} {W : World} {o : Oper} {a : Act} {env : Env} {x : AV}

theorem exCap_zero : exCap 0 = none := rfl
theorem exCap_next (g : Nat) : exCap (nextG g) = none := by
  unfold exCap nextG growG
  split
  · exact if_neg (by decide)
  · exact if_neg (by omega)
theorem no_cap {g : Nat} (h : exCap g = none) {n : Nat} : ∀ m, exCap g = some m → n = m := fun m hm => by rw [h] at hm; cases hm
theorem nextG_le (g : Nat) : growG ≤ nextG g := by unfold nextG growG; split <;> omega
theorem nextG_lt (g : Nat) : g < nextG g := by unfold nextG growG; split <;> omega
/-- Nothing that is written is frozen. -/
theorem run_storeCells_fr {P : Program} (g o : Nat) (t : TypeId) (fr : Nat × Nat) : ∀ (vs : List Value) (i : Nat) (cur : Array Value) (w : World), w.heap[g]? = some (.cells cur t fr) → frOk cur.size fr → o + i + vs.length ≤ cur.size → (∀ v ∈ vs, v.oneCell' = true) →
    (storeCells ⟨g, o, none⟩ vs i).run P w = .ok () (w.setRow g (cur.toList.take (o + i) ++ vs ++ cur.toList.drop (o + i + vs.length)).toArray)
  | [], i, cur, w, hg, _, _, _ => by
    simp only [storeCells, List.append_nil, List.length_nil, Nat.add_zero, List.take_append_drop, Array.toArray_toList]
    rw [setRow_self w g cur t fr hg]
    rfl
  | v :: vs, i, cur, w, hg, hfr, hl, h1 => by
    have hi : o + i < cur.size := by simp at hl; omega
    have hfz : w.frozen? ⟨g, o + i, none⟩ = false := by
      rcases hfr with rfl | h
      · simp [World.frozen?, hg]
      · have : ¬ fr.1 ≤ o + i := by omega
        simp [World.frozen?, hg, this]
    have hone : (store ((⟨g, o, none⟩ : Addr).add i) v).run P w = .ok () (w.setRow g (cur.setIfInBounds (o + i) v)) := by
      rw [Addr.add_lit, run_store P w _ v _ (h1 v (by simp)), show w.cell? ⟨g, o + i, none⟩ = some cur[o + i] by simp [World.cell?, hg, hi]]
      simp [hfz, setCell_eq_setRow w g (o + i) cur t fr v hg]
    have ih := run_storeCells_fr (P := P) g o t fr vs (i + 1) (cur.setIfInBounds (o + i) v) (w.setRow g (cur.setIfInBounds (o + i) v)) (setRow_heap w g cur _ t _ hg) (by simpa using hfr) (by simp at hl ⊢; omega) (fun x hx => h1 x (by simp [hx]))
    simp only [storeCells, Sem.run_bind, hone, Result.andThen_ok, ih, setRow_setRow]
    congr 3
    have e := list_seg_step cur.toList (o + i) v vs (by simp at hl ⊢; omega)
    simpa [Array.toList_setIfInBounds, Nat.add_assoc] using e
/-- A block's row turns. -/
theorem Sim.setBlk (S : Sim C G H W) {b : Nat} {k : Blk} (hk : H.blks[b]? = some k) {B q : Nat} {cells : Array Value} {tid : TypeId} {fr : Nat × Nat} (h1 : G.g.blk b k.gen = some (B, q, cells.size, k.es)) (h2 : W.heap[B]? = some (.cells cells tid fr)) (hfr : frE k.es cells.size fr ∧ (k.gen = 0 ∨ (k.gen = tid + 1 ∧ q = 0 ∧ cells.size = k.es) ∨ growG ≤ k.gen) ∧ ∀ g', growG ≤ g' → k.gen < g' → G.g.blk b g' = none) (h3 : G.own B = some (.blk b))
    {cells' : Array Value} (hs : cells'.size = cells.size) {xs : List AV} (hl : q + xs.length * k.es ≤ cells.size) (hrow : RowIs G.g cells' q k.es xs) :
    Sim C G { H with blks := H.blks.set b { k with xs := xs } } (W.setRow B cells') ∧ Adv G W G (W.setRow B cells') := by
  have hnim : ∀ o, G.g.im B o = none := by
    obtain ⟨B', q', cs, tid', k1, _, _, k4, _⟩ := S.blk b k hk
    rw [h1] at k1
    injection k1 with k1
    injection k1 with e1 _
    subst e1
    exact k4
  have hlt : B < W.heap.size := (Array.getElem?_eq_some_iff.1 h2).1
  refine ⟨⟨?_, ?_, ?_, ?_, ?_, S.tokN, ?_, ?_, S.gl, fun m es x => (S.mp m es x).move (Gle.refl _) (fun R ho _ => setRow_other W B R cells' (by
    rintro rfl
    rw [h3] at ho
    cases ho)) (fun _ x _ => x), S.mpN⟩, ⟨Gle.refl _, rfl, rfl, rfl, by simp, ?_, fun _ _ x => x, fun _ _ x => x, fun _ _ _ _ _ x => x⟩⟩
  · simpa using S.base
  · intro b' o' v x
    rw [cell_setRow_other W B cells' _ (by rintro rfl; rw [hnim] at x; cases x)]
    exact S.im b' o' v x
  · intro b' x
    simpa using S.lit b' x
  · intro b' w x
    simpa using S.own b' w x
  · intro t e tid' x hs
    obtain ⟨y, size, vs, k1, k2, k0, k3, k4⟩ := S.tok t e tid' x hs
    refine ⟨y, size, vs, k1, k2, k0, ownsRow_of_heap k3 fun B' hB' => setRow_other W B B' cells' ?_, k4⟩
    rintro rfl
    rw [(k4 _ hB').1] at h3
    cases h3
  · intro b' k' x
    by_cases hb : b' = b
    · subst hb
      rw [show ({ H with blks := H.blks.set b' { k with xs := xs } } : Hp).blks = H.blks.set b' { k with xs := xs } from rfl, List.getElem?_set_self (List.getElem?_eq_some_iff.1 hk).1] at x
      injection x with x
      subst x
      exact ⟨B, q, cells', (tid, fr), by rw [hs]; exact h1, ⟨setRow_heap W B cells cells' tid fr h2, by rw [hs]; exact hfr⟩, h3, hnim, by rw [hs]; exact hl, hrow⟩
    · rw [show ({ H with blks := H.blks.set b { k with xs := xs } } : Hp).blks = H.blks.set b { k with xs := xs } from rfl, List.getElem?_set_ne (fun e => hb e.symm)] at x
      obtain ⟨B', q', cs, tid', k1, k2, k3, k4, k5⟩ := S.blk b' k' x
      refine ⟨B', q', cs, tid', k1, ⟨(setRow_other W B B' cells' ?_).trans k2.1, k2.2⟩, k3, k4, k5⟩
      rintro rfl
      rw [k3] at h3
      injection h3 with h3
      injection h3 with h3
      exact hb h3
  · intro b' g h
    simp only [List.length_set] at h
    exact S.blkN b' g h
  · intro B' hB' hno _
    refine setRow_other W B B' cells' ?_
    rintro rfl
    rw [h3] at hno
    cases hno

theorem setCells_rel {G : Gh} {y y' : AV} {j : Nat} {xs : List AV} (h : setCells y j xs = some y') {z : Value} (r : VRel G y z) {vs : List Value} (rv : VRels G xs vs) (hf : xs.all AV.flat = true) (h1 : ∀ v ∈ z.cells.toList, v.oneCell' = true) :
    ∃ z', VRel G y' z' ∧ j + vs.length ≤ z.cells.size ∧ z'.cells.size = z.cells.size ∧ (∀ i v, z'.cells[i]? = some v → v.oneCell' = true ∧ (if j ≤ i ∧ i < j + vs.length then vs[i - j]? = some v else z.cells[i]? = some v)) := by
  have hvl := VRels.length rv
  have hvf := VRels.flat rv hf
  unfold setCells at h
  split at h
  · rename_i cs
    split at h
    · rename_i hle
      injection h with h
      subst h
      obtain ⟨ys, rfl, r⟩ := r
      have hcl := VRels.length r
      simp only [Array.length_toList] at hcl
      have hsz : (ys.toList.take j ++ vs ++ ys.toList.drop (j + xs.length)).length = ys.size := by
        simp only [List.length_append, List.length_take, List.length_drop, Array.length_toList]
        omega
      refine ⟨.agg (ys.toList.take j ++ vs ++ ys.toList.drop (j + xs.length)).toArray, ⟨_, rfl, by
        simpa using VRels.append (VRels.append (VRels.take j r) rv) (VRels.drop (j + xs.length) r)⟩, by simp only [Value.cells]; omega, by simp only [Value.cells, List.size_toArray]; exact hsz, fun i v hi => ?_⟩
      simp only [Value.cells, List.getElem?_toArray] at hi ⊢
      have hyl : ys.toList.length = ys.size := by simp
      by_cases c1 : i < j
      · rw [List.append_assoc, List.getElem?_append_left (by rw [List.length_take, hyl]; omega), List.getElem?_take, if_pos c1, Array.getElem?_toList] at hi
        rw [if_neg (by omega)]
        exact ⟨h1 v (Array.mem_toList_iff.2 (Array.mem_of_getElem? hi)), hi⟩
      · by_cases c2 : i < j + vs.length
        · rw [List.append_assoc, List.getElem?_append_right (by rw [List.length_take]; omega), List.getElem?_append_left (by rw [List.length_take, hyl]; omega), List.length_take, hyl] at hi
          rw [show i - min j ys.size = i - j by omega] at hi
          rw [if_pos (by omega)]
          exact ⟨hvf v (List.mem_of_getElem? hi), hi⟩
        · rw [List.getElem?_append_right (by rw [List.length_append, List.length_take]; omega), List.getElem?_drop, List.length_append, List.length_take, hyl, Array.getElem?_toList] at hi
          rw [show j + xs.length + (i - (min j ys.size + vs.length)) = i by omega] at hi
          rw [if_neg (by omega)]
          exact ⟨h1 v (Array.mem_toList_iff.2 (Array.mem_of_getElem? hi)), hi⟩
    · cases h
  · rename_i hna
    split at h
    · rename_i u
      injection h with h
      subst h
      obtain ⟨w, ws, rfl, ru, e⟩ := rv
      obtain rfl : ws = [] := e
      have huf : w.oneCell' = true := hvf w (by simp)
      have hw : w.cells = #[w] := by cases w <;> first | rfl | simp [Value.oneCell'] at huf
      have hz : z.cells.size = 1 := by
        have := VRels.length r.cells
        have hy : y.cells = [y] := by
          cases y <;> first | rfl | exact absurd rfl (hna _)
        rw [hy] at this
        simpa using this
      refine ⟨w, ru, by simp [hz], by rw [hw, hz]; rfl, fun i v hi => ?_⟩
      rw [hw] at hi
      cases i with
      | zero => simp at hi; subst hi; exact ⟨huf, by simp⟩
      | succ i => simp at hi
    · cases h

variable (T : C.Tables)
include T

theorem op_store {t : TypeId} {p q : Operand} (ho : o.op = .store t p q) (S : Sim C G H W) (E : ERel G.g env a.tmps) {b g i j : Nat} (h1 : aval C env p = some (.ptr b g i j)) {u : AV} (h2 : aval C env q = some u) {k : Blk} (hk : blkAt H b g = some k) {y y' : AV} (hy : k.xs[i]? = some y)
    (hsz : some u.cells.length = C.csz t) (hf : u.cells.all AV.flat = true) (hset : setCells y j u.cells = some y') :
    OpOk C.P o a W (Post C G W .undef { H with blks := H.blks.set b { k with xs := k.xs.set i y' } }) := by
  obtain ⟨B, w, sz, es, hb, he⟩ := S.aval E h1
  have ru := S.aval E h2
  obtain ⟨hk1, rfl⟩ := blkAt_val hk
  obtain ⟨B', q', cells, tid, k1, k2, k3, k4, k5, k6⟩ := S.blk b k hk1
  rw [hb] at k1
  injection k1 with k1
  injection k1 with e1 k1
  injection k1 with e2 k1
  injection k1 with e3 e4
  subst e1; subst e2; subst e3; subst e4
  obtain ⟨z, rz, hzs, hz⟩ := k6 i y hy
  obtain ⟨z', rz', c1, c2, c3⟩ := setCells_rel hset rz ru.cells hf (fun v hv => by
    obtain ⟨n, hn⟩ := List.getElem?_of_mem hv
    exact (hz n v (by simpa using hn)).2)
  have hul := VRels.length ru.cells
  have hilt : i < k.xs.length := (List.getElem?_eq_some_iff.1 hy).1
  have hbound : w + i * k.es + k.es ≤ cells.size := by
    have : (i + 1) * k.es ≤ k.xs.length * k.es := Nat.mul_le_mul_right _ hilt
    rw [Nat.succ_mul] at this
    omega
  have hst := run_storeCells_fr (P := C.P) B (w + i * k.es + j) tid.1 tid.2 (a.eval q).cells.toList 0 cells W k2.1 k2.2.1.ok (by omega) (VRels.flat ru.cells hf)
  simp only [Nat.add_zero] at hst
  obtain ⟨s1, s2⟩ := S.setBlk hk1 hb k2.1 k2.2 k3 (cells' := (cells.toList.take (w + i * k.es + j) ++ (a.eval q).cells.toList ++ cells.toList.drop (w + i * k.es + j + (a.eval q).cells.toList.length)).toArray) (by
    simp only [List.size_toArray, List.length_append, List.length_take, List.length_drop, Array.length_toList] at *
    omega) (xs := k.xs.set i y') (by simpa using k5) (by
    intro i1 x1 hx1
    have hcell : ∀ n, (cells.toList.take (w + i * k.es + j) ++ (a.eval q).cells.toList ++ cells.toList.drop (w + i * k.es + j + (a.eval q).cells.toList.length)).toArray[n]? =
        if w + i * k.es + j ≤ n ∧ n < w + i * k.es + j + (a.eval q).cells.toList.length then (a.eval q).cells.toList[n - (w + i * k.es + j)]? else cells[n]? := by
      intro n
      rw [List.getElem?_toArray]
      have hlen : w + i * k.es + j + (a.eval q).cells.toList.length ≤ cells.toList.length := by simp only [Array.length_toList] at *; omega
      by_cases d1 : n < w + i * k.es + j
      · rw [List.append_assoc, List.getElem?_append_left (by rw [List.length_take]; omega), List.getElem?_take, if_pos d1, if_neg (by omega), Array.getElem?_toList]
      · by_cases d2 : n < w + i * k.es + j + (a.eval q).cells.toList.length
        · rw [List.append_assoc, List.getElem?_append_right (by rw [List.length_take]; omega), List.getElem?_append_left (by rw [List.length_take]; omega), List.length_take, if_pos (by omega)]
          congr 1
          omega
        · rw [List.getElem?_append_right (by rw [List.length_append, List.length_take]; omega), List.getElem?_drop, List.length_append, List.length_take, if_neg (by omega), ← Array.getElem?_toList]
          congr 1
          omega
    by_cases hi1 : i1 = i
    · subst hi1
      rw [List.getElem?_set_self hilt] at hx1
      injection hx1 with hx1
      subst hx1
      refine ⟨z', rz', c2.trans hzs, fun n v hn => ?_⟩
      obtain ⟨d1, d2⟩ := c3 n v hn
      refine ⟨?_, d1⟩
      have hnlt : n < k.es := by have := (Array.getElem?_eq_some_iff.1 hn).1; omega
      rw [hcell]
      split at d2
      · rename_i d3
        rw [if_pos (by omega)]
        rw [show w + i1 * k.es + n - (w + i1 * k.es + j) = n - j by omega]
        exact d2
      · rename_i d3
        rw [if_neg (by omega)]
        exact (hz n v d2).1
    · rw [List.getElem?_set_ne (fun e => hi1 e.symm)] at hx1
      obtain ⟨z1, r1, hz1s, hz1⟩ := k6 i1 x1 hx1
      refine ⟨z1, r1, hz1s, fun n v hn => ⟨?_, (hz1 n v hn).2⟩⟩
      have hnlt : n < k.es := by have := (Array.getElem?_eq_some_iff.1 hn).1; omega
      rw [hcell, if_neg]
      · exact (hz1 n v hn).1
      · rintro ⟨d1, d2⟩
        rcases Nat.lt_or_ge i1 i with hlt | hge
        · have : (i1 + 1) * k.es ≤ i * k.es := Nat.mul_le_mul_right _ hlt
          rw [Nat.succ_mul] at this
          omega
        · have : (i + 1) * k.es ≤ i1 * k.es := Nat.mul_le_mul_right _ (by omega)
          rw [Nat.succ_mul] at this
          omega)
  refine OpOk.skip (W' := W.setRow B _) ?_ ⟨G, VRel.undef _, s1, s2⟩
  simp only [execOp, ho]
  refine runU ?_
  have hcs : (a.eval q).cells.size = u.cells.length := by simpa using hul
  have hsz' := run_csz T (n := u.cells.length) hsz.symm W
  simp only [Instr.storeAt, he, Instr.sureAddr, Sem.run_bind, Sem.run_pure, Result.andThen_ok, storeVar, hsz', hcs]
  simp [hst]

omit T in
theorem replicate_rel {G : Gh} {z : AV} {v : Value} (r : VRel G z v) (hf : z.cells.all AV.flat = true) (l : Nat) : RowIs G ((List.replicate l v.cells.toList).flatten).toArray 0 z.cells.length (List.replicate l z) := by
  intro i y hy
  have hlt : i < l := by have := (List.getElem?_eq_some_iff.1 hy).1; simpa using this
  rw [List.getElem?_replicate, if_pos hlt] at hy
  injection hy with hy
  subst hy
  have hl := VRels.length r.cells
  refine ⟨v, r, by simpa using hl, fun j w hj => ⟨?_, VRels.flat r.cells hf w (Array.mem_toList_iff.2 (Array.mem_of_getElem? hj))⟩⟩
  have hjl : j < z.cells.length := by have := (Array.getElem?_eq_some_iff.1 hj).1; simp at hl; omega
  rw [List.getElem?_toArray, Nat.zero_add]
  clear hf
  induction l generalizing i with
  | zero => omega
  | succ l ih =>
    rw [List.replicate_succ, List.flatten_cons]
    cases i with
    | zero => rw [Nat.zero_mul, Nat.zero_add, List.getElem?_append_left (by omega)]; simpa using hj
    | succ i =>
      rw [List.getElem?_append_right (by rw [Nat.succ_mul]; omega)]
      have := ih i (by omega)
      rw [show (i + 1) * z.cells.length + j - v.cells.toList.length = i * z.cells.length + j by rw [Nat.succ_mul]; omega]
      exact this

theorem op_makeSlice {t : TypeId} {p q : Operand} (ho : o.op = .makeSlice t p q) (S : Sim C G H W) (E : ERel G.g env a.tmps) {e : TypeId} (he : elemT C t = some e) {u v : AV} (h1 : aval C env p = some u) (h2 : aval C env q = some v) {l : Nat} (hl : idx u = some l) (hc : idx v = some l) {z : AV} (hz : zeroA C e = some z) {n : Nat} (hn : C.csz e = some n)
    (hroom : roomOk C e l = true) (hzl : z.cells.length = n) (h0 : 0 < n) (hf : z.cells.all AV.flat = true) :
    OpOk C.P o a W (Post C G W (.ex H.blks.length 0 n 0 l) { H with blks := H.blks ++ [⟨0, n, List.replicate l z⟩] }) := by
  obtain ⟨k, hk⟩ := idx_val hl (S.aval E h1)
  obtain ⟨k', hk'⟩ := idx_val hc (S.aval E h2)
  obtain ⟨y, hy, r, _⟩ := zeroA_rel hz
  obtain ⟨i, hi, c4, c5⟩ := roomOk_of T hroom
  have hys : y.cells.size = n := by have := VRels.length (r G.g).cells; simp at this; omega
  have hrow := replicate_rel (r G.g) hf l
  rw [hzl] at hrow
  obtain ⟨s1, s2⟩ := S.newBlk ((List.replicate l y.cells.toList).flatten).toArray e n (List.replicate l z) hrow (by simp [List.length_flatten, hys])
  refine OpOk.value (y := .slice (some ⟨W.heap.size, 0, none⟩) l l) (W' := W.alloc (.cells ((List.replicate l y.cells.toList).flatten).toArray e)) ?_ ⟨_, ⟨W.heap.size, 0, _, l, newBlk_at, h0, by simp, Nat.le_refl _, by simp [List.length_flatten, hys], (fun _ => by omega), no_cap exCap_zero⟩, s1, s2⟩
  simp only [execOp, ho]
  refine runV ?_
  have hw : IntKind.i64.wrap (l : Int) = (l : Int) := by
    simp only [IntKind.wrap, IntKind.bits, IntKind.signed]
    simp
    omega
  have ht : typeInfo e = (typeInfo e : Sem TypeInfo) := rfl
  have hinfo : (typeInfo e).run C.P W = .ok i W := by simp [typeInfo, hi]
  have hb : ¬ (281474976710656 < (i.bytes : Int) * (l : Int)) := by
    rw [Int.mul_comm]
    have : ((l * i.bytes : Nat) : Int) ≤ 140737488355328 := by omega
    rw [Int.natCast_mul] at this
    omega
  by_cases hl0 : l = 0
  · subst hl0
    simp [Instr.makeSlice, run_underlying (elemT_und T he), hk, hk', asInt, asIntOf, hinfo, IntKind.wrap, run_csz T hn, newRow, IntKind.bits, IntKind.signed]
    have e0 : ∀ f : Nat → Value, (Array.range 0).map f = #[] := fun f => by apply Array.ext'; simp
    rw [e0]
  · have hpos : ¬ l * n = 0 := by
      intro h
      rcases Nat.mul_eq_zero.1 h with h | h <;> omega
    have hz' := zeros_array y.cells l (by omega)
    rw [hys] at hz'
    simp only [Instr.makeSlice, Sem.run_bind, run_underlying (elemT_und T he), Result.andThen_ok, hk, hk', asInt, asIntOf, Sem.run_pure, hinfo, hw]
    have hneg : ¬ ((l : Int) < 0) := by omega
    simp [hneg, hb, run_csz T hn, hpos, run_zeroA T hy, hys, newRow]
    rw [hz']

omit T in
theorem heap_freeze_at {W : World} {p : Addr} {cells : Array Value} {tid : TypeId} {fr : Nat × Nat} {es : Nat} (hes : es ≤ 1) (h : W.heap[p.block]? = some (.cells cells tid fr)) (hp : cells.size ≤ p.off) (hfr : frE es cells.size fr) : ∃ fr', (W.freeze p 1).heap[p.block]? = some (.cells cells tid fr') ∧ frE es cells.size fr' := by
  obtain ⟨lo, hi⟩ := fr
  refine ⟨if lo == hi then (p.off, p.off + 1) else (min lo p.off, max hi (p.off + 1)), ?_, ?_⟩
  · have h1 := Array.getElem?_eq_some_iff.1 h
    obtain ⟨hlt, he⟩ := h1
    unfold World.freeze
    rw [if_neg (by decide)]
    simp only [Array.getElem?_modify, if_true, h, Option.map_some]
  · split
    · exact .inr ⟨hes, hp⟩
    · rename_i hne
      rcases hfr with hfr | hfr
      · injection hfr with e1 e2
        subst e1; subst e2
        simp at hne
      · right
        simp only at hfr
        exact ⟨hes, Nat.le_min.2 ⟨hfr.2, hp⟩⟩
omit T in
/-- A mark behind the end of a block. -/
theorem Sim.freezeTail (S : Sim C G H W) {p : Addr} {b : Nat} (ho : G.own p.block = some (.blk b)) (he : ∀ k, H.blks[b]? = some k → k.es ≤ 1) (hp : ∀ cells t fr, W.heap[p.block]? = some (.cells cells t fr) → cells.size ≤ p.off) : Sim C G H (W.freeze p 1) where
  base := by rw [size_freeze]; exact S.base
  im b o v x := by rw [cell_freeze]; exact S.im b o v x
  lit b x := by rw [size_freeze]; exact S.lit b x
  own b w x := by rw [size_freeze]; exact S.own b w x
  tok t e tid x hs := by
    obtain ⟨y, size, vals, h1, h2, h0, h3, h4⟩ := S.tok t e tid x hs
    refine ⟨y, size, vals, h1, h2, h0, ownsRow_of_heap h3 fun B hB => heap_freeze _ _ _ _ ?_, h4⟩
    rintro rfl
    rw [(h4 _ hB).1] at ho
    cases ho
  tokN := S.tokN
  blk b k x := by
    obtain ⟨B, o, cells, tid, h1, h2, h3, h4⟩ := S.blk b k x
    by_cases hB : B = p.block
    · subst hB
      have hes : k.es ≤ 1 := by
        rw [ho] at h3
        injection h3 with h3
        injection h3 with h3
        subst h3
        exact he k x
      obtain ⟨fr', e1, e2⟩ := heap_freeze_at hes h2.1 (hp _ _ _ h2.1) h2.2.1
      exact ⟨p.block, o, cells, (tid.1, fr'), h1, ⟨e1, e2, h2.2.2⟩, h3, h4⟩
    · exact ⟨B, o, cells, tid, h1, ⟨(heap_freeze _ _ _ _ hB).trans h2.1, h2.2⟩, h3, h4⟩
  blkN := S.blkN
  gl := S.gl
  mp m es x := (S.mp m es x).move (Gle.refl _) (fun R hR _ => heap_freeze _ _ _ _ (by
    rintro rfl
    rw [ho] at hR
    cases hR)) (fun _ x _ => x)
  mpN := S.mpN
theorem op_convertW {s d e : TypeId} {p : Operand} {b : ByteArray} (ho : o.op = .convert s d p) (S : Sim C G H W) (E : ERel G.g env a.tmps) (h1 : aval C env p = some (.v (.string b))) (hs : C.und s = some .string) (hd : C.und d = some (.slice e)) (he : isU8 C e = true) :
    OpOk C.P o a W (Post C G W (.ex H.blks.length 0 1 0 b.size) { H with blks := H.blks ++ [⟨0, 1, byteAVs b⟩] }) := by
  have hv : a.eval p = .string b := (S.aval E h1).1
  have hlen : (byteAVs b).length = b.size := by simp [byteAVs]
  have hrow : RowIs G.g (Lib.bytesCells W e b) 0 1 (byteAVs b) := by
    intro i x hx
    rw [byteAVs_rel, List.getElem?_map] at hx
    obtain ⟨v, hv, rfl⟩ := Option.map_eq_some_iff.1 hx
    have hv1 : v.cells = #[v] ∧ v.oneCell' = true ∧ Value.plain v = true := by
      rw [List.getElem?_map] at hv
      obtain ⟨c, _, rfl⟩ := Option.map_eq_some_iff.1 hv
      exact ⟨rfl, rfl, rfl⟩
    refine ⟨v, ⟨rfl, hv1.2.2⟩, by rw [hv1.1]; rfl, fun j w hj => ?_⟩
    rw [hv1.1] at hj
    cases j with
    | succ j => simp at hj
    | zero =>
      simp at hj
      subst hj
      refine ⟨?_, hv1.2.1⟩
      rw [← Array.getElem?_toList]
      simp only [Lib.bytesCells, Array.toList_append, Nat.zero_add, Nat.mul_one, Nat.add_zero]
      rw [List.getElem?_append_left (by simpa using (List.getElem?_eq_some_iff.1 hv).1)]
      simpa using hv
  have hge := grownCap_ge W b.size 0 e
  obtain ⟨s1, s2⟩ := S.drew.newBlk (Lib.bytesCells W e b) e 1 (byteAVs b) hrow (by rw [hlen]; simp only [Lib.bytesCells, Array.size_append, Array.size_map, ByteArray.size]; omega)
  have hat : (W.drew.alloc (.cells (Lib.bytesCells W e b) e)).heap[W.heap.size]? = some (.cells (Lib.bytesCells W e b) e (0, 0)) := heap_alloc_new W.drew _
  have hown : (G.newBlk H.blks.length W.drew.heap.size (Lib.bytesCells W e b).size 1).own W.heap.size = some (.blk H.blks.length) := by
    have hsz : W.drew.heap.size = W.heap.size := rfl
    simp only [Gs.newBlk, hsz, if_true]
  refine OpOk.value (y := .slice (some ⟨W.heap.size, 0, none⟩) b.size (grownCap W b.size 0 e)) (W' := Lib.bytesWorld W e b) ?_
    ⟨_, ⟨W.heap.size, 0, _, _, newBlk_at, by omega, by simp, hge, by simp only [Lib.bytesCells, Array.size_append, Array.size_map, ByteArray.size, Array.size_replicate] at *; omega, (fun h => by omega), no_cap exCap_zero⟩, s1.freezeTail (p := ⟨W.heap.size, (Lib.bytesCells W e b).size, none⟩) hown (fun k hk => by
      rw [show ({ H with blks := H.blks ++ [⟨0, 1, byteAVs b⟩] } : Hp).blks = H.blks ++ [⟨0, 1, byteAVs b⟩] from rfl, List.getElem?_append_right (Nat.le_refl _), Nat.sub_self] at hk
      injection hk with hk
      subst hk
      exact Nat.le_refl _) (fun cells t fr h => by
      rw [hat] at h
      injection h with h
      injection h with h
      subst h
      exact Nat.le_refl _), ((Adv.drew G W).trans s2).freeze ⟨W.heap.size, _, none⟩ 1 (.inl (Nat.le_refl _))⟩
  simp only [execOp, ho]
  refine runV ?_
  rw [hv]
  exact Lib.run_convert_string_bytes W s d e b (T.und _ _ hs) (T.und _ _ hd) (isU8_und T he)

omit T in
theorem bytesS_eq : ∀ {xs : List AV} {l : List UInt8}, bytesS xs = some l → xs = (l.map fun (c : UInt8) => Value.int .u8 c.toNat).map .v
  | [], l, h => by simp only [bytesS, Option.some.injEq] at h; subst h; rfl
  | x :: xs, l, h => by
    unfold bytesS at h
    split at h
    · rename_i he; cases he
    · rename_i n xs' he
      injection he with e1 e2
      subst e1; subst e2
      split at h
      · rename_i hn
        rw [Option.map_eq_some_iff] at h
        obtain ⟨m, hm, rfl⟩ := h
        rw [bytesS_eq hm]
        simp only [List.map_cons, UInt8.toNat_ofNat', List.cons.injEq, and_true]
        congr 2
        omega
      · cases h
    · cases h
omit T in
/-- A token's row is frozen: it is dead. -/
theorem Sim.killTok (S : Sim C G H W) {t e : Nat} {tid : TypeId} (hk : H.toks[t]? = some (e, tid)) {B : Nat} (hown : G.own B = some (.tok t)) (hdead : C.csz deadT = none) (q n : Nat) :
    Sim C G { H with toks := H.toks.set t (e, deadT) } (W.freeze ⟨B, q, none⟩ n) ∧ Adv G W G (W.freeze ⟨B, q, none⟩ n) := by
  have hlt := (List.getElem?_eq_some_iff.1 hk).1
  have hto : ∀ t1, t1 ≠ t → (H.toks.set t (e, deadT))[t1]? = H.toks[t1]? := fun t1 h1 => List.getElem?_set_ne (fun e => h1 e.symm)
  have htt : (H.toks.set t (e, deadT))[t]? = some (e, deadT) := List.getElem?_set_self hlt
  refine ⟨⟨by rw [size_freeze]; exact S.base, fun b o v x => by rw [cell_freeze]; exact S.im b o v x, fun b x => by rw [size_freeze]; exact S.lit b x, fun b w x => by rw [size_freeze]; exact S.own b w x, ?_, ?_, ?_, S.blkN, S.gl, fun m es x => (S.mp m es x).move (Gle.refl _) (fun R hR _ => heap_freeze _ _ _ _ (by
    rintro rfl
    rw [hown] at hR
    cases hR)) (fun _ x _ => x), S.mpN⟩,
    ⟨Gle.refl _, (freeze_os W _ n).1, (freeze_os W _ n).2.1, (freeze_os W _ n).2.2, by rw [size_freeze]; exact Nat.le_refl _, fun B' hB ho hl => ?_, fun _ _ x => x, fun _ _ x => x, fun _ _ _ _ _ x => x⟩⟩
  · intro t1 e1 tid1 x hs
    by_cases h1 : t1 = t
    · subst h1
      rw [show ({ H with toks := H.toks.set t1 (e, deadT) } : Hp).toks = H.toks.set t1 (e, deadT) from rfl, htt] at x
      injection x with x
      injection x with x1 x2
      subst x2
      rw [hdead] at hs
      cases hs
    · rw [show ({ H with toks := H.toks.set t (e, deadT) } : Hp).toks = H.toks.set t (e, deadT) from rfl, hto t1 h1] at x
      obtain ⟨y, size, vals, k1, k2, k0, k3, k4⟩ := S.tok t1 e1 tid1 x hs
      refine ⟨y, size, vals, k1, k2, k0, ownsRow_of_heap k3 fun B' hB => heap_freeze _ _ _ _ ?_, k4⟩
      rintro rfl
      have := (k4 _ hB).1
      rw [hown] at this
      injection this with this
      injection this with this
      exact h1 this.symm
  · intro t1 e1 h
    by_cases h1 : t1 = t
    · subst h1
      refine S.tokN t1 e1 fun e0 tid0 h0 => ?_
      rw [hk] at h0
      injection h0 with h0
      injection h0 with h0 _
      subst h0
      exact h e deadT htt
    · exact S.tokN t1 e1 fun e0 tid0 h0 => h e0 tid0 (by rw [show ({ H with toks := H.toks.set t (e, deadT) } : Hp).toks = H.toks.set t (e, deadT) from rfl, hto t1 h1]; exact h0)
  · intro b k x
    obtain ⟨B', o, cells, tid', h1, h2, h3, h4⟩ := S.blk b k x
    refine ⟨B', o, cells, tid', h1, ⟨(heap_freeze _ _ _ _ ?_).trans h2.1, h2.2⟩, h3, h4⟩
    rintro rfl
    rw [h3] at hown
    cases hown
  · refine heap_freeze _ _ _ _ ?_
    rintro rfl
    rw [hown] at ho
    cases ho
/-- A row's bytes as a text: the row is written no more. -/
theorem op_unsafeString {c : Call} (ho : o.op = .call c) (hc : c.callee = .builtin .unsafeString) (S : Sim C G H W) (E : ERel G.g env a.tmps) {t : Nat} {xs : List AV} {n : Int} (h1 : avals C env c.args.toList = some [.sd t xs, .v (.int .i64 n)]) {H' : Hp} (h : unsafeStrA C c.argTypes t xs n H = some (x, H')) :
    OpOk C.P o a W (Post C G W x H') := by
  obtain ⟨v, l, hargs, ⟨hb, b, cp, es, ht, hv, h0, hE⟩, v2, l2, rfl, ⟨hv2, _⟩, e⟩ := S.avals E h1
  obtain rfl : l2 = [] := e
  have hargs' : c.args.map a.eval = #[v, v2] := by apply Array.ext'; simpa using hargs
  unfold unsafeStrA at h
  split at h
  · rename_i e tid l u hk hl hu
    split at h
    · rename_i hcond
      obtain ⟨hsz2, rfl, rfl, hne, rfl, hu8, hcs, hdead, h63⟩ := hcond
      injection h with h
      injection h with hx hH
      subst hx; subst hH
      obtain ⟨yv, size, vals, k1, k2, k3, k4, k5⟩ := S.tok t xs.length tid hk (by rw [hcs]; rfl)
      have hy : yv = .slice (some ⟨b, 0, none⟩) xs.length cp := by rw [k1] at ht; injection ht
      subst hy
      obtain rfl : size = 1 := by rw [hcs] at k3; injection k3 with k3; exact k3.symm
      have hxs := bytesS_eq hl
      have hll : l.length = xs.length := by rw [hxs]; simp
      obtain ⟨j, hj, hjs⟩ := T.csz _ _ hcs
      have hcb : C.P.cellsOf tid = 1 := by
        simp only [Program.cellsOf, hj, Option.map_some, Option.getD_some]
        exact hjs
      rw [Option.bind_eq_some_iff] at hu
      obtain ⟨pt, hpt, hu⟩ := hu
      have hown := (k5 b rfl).1
      rcases k4.2 with ⟨hn, _⟩ | ⟨g, cap, cur, hsl, hbg, hg, hnc, hcm, hcsz, htk⟩
      · cases hn
      injection hsl with hsl _ hcap
      injection hsl with hsl
      injection hsl with hsl
      subst hsl; subst hcap
      have hcells : ∀ j x, l[j]? = some x → W.cell? ((⟨b, 0, none⟩ : Addr).add j) = some (.int .u8 x.toNat) := by
        intro j x hj
        rw [hxs] at hE
        obtain ⟨_, hk⟩ := Elems.ones hE (by simp [Value.oneCell'])
        have := S.im _ _ _ (hk j (.int .u8 x.toNat) (by rw [List.getElem?_map, hj]; rfl))
        rw [Addr.add_lit]
        exact this
      have hne' : l ≠ [] := by
        intro h
        rw [h] at hll
        exact hne (List.eq_nil_of_length_eq_zero hll.symm)
      have hrun := Lib.run_unsafeString_row (P := C.P) W pt ((c.argTypes[1]?).getD 0) o.type tid (T.und _ _ hu) hcb b cur.size (by simp [World.shape?, hg]) l hne' (by rw [hll]; omega) (by omega) hcells
      have hrun2 : (Builtin.unsafeString_ c.argTypes o.type #[v, v2]).run C.P W = .ok (.string ⟨l.toArray⟩) (W.freeze ⟨b, 0, none⟩ l.length) := by
        rw [hv, hv2, ← hll]
        have : c.argTypes = #[pt, (c.argTypes[1]?).getD 0] := by
          apply Array.ext'
          have h1 : c.argTypes.toList.length = 2 := by simpa using hsz2
          match hl : c.argTypes.toList, h1 with
          | [p, q], _ =>
            have e0 : c.argTypes[0]? = some p := by rw [← Array.getElem?_toList, hl]; rfl
            have e1 : c.argTypes[1]? = some q := by rw [← Array.getElem?_toList, hl]; rfl
            rw [hpt] at e0
            injection e0 with e0
            rw [e1, e0]
            rfl
        rw [this]
        exact hrun
      obtain ⟨s1, s2⟩ := S.killTok hk hown hdead 0 l.length
      refine OpOk.value (y := .string ⟨l.toArray⟩) (W' := W.freeze ⟨b, 0, none⟩ l.length) ?_ ⟨G, ⟨rfl, rfl⟩, s1, s2⟩
      simp only [execOp, ho, resolve, hc, hargs', Sem.run_bind, Sem.run_pure, Result.andThen_ok, invoke, builtin, hrun2]
    · cases h
  · cases h

omit T in
theorem Elems.rowIs {G : Gh} {es b o q : Nat} {xs : List AV} {vs : List Value} {cells : Array Value} (hE : Elems G es b o xs) (hl : vs.length = xs.length * es) (hi : ImAt G b o vs) (hc : ∀ j v, vs[j]? = some v → cells[q + j]? = some v) : RowIs G cells q es xs := by
  intro i x hx
  obtain ⟨z, r, hz, hzi⟩ := Elems.get es b hE hx
  refine ⟨z, r, hz, fun j v hj => ?_⟩
  have hj' : z.cells.toList[j]? = some v := by simpa using hj
  obtain ⟨h1, h2⟩ := hzi j v hj'
  refine ⟨?_, h2⟩
  have hjl : j < es := by
    have := (Array.getElem?_eq_some_iff.1 hj).1
    omega
  have hil : i < xs.length := (List.getElem?_eq_some_iff.1 hx).1
  have hlt : i * es + j < vs.length := by
    rw [hl]
    have : (i + 1) * es ≤ xs.length * es := Nat.mul_le_mul_right _ (by omega)
    rw [Nat.succ_mul] at this
    omega
  have hv : vs[i * es + j]? = some (vs[i * es + j]) := List.getElem?_eq_getElem hlt
  have h3 := (hi _ _ hv).1
  rw [← Nat.add_assoc, h1] at h3
  rw [Nat.add_assoc, hc _ _ hv]
  exact h3.symm
omit T in
theorem RowIs.append {G : Gh} {cells : Array Value} {o es : Nat} {xs ys : List AV} (h1 : RowIs G cells o es xs) (h2 : RowIs G cells (o + xs.length * es) es ys) : RowIs G cells o es (xs ++ ys) := by
  intro i x hx
  by_cases hi : i < xs.length
  · rw [List.getElem?_append_left hi] at hx
    exact h1 i x hx
  · rw [List.getElem?_append_right (by omega)] at hx
    obtain ⟨z, r, hz, hc⟩ := h2 _ x hx
    refine ⟨z, r, hz, fun j v hj => ?_⟩
    obtain ⟨a, b⟩ := hc j v hj
    refine ⟨?_, b⟩
    rw [← a]
    congr 1
    have : xs.length * es + (i - xs.length) * es = i * es := by rw [← Nat.add_mul]; congr 1; omega
    omega
omit T in
theorem RowIs.move {G : Gh} {cells cells' : Array Value} {o o' es : Nat} {xs : List AV} (h : RowIs G cells o es xs) (hc : ∀ p, p < xs.length * es → cells'[o' + p]? = cells[o + p]?) : RowIs G cells' o' es xs := by
  intro i x hx
  obtain ⟨z, r, hz, hj⟩ := h i x hx
  refine ⟨z, r, hz, fun j v hv => ?_⟩
  obtain ⟨a, b⟩ := hj j v hv
  refine ⟨?_, b⟩
  have hjl : j < es := by have := (Array.getElem?_eq_some_iff.1 hv).1; omega
  have hil := (List.getElem?_eq_some_iff.1 hx).1
  have h2 : (i + 1) * es ≤ xs.length * es := Nat.mul_le_mul_right _ (by omega)
  rw [Nat.succ_mul] at h2
  rw [Nat.add_assoc, hc _ (by omega), ← Nat.add_assoc]
  exact a
omit T in
theorem RowIs.mono {G G' : Gh} (h : Gle G G') {cells : Array Value} {o es : Nat} {xs : List AV} (k : RowIs G cells o es xs) : RowIs G' cells o es xs := by
  intro i x hx
  obtain ⟨z, r, hz, hj⟩ := k i x hx
  exact ⟨z, r.mono h, hz, hj⟩
omit T in
/-- A block's mark turns: whatever is known by the old one may not be used any more. -/
theorem Sim.remark (S : Sim C G H W) {b : Nat} {k : Blk} (hk : H.blks[b]? = some k) {gn : Nat} (gn1 : growG ≤ gn) (gn2 : k.gen < gn) {B q sz es : Nat} (hb : G.g.blk b k.gen = some (B, q, sz, es)) :
    Sim C ⟨{ G.g with blk := fun b1 g1 => if b1 = b ∧ g1 = gn then some (B, q, sz, es) else G.g.blk b1 g1 }, G.own⟩ { H with blks := H.blks.set b { k with gen := gn } } W ∧
    Adv G W ⟨{ G.g with blk := fun b1 g1 => if b1 = b ∧ g1 = gn then some (B, q, sz, es) else G.g.blk b1 g1 }, G.own⟩ W := by
  have hbl : b < H.blks.length := (List.getElem?_eq_some_iff.1 hk).1
  obtain ⟨B', q', cells, tid, k1, k2, k3, k4, k5, k6⟩ := S.blk b k hk
  have hfr := k2.2.2.2
  have hgle : Gle G.g { G.g with blk := fun b1 g1 => if b1 = b ∧ g1 = gn then some (B, q, sz, es) else G.g.blk b1 g1 } := ⟨rfl, fun _ _ _ x => x, fun _ x => x, fun _ _ _ x => x, fun b1 g1 v x => by
    show (if b1 = b ∧ g1 = gn then some (B, q, sz, es) else G.g.blk b1 g1) = some v
    rw [if_neg]
    · exact x
    · rintro ⟨rfl, rfl⟩
      rw [hfr _ gn1 gn2] at x
      exact (nomatch x), fun _ _ x => x⟩
  refine ⟨⟨S.base, S.im, S.lit, S.own, fun t e tid' x hs => S.tok t e tid' x hs, S.tokN, ?_, ?_, ?_, fun m es x => (S.mp m es x).move hgle (fun _ _ _ => rfl) (fun _ x _ => x), S.mpN⟩, ⟨hgle, rfl, rfl, rfl, Nat.le_refl _, fun _ _ _ _ => rfl, fun _ _ x => x, fun _ _ x => x, fun _ _ _ _ _ x => x⟩⟩
  · intro b' k' x
    by_cases hbb : b' = b
    · subst hbb
      rw [show ({ H with blks := H.blks.set b' { k with gen := gn } } : Hp).blks = H.blks.set b' { k with gen := gn } from rfl, List.getElem?_set_self hbl] at x
      injection x with x
      subst x
      rw [hb] at k1
      injection k1 with k1
      injection k1 with e1 k1
      injection k1 with e2 k1
      injection k1 with e3 e4
      subst e1; subst e2; subst e3; subst e4
      refine ⟨B, q, cells, tid, ?_, ⟨k2.1, k2.2.1, .inr (.inr gn1), fun g' a c => ?_⟩, k3, k4, k5, k6.mono hgle⟩
      · show (if b' = b' ∧ gn = gn then some (B, q, cells.size, k.es) else _) = _
        rw [if_pos ⟨rfl, rfl⟩]
      · show (if b' = b' ∧ g' = gn then some (B, q, cells.size, k.es) else G.g.blk b' g') = none
        have c' : gn < g' := c
        rw [if_neg (by omega)]
        have := gn2
        exact hfr g' a (by omega)
    · rw [show ({ H with blks := H.blks.set b { k with gen := gn } } : Hp).blks = H.blks.set b { k with gen := gn } from rfl, List.getElem?_set_ne (fun e => hbb e.symm)] at x
      obtain ⟨B1, q1, cs, tid', j1, j2, j3, j4, j5, j6⟩ := S.blk b' k' x
      refine ⟨B1, q1, cs, tid', ?_, ⟨j2.1, j2.2.1, j2.2.2.1, fun g' a c => ?_⟩, j3, j4, j5, j6.mono hgle⟩
      · show (if b' = b ∧ k'.gen = gn then some (B, q, sz, es) else G.g.blk b' k'.gen) = _
        rw [if_neg (by omega)]
        exact j1
      · show (if b' = b ∧ g' = gn then some (B, q, sz, es) else G.g.blk b' g') = none
        rw [if_neg (by omega)]
        exact j2.2.2.2 g' a c
  · intro b' g h
    simp only [List.length_set] at h
    show (if b' = b ∧ g = gn then some (B, q, sz, es) else G.g.blk b' g) = none
    rw [if_neg (by omega)]
    exact S.blkN b' g h
  · intro g x hx
    obtain ⟨z, hz, hi⟩ := S.gl g x hx
    exact ⟨z, hz, hi.mono hgle⟩
omit T in
theorem Sim.regen (S : Sim C G H W) {b : Nat} {k : Blk} (hk : H.blks[b]? = some k) {B q sz es : Nat} (hb : G.g.blk b k.gen = some (B, q, sz, es)) :
    Sim C ⟨{ G.g with blk := fun b1 g1 => if b1 = b ∧ g1 = nextG k.gen then some (B, q, sz, es) else G.g.blk b1 g1 }, G.own⟩ { H with blks := H.blks.set b { k with gen := nextG k.gen } } W ∧
    Adv G W ⟨{ G.g with blk := fun b1 g1 => if b1 = b ∧ g1 = nextG k.gen then some (B, q, sz, es) else G.g.blk b1 g1 }, G.own⟩ W := S.remark hk (nextG_le _) (nextG_lt _) hb
omit T in
/-- A block moves to a row of its own. -/
theorem Sim.farBlk (S : Sim C G H W) {b : Nat} {k : Blk} (hk : H.blks[b]? = some k) (vals : Array Value) (tid : TypeId) (xs : List AV) (hrow : RowIs G.g vals 0 k.es xs) (hlen : xs.length * k.es ≤ vals.size) :
    Sim C (G.newBlk b W.heap.size vals.size k.es (nextG k.gen)) { H with blks := H.blks.set b ⟨nextG k.gen, k.es, xs⟩ } (W.alloc (.cells vals tid)) ∧ Adv G W (G.newBlk b W.heap.size vals.size k.es (nextG k.gen)) (W.alloc (.cells vals tid)) := by
  have him : ∀ b o v, G.g.im b o = some v → b < W.heap.size := fun b o v x => World.block_lt_of_cell? W _ (S.im b o v x)
  have hbl : b < H.blks.length := (List.getElem?_eq_some_iff.1 hk).1
  obtain ⟨_, _, _, _, _, k2, _⟩ := S.blk b k hk
  have hfr := k2.2.2.2
  have hgle : Gle G.g (G.newBlk b W.heap.size vals.size k.es (nextG k.gen)).g := ⟨rfl, fun _ _ _ x => x, fun _ x => x, fun _ _ _ x => x, fun b1 g1 v x => by
    simp only [Gs.newBlk]
    rw [if_neg]
    · exact x
    · rintro ⟨rfl, rfl⟩
      rw [hfr _ (nextG_le _) (nextG_lt _)] at x
      exact (nomatch x), fun _ _ x => x⟩
  refine ⟨⟨?_, ?_, ?_, ?_, ?_, S.tokN, ?_, ?_, ?_, fun m es x => (S.mp m es x).move hgle (fun R _ hR => heap_alloc_old W _ R hR) (fun R ho hR => by
    simp only [Gs.newBlk]
    rw [if_neg (by omega)]
    exact ho), S.mpN⟩, ⟨hgle, rfl, rfl, rfl, by simp, fun B hB _ _ => heap_alloc_old W _ B hB, ?_, fun _ _ x => x, fun _ _ _ _ _ x => x⟩⟩
  · have := S.base; simp [Gs.newBlk]; omega
  · intro b o v x
    rw [World.cell?_alloc_lt W (h := him b o v x)]
    exact S.im b o v x
  · intro b x
    obtain ⟨h1, h2, h3⟩ := S.lit b x
    refine ⟨h1, by simp; omega, ?_⟩
    simp only [Gs.newBlk]
    rw [if_neg (by omega)]
    exact h3
  · intro b w x
    simp only [Gs.newBlk] at x
    split at x
    · rename_i e; subst e; exact ⟨S.base, by simp⟩
    · obtain ⟨h1, h2⟩ := S.own b w x; exact ⟨h1, by simp; omega⟩
  · intro t e tid' x hs
    obtain ⟨y, size, vs, h1, h2, h0, h3, h4⟩ := S.tok t e tid' x hs
    refine ⟨y, size, vs, h1, h2, h0, h3.alloc _, fun B hB => ⟨?_, (h4 B hB).2⟩⟩
    have := (h3.lt B hB).2
    simp only [Gs.newBlk]
    rw [if_neg (by omega)]
    exact (h4 B hB).1
  · intro b' k' x
    by_cases hbb : b' = b
    · subst hbb
      rw [show ({ H with blks := H.blks.set b' ⟨nextG k.gen, k.es, xs⟩ } : Hp).blks = H.blks.set b' ⟨nextG k.gen, k.es, xs⟩ from rfl, List.getElem?_set_self hbl] at x
      injection x with x
      subst x
      refine ⟨W.heap.size, 0, vals, (tid, 0, 0), by simp [Gs.newBlk], ⟨heap_alloc_new W _, .inl rfl, .inr (.inr (nextG_le _)), fun g' a c => ?_⟩, by simp [Gs.newBlk], fun o => ?_, by simpa using hlen, hrow.mono hgle⟩
      · simp only [Gs.newBlk]
        have c' : nextG k.gen < g' := c
        rw [if_neg (by omega)]
        have := nextG_lt k.gen
        exact hfr g' a (by omega)
      · cases hh : G.g.im W.heap.size o with
        | none => exact hh
        | some v => have := him _ _ _ hh; omega
    · rw [show ({ H with blks := H.blks.set b ⟨nextG k.gen, k.es, xs⟩ } : Hp).blks = H.blks.set b ⟨nextG k.gen, k.es, xs⟩ from rfl, List.getElem?_set_ne (fun e => hbb e.symm)] at x
      obtain ⟨B, o, cells, tid', h1, h2, h3, h4, h5, h6⟩ := S.blk b' k' x
      have hB := (Array.getElem?_eq_some_iff.1 h2.1).1
      refine ⟨B, o, cells, tid', ?_, ⟨(heap_alloc_old W _ B hB).trans h2.1, h2.2.1, h2.2.2.1, fun g' a c => ?_⟩, ?_, h4, h5, h6.mono hgle⟩
      · simp only [Gs.newBlk]
        rw [if_neg (by omega)]
        exact h1
      · simp only [Gs.newBlk]
        rw [if_neg (by omega)]
        exact h2.2.2.2 g' a c
      · simp only [Gs.newBlk]
        rw [if_neg (by omega)]
        exact h3
  · intro b' g h
    simp only [List.length_set] at h
    simp only [Gs.newBlk]
    rw [if_neg (by omega)]
    exact S.blkN b' g h
  · intro g x hx
    obtain ⟨z, hz, hi⟩ := S.gl g x hx
    exact ⟨z, hz, hi.mono hgle⟩
  · intro B hB hno
    simp only [Gs.newBlk]
    rw [if_neg (by omega)]
    exact hno
omit T in
theorem run_append_near {P : Program} {t u ty e : TypeId} {i : TypeInfo} (ht : P.underlying t = some (.slice e)) (hi : P.info? e = some i) {y : Value} {m : Nat} {news : List Value} (hs : Src P u y m i.size news W)
    {B q n cap : Nat} {cur : Array Value} {tid : TypeId} {fr : Nat × Nat} (hg : W.heap[B]? = some (.cells cur tid fr)) (hfr : frOk cur.size fr) (hroom : n + m ≤ cap) (hfit : q + n * i.size + news.length ≤ cur.size) :
    (Builtin.append_ #[t, u] ty #[.slice (some ⟨B, q, none⟩) n cap, y]).run P W =
      .ok (.slice (some ⟨B, q, none⟩) (n + m) cap) (W.setRow B (cur.toList.take (q + n * i.size) ++ news ++ cur.toList.drop (q + n * i.size + news.length)).toArray) := by
  obtain ⟨d, hd, hn⟩ := hs.typ
  have hst := run_storeCells_fr (P := P) B (q + n * i.size) tid fr news 0 cur W hg hfr (by omega) hs.one
  simp only [Nat.add_zero] at hst
  simp [Builtin.append_, run_underlying ht, run_underlying hd, sizeOf, typeInfo, hi, hs.len, hroom, hs.cells, Addr.add_lit, hst]
omit T in
theorem seg_get (cells vs : List Value) (p : Nat) (h : p + vs.length ≤ cells.length) (n : Nat) : (cells.take p ++ vs ++ cells.drop (p + vs.length))[n]? = if p ≤ n ∧ n < p + vs.length then vs[n - p]? else cells[n]? := by
  by_cases d1 : n < p
  · rw [List.append_assoc, List.getElem?_append_left (by rw [List.length_take]; omega), List.getElem?_take, if_pos d1, if_neg (by omega)]
  · by_cases d2 : n < p + vs.length
    · rw [List.append_assoc, List.getElem?_append_right (by rw [List.length_take]; omega), List.getElem?_append_left (by rw [List.length_take]; omega), List.length_take, if_pos (by omega)]
      congr 1
      omega
    · rw [List.getElem?_append_right (by rw [List.length_append, List.length_take]; omega), List.getElem?_drop, List.length_append, List.length_take, if_neg (by omega)]
      congr 1
      omega
omit T in
/-- Some of a block's last elements are forgotten. -/
theorem Sim.trunc (S : Sim C G H W) {b g : Nat} {bl : Blk} (hbl : blkAt H b g = some bl) (n : Nat) : Sim C G { H with blks := H.blks.set b { bl with xs := bl.xs.take n } } W ∧ blkAt { H with blks := H.blks.set b { bl with xs := bl.xs.take n } } b g = some { bl with xs := bl.xs.take n } := by
  obtain ⟨hk, rfl⟩ := blkAt_val hbl
  have hlt := (List.getElem?_eq_some_iff.1 hk).1
  refine ⟨⟨S.base, S.im, S.lit, S.own, S.tok, S.tokN, fun b' k' hk' => ?_, fun b' g' h => ?_, S.gl, S.mp, S.mpN⟩, ?_⟩
  · by_cases hb : b = b'
    · subst hb
      rw [List.getElem?_set_self hlt] at hk'
      injection hk' with hk'
      subst hk'
      obtain ⟨B, o, cells, tid, h1, h2, h3, h4, h5, h6⟩ := S.blk b bl hk
      refine ⟨B, o, cells, tid, h1, h2, h3, h4, ?_, fun i x hx => ?_⟩
      · have : (bl.xs.take n).length * bl.es ≤ bl.xs.length * bl.es := Nat.mul_le_mul_right _ (by rw [List.length_take]; omega)
        show o + (bl.xs.take n).length * bl.es ≤ cells.size
        omega
      · have hx : (bl.xs.take n)[i]? = some x := hx
        rw [List.getElem?_take] at hx
        split at hx
        · exact h6 i x hx
        · cases hx
    · rw [List.getElem?_set_ne hb] at hk'
      exact S.blk b' k' hk'
  · rw [List.length_set] at h
    exact S.blkN b' g' h
  · unfold blkAt
    simp only [List.getElem?_set_self hlt, if_true]
omit T in
/-- A row that may be written grows: where it lies, or elsewhere. -/
theorem grow_row (S : Sim C G H W) {b g : Nat} {bl : Blk} (hbl : blkAt H b g = some bl) {es n : Nat} (hes : bl.es = es) (hn : bl.xs.length = n) {t u ty e : TypeId} {i : TypeInfo} {z : Value} (ht : C.P.underlying t = some (.slice e)) (hi : C.P.info? e = some i) (hz : i.zero = some z) (hzs : z.cells.size = i.size) (hie : i.size = es)
    {y : Value} {ys : List AV} {news : List Value} (hs : Src C.P u y ys.length i.size news W) (hrow : RowIs G.g news.toArray 0 es ys) (hnl : news.length = ys.length * es) (h1 : ∀ v ∈ news, v.oneCell' = true) (hpos : 0 < ys.length) {vs : Value} (r : VRel G.g (.ex b g es 0 n) vs)
    (hfit : ∀ c, c < n + ys.length → Builtin.nextslicecap (n + ys.length) c * i.bytes ≤ 281474976710656) (h63 : n + ys.length ≤ 9223372036854775807) :
    ∃ v' W', (Builtin.append_ #[t, u] ty #[vs, y]).run C.P W = .ok v' W' ∧ Post C G W (.ex b (nextG g) es 0 (n + ys.length)) { H with blks := H.blks.set b ⟨nextG g, es, bl.xs ++ ys⟩ } v' W' := by
  obtain ⟨B, q, sz, c, hb, h0, rfl, hlc, hcap⟩ := r
  obtain ⟨hk, rfl⟩ := blkAt_val hbl
  obtain ⟨B', q', cells, tid, k1, k2, k3, k4, k5, k6⟩ := S.blk b bl hk
  rw [hb] at k1
  injection k1 with k1
  injection k1 with e1 k1
  injection k1 with e2 k1
  injection k1 with e3 e4
  subst e1; subst e2; subst e3; subst hes
  subst hn
  simp only [Nat.zero_mul, Nat.add_zero, Nat.zero_add] at hcap ⊢
  by_cases hroom : bl.xs.length + ys.length ≤ c
  · have hfit2 : q + bl.xs.length * i.size + news.length ≤ cells.size := by
      have : (bl.xs.length + ys.length) * bl.es ≤ c * bl.es := Nat.mul_le_mul_right _ hroom
      rw [Nat.add_mul] at this
      rw [hie, hnl]
      omega
    have hr := run_append_near (ty := ty) ht hi hs (q := q) (n := bl.xs.length) (cap := c) k2.1 k2.2.1.ok hroom hfit2
    obtain ⟨s1, s2⟩ := S.regen hk hb
    have hlt := (List.getElem?_eq_some_iff.1 hk).1
    rw [hie] at hr hfit2
    have hcl : q + bl.xs.length * bl.es + news.length ≤ cells.toList.length := by simpa using hfit2
    obtain ⟨t1, t2⟩ := s1.setBlk (b := b) (k := { bl with gen := nextG bl.gen }) (by simp [hlt]) (B := B) (q := q) (cells := cells) (tid := tid.1) (fr := tid.2) (by
      show (if b = b ∧ nextG bl.gen = nextG bl.gen then some (B, q, cells.size, bl.es) else _) = _
      rw [if_pos ⟨rfl, rfl⟩]) k2.1 ⟨k2.2.1, .inr (.inr (nextG_le _)), fun g' a d => by
        show (if b = b ∧ g' = nextG bl.gen then some (B, q, cells.size, bl.es) else G.g.blk b g') = none
        have d' : nextG bl.gen < g' := d
        rw [if_neg (by omega)]
        have := nextG_lt bl.gen
        exact k2.2.2.2 g' a (by omega)⟩ k3
      (cells' := (cells.toList.take (q + bl.xs.length * bl.es) ++ news ++ cells.toList.drop (q + bl.xs.length * bl.es + news.length)).toArray) (by
        simp only [List.size_toArray, List.length_append, List.length_take, List.length_drop, Array.length_toList]
        omega) (xs := bl.xs ++ ys) (by
        rw [List.length_append, Nat.add_mul]
        show q + (bl.xs.length * bl.es + ys.length * bl.es) ≤ cells.size
        omega) (by
        refine RowIs.mono s2.gle ?_
        refine RowIs.append (k6.move fun p hp => ?_) (hrow.move fun p hp => ?_)
        · rw [List.getElem?_toArray, seg_get _ _ _ hcl, if_neg (by omega), Array.getElem?_toList]
        · show (cells.toList.take (q + bl.xs.length * bl.es) ++ news ++ cells.toList.drop (q + bl.xs.length * bl.es + news.length)).toArray[q + bl.xs.length * bl.es + p]? = _
          have hp' : p < ys.length * bl.es := hp
          rw [List.getElem?_toArray, seg_get _ _ _ hcl, if_pos (by omega), List.getElem?_toArray]
          congr 1
          omega)
    refine ⟨_, _, hr, ⟨_, ⟨B, q, cells.size, c, ?_, h0, by simp, hroom, by simpa using hcap.1, (fun h => by have := hcap.2.1 h; omega), no_cap (exCap_next _)⟩, ?_, s2.trans t2⟩⟩
    · show (if b = b ∧ nextG bl.gen = nextG bl.gen then some (B, q, cells.size, bl.es) else _) = _
      rw [if_pos ⟨rfl, rfl⟩]
    · have e5 : ({ H with blks := (H.blks.set b { bl with gen := nextG bl.gen }).set b { bl with gen := nextG bl.gen, xs := bl.xs ++ ys } } : Hp) = { H with blks := H.blks.set b ⟨nextG bl.gen, bl.es, bl.xs ++ ys⟩ } := by
        rw [List.set_set]
      rw [← e5]
      exact t1
  · obtain ⟨olds, holds⟩ : ∃ olds, olds = (cells.toList.drop q).take (bl.xs.length * i.size) := ⟨_, rfl⟩
    have hol : olds.length = bl.xs.length * i.size := by
      rw [holds, List.length_take, List.length_drop, Array.length_toList, hie]
      omega
    have hold : ∀ j v, olds[j]? = some v → cells[q + j]? = some v := by
      intro j v hj
      rw [holds, List.getElem?_take] at hj
      split at hj
      · rw [List.getElem?_drop, Array.getElem?_toList] at hj
        exact hj
      · cases hj
    have hcell : ∀ j v, olds[j]? = some v → W.drew.cell? ((⟨B, q, none⟩ : Addr).add j) = some v := by
      intro j v hj
      have hh : W.drew.heap[B]? = some (.cells cells tid.1 tid.2) := k2.1
      rw [Addr.add_lit]
      simp only [World.cell?, hh]
      exact hold j v hj
    have hr := run_append_far (ty := ty) ht hi hz hs (b := some ⟨B, q, none⟩) (n := bl.xs.length) (cap := c) (olds := olds) hol (run_firstCells_some W.drew i.size bl.xs.length _ bl.xs.length c olds hol hcell) (by omega) h63 (hfit c (by omega))
    obtain ⟨vals, hvals⟩ : ∃ vals, (olds.toArray ++ news.toArray ++ Builtin.zeroCells z.cells (grownCap W (bl.xs.length + ys.length) c e - (bl.xs.length + ys.length))) = vals := ⟨_, rfl⟩
    rw [hvals] at hr
    have hge := grownCap_ge W (bl.xs.length + ys.length) c e
    have hvz : vals.size = grownCap W (bl.xs.length + ys.length) c e * bl.es := by
      rw [← hvals, Array.size_append, Array.size_append, List.size_toArray, List.size_toArray, hol, hnl, size_zeroCells, hzs, hie, ← Nat.add_mul, ← Nat.add_mul]
      congr 1
      omega
    have hrow2 : RowIs G.g vals 0 bl.es (bl.xs ++ ys) := by
      refine RowIs.append (k6.move fun p hp => ?_) (hrow.move fun p hp => ?_)
      · rw [← hvals, Nat.zero_add, Array.getElem?_append_left (by rw [Array.size_append, List.size_toArray, List.size_toArray, hol, hnl, hie]; omega), Array.getElem?_append_left (by rw [List.size_toArray, hol, hie]; omega), List.getElem?_toArray, holds, List.getElem?_take, if_pos (by rw [hie]; exact hp), List.getElem?_drop, Array.getElem?_toList]
      · have hp' : p < ys.length * bl.es := hp
        rw [← hvals, Array.getElem?_append_left (by rw [Array.size_append, List.size_toArray, List.size_toArray, hol, hnl, hie]; omega), Array.getElem?_append_right (by rw [List.size_toArray, hol, hie]; omega), List.getElem?_toArray, List.getElem?_toArray, List.size_toArray]
        congr 1
        rw [hol, hie]
        omega
    obtain ⟨s1, s2⟩ := (Sim.drew C S).farBlk hk vals e (bl.xs ++ ys) hrow2 (by
      rw [hvz, List.length_append]
      exact Nat.mul_le_mul_right _ hge)
    exact ⟨_, _, hr, ⟨_, ⟨W.heap.size, 0, vals.size, grownCap W (bl.xs.length + ys.length) c e, newBlk_at, h0, by simp, hge, by rw [hvz]; simp, (fun _ => by rw [Nat.zero_add]; exact grownCap_le_maxLen W (bl.xs.length + ys.length) c e (by simp only [maxLen]; omega)), no_cap (exCap_next _)⟩, s1, (Adv.drew G W).trans s2⟩⟩
/-- What is appended to nothing makes a row of its own, which may be written. -/
theorem op_appendX {c : Call} (ho : o.op = .call c) (hc : c.callee = .builtin .append) (S : Sim C G H W) (E : ERel G.g env a.tmps) {s y : AV} (h1 : avals C env c.args.toList = some [s, y]) {e : TypeId} (he : (c.argTypes[0]?).bind (elemT C) = some e)
    {u : TypeId} (hu0 : c.argTypes[1]? = some u) (hu : (∃ e', C.und u = some (.slice e')) ∨ C.und u = some .string) {z : AV} (hz : zeroA C e = some z) {H' : Hp} (h : appendX C e s y H = some (x, H')) (hzl : ∀ k, C.csz e = some k → z.cells.length = k) :
    OpOk C.P o a W (Post C G W x H') := by
  have r := S.avals E h1
  obtain ⟨vs, l, hargs, rs, v, l', e2, ry, e3⟩ := r
  obtain rfl : l' = [] := e3
  subst e2
  simp only [Option.bind_eq_some_iff] at he
  obtain ⟨t, ht, he⟩ := he
  have htu := elemT_und T he
  have hargs' : c.args.map a.eval = #[vs, v] := by apply Array.ext'; simpa using hargs
  have hty : (Builtin.append_ c.argTypes o.type #[vs, v]) = (Builtin.append_ #[t, u] o.type #[vs, v]) := by
    simp only [Builtin.append_, ht, hu0]
    rfl
  have fin : ∀ v' W', (Builtin.append_ #[t, u] o.type #[vs, v]).run C.P W = .ok v' W' → Post C G W x H' v' W' → OpOk C.P o a W (Post C G W x H') := by
    intro v' W' hr hp
    refine OpOk.value (y := v') (W' := W') ?_ hp
    simp only [execOp, ho, resolve, hc, hargs', Sem.run_bind, Sem.run_pure, Result.andThen_ok, invoke, builtin, hty, hr]
  have hd0 : ∃ d, C.P.underlying u = some d ∧ (∀ k, d ≠ .int k) := by
    rcases hu with ⟨e', hu⟩ | hu
    · exact ⟨_, T.und _ _ hu, fun k => by simp⟩
    · exact ⟨_, T.und _ _ hu, fun k => by simp⟩
  obtain ⟨d, hd, hdn⟩ := hd0
  unfold appendX at h
  split at h
  · rename_i k hsrc hk
    obtain ⟨i, hi, hik⟩ := T.csz _ _ hk
    have hsrc0 : (∀ W', (Builtin.lenOf v).run C.P W' = .ok 0 W') ∧ ∀ n, (Builtin.firstCells n 0 v).run C.P W = .ok #[] W := by
      obtain ⟨_, a', c', rfl, _⟩ := elems_val hsrc ry
      refine ⟨fun _ => rfl, fun n => ?_⟩
      cases a' <;> simp [Builtin.firstCells, loadCells, loadCellsFrom]
    have hrun : ∀ b n cp, vs = .slice b n cp → n ≤ cp → (Builtin.append_ #[t, u] o.type #[vs, v]).run C.P W = .ok vs W := by
      rintro b n cp rfl hle
      cases b <;> simp [Builtin.append_, run_underlying htu, run_underlying hd, sizeOf, typeInfo, hi, hsrc0.1, hsrc0.2, hle, storeCells]
    split at h
    · injection h with h
      injection h with hx hH
      subst hx; subst hH
      exact fin vs W (hrun _ _ _ rs.1 (Nat.le_refl _)) (Post.here S rs)
    · rename_i f
      injection h with h
      injection h with hx hH
      subst hx; subst hH
      have rs' := rs
      obtain ⟨_, a', hvs, _⟩ := rs
      exact fin vs W (hrun _ _ _ hvs (Nat.le_refl _)) (Post.here S rs')
    · injection h with h
      injection h with hx hH
      subst hx; subst hH
      have rs' := rs
      obtain ⟨_, _, _, _, _, _, hvs, hlc, _⟩ := rs
      exact fin vs W (hrun _ _ _ hvs hlc) (Post.here S rs')
    · cases h
  · rename_i y0 ys k hsrc hk
    split at h
    · rename_i hcond
      obtain ⟨hyl, hroom⟩ := hcond
      obtain ⟨i, hi, hik⟩ := T.csz _ _ hk
      obtain ⟨zv, hzv, rz, _⟩ := zeroA_rel hz
      obtain ⟨i', hi', hiz⟩ := T.zero _ _ hzv
      have ei : i' = i := by rw [hi] at hi'; injection hi' with h; exact h.symm
      subst ei
      have hzs : zv.cells.size = i'.size := by
        have := VRels.length (rz G.g).cells
        have h2 := hzl _ hk
        simp at this
        omega
      obtain ⟨i2, hi2, c4, c5⟩ := roomOk_of T hroom
      have ei2 : i2 = i' := by rw [hi] at hi2; injection hi2 with h; exact h.symm
      subst ei2
      obtain ⟨hb, a', cc, hv, hlc, hE⟩ := elems_val hsrc ry
      subst hv
      rcases hE with hE | ⟨B, w, es, rfl, hes, hE⟩
      · cases hE
      rcases szOk_of (n := k + 1) (by simp [szOk, hyl]) hE with hn | rfl
      · cases hn
      obtain ⟨news, n1, n2, _⟩ := hE.vals
      have hu' : ∃ d, C.P.underlying u = some d ∧ (∀ k, d ≠ .int k) := ⟨d, hd, hdn⟩
      have hcells : ∀ j v, news[j]? = some v → W.cell? ((⟨B, w, none⟩ : Addr).add j) = some v := ImAt.cells S n2
      have hsi : Src C.P u (.slice (some ⟨B, w, none⟩) (y0 :: ys).length cc) (y0 :: ys).length i2.size news W := by
        refine ⟨hu', fun _ => rfl, run_firstCells_some W _ _ _ _ _ news (by rw [hik]; exact n1) hcells, run_firstCells_some W.drew _ _ _ _ _ news (by rw [hik]; exact n1) (by simpa using hcells), by rw [hik]; exact n1, ImAt.one n2⟩
      have hpos : 0 < (y0 :: ys).length := by simp
      have main : ∀ b, vs = .slice b 0 0 → (x, H') = (AV.ex H.blks.length 0 (k + 1) 0 (y0 :: ys).length, ({ H with blks := H.blks ++ [⟨0, k + 1, y0 :: ys⟩] } : Hp)) → OpOk C.P o a W (Post C G W x H') := by
        rintro b rfl hx
        injection hx with hx hH
        have hold : (Builtin.firstCells i2.size 0 (.slice b 0 0)).run C.P W.drew = .ok ([] : List Value).toArray W.drew := by
          cases b with
          | none => exact run_firstCells_none W.drew i2.size 0 0 0
          | some q => exact run_firstCells_some W.drew i2.size 0 q 0 0 [] (by simp) (fun j u hj => by simp at hj)
        have hr := run_append_far (ty := o.type) htu hi hiz hsi (b := b) (n := 0) (cap := 0) (olds := []) (by simp) hold (by omega) (by omega) (growslice_fits (by omega) (by rw [Nat.zero_add]; exact c5))
        obtain ⟨q, hq⟩ : ∃ q, (([] : List Value).toArray ++ news.toArray ++ Builtin.zeroCells zv.cells (grownCap W (0 + (y0 :: ys).length) 0 e - (0 + (y0 :: ys).length))) = q := ⟨_, rfl⟩
        rw [hq] at hr
        have hge := grownCap_ge W (0 + (y0 :: ys).length) 0 e
        have hqj : ∀ j v, news[j]? = some v → q[0 + j]? = some v := by
          intro j v hj
          rw [← hq]
          have hlt : j < news.length := (List.getElem?_eq_some_iff.1 hj).1
          simp only [Nat.zero_add]
          rw [Array.getElem?_append_left (by simp; omega), Array.getElem?_append_right (by simp)]
          simpa using hj
        have hqs : (y0 :: ys).length * (k + 1) ≤ q.size := by
          rw [← hq]
          simp only [Array.size_append, List.size_toArray, n1]
          omega
        obtain ⟨s1, s2⟩ := (Sim.drew C S).newBlk q e (k + 1) (y0 :: ys) (hE.rowIs n1 n2 hqj) hqs
        refine fin _ _ hr ?_
        rw [hx, hH]
        refine ⟨_, ⟨W.heap.size, 0, _, grownCap W (0 + (y0 :: ys).length) 0 e, newBlk_at, by omega, by simp, by omega, ?_, (fun _ => by rw [Nat.zero_add]; exact grownCap_le_maxLen W (0 + (y0 :: ys).length) 0 e (by simp only [maxLen]; omega)), no_cap exCap_zero⟩, s1, (Adv.drew G W).trans s2⟩
        have hqz : q.size = (y0 :: ys).length * (k + 1) + (grownCap W (0 + (y0 :: ys).length) 0 e - (0 + (y0 :: ys).length)) * (k + 1) := by
          rw [← hq, Array.size_append, Array.size_append, List.size_toArray, List.size_toArray, List.length_nil, n1, size_zeroCells, hzs, hik]
          simp only [Nat.succ_eq_add_one, Nat.zero_add]
        rw [hqz, ← Nat.add_mul]
        simp only [Nat.zero_add] at hge ⊢
        exact Nat.mul_le_mul_right _ (by omega)
      split at h
      · rename_i hs0
        exact main none rs.1 (by injection h with h; exact h.symm)
      · rename_i f
        obtain ⟨_, a', hvs, _⟩ := rs
        exact main a' hvs (by injection h with h; exact h.symm)
      · rename_i b g es n
        split at h
        · rename_i bl hbl
          split at h
          · rename_i hc
            obtain ⟨rfl, d2, d3, d4⟩ := hc
            injection h with h
            injection h with hx hH
            subst hx; subst hH
            obtain ⟨i3, hi3, c6, c7⟩ := roomOk_of T d4
            have ei3 : i3 = i2 := by rw [hi] at hi3; injection hi3 with h; exact h.symm
            subst ei3
            obtain ⟨v', W', hr, hp⟩ := grow_row S hbl d2 d3 htu hi hiz hzs hik hsi (hE.rowIs (cells := news.toArray) (q := 0) n1 n2 (by simp)) n1 (ImAt.one n2) hpos rs (fun c hc => growslice_fits hc c7) (by omega)
            exact fin _ _ hr hp
          · split at h
            · rename_i hc
              obtain ⟨rfl, d2, d3, d4⟩ := hc
              injection h with h
              injection h with hx hH
              subst hx; subst hH
              obtain ⟨i3, hi3, c6, c7⟩ := roomOk_of T d4
              have ei3 : i3 = i2 := by rw [hi] at hi3; injection hi3 with h; exact h.symm
              subst ei3
              obtain ⟨S', hbl'⟩ := S.trunc hbl n
              obtain ⟨v', W', hr, hp⟩ := grow_row S' hbl' d2 (show (bl.xs.take n).length = n by rw [List.length_take]; omega) htu hi hiz hzs hik hsi (hE.rowIs (cells := news.toArray) (q := 0) n1 n2 (by simp)) n1 (ImAt.one n2) hpos rs (fun c hc => growslice_fits hc c7) (by omega)
              refine fin _ _ hr ?_
              simp only [List.set_set] at hp
              exact hp
            · cases h
        · cases h
      · cases h
    · cases h
  · cases h
omit T in
theorem seg_getA (cells vs : List AV) (p : Nat) (h : p + vs.length ≤ cells.length) (n : Nat) : (cells.take p ++ vs ++ cells.drop (p + vs.length))[n]? = if p ≤ n ∧ n < p + vs.length then vs[n - p]? else cells[n]? := by
  by_cases d1 : n < p
  · rw [List.append_assoc, List.getElem?_append_left (by rw [List.length_take]; omega), List.getElem?_take, if_pos d1, if_neg (by omega)]
  · by_cases d2 : n < p + vs.length
    · rw [List.append_assoc, List.getElem?_append_right (by rw [List.length_take]; omega), List.getElem?_append_left (by rw [List.length_take]; omega), List.length_take, if_pos (by omega)]
      congr 1
      omega
    · rw [List.getElem?_append_right (by rw [List.length_append, List.length_take]; omega), List.getElem?_drop, List.length_append, List.length_take, if_neg (by omega)]
      congr 1
      omega
/-- What a row of cells says of elements, each so many cells. -/
def SegIs (G : Gh) (vs : List Value) (es : Nat) (zs : List AV) : Prop :=
  ∀ i x, zs[i]? = some x → ∃ z, VRel G x z ∧ z.cells.size = es ∧ ∀ j v, z.cells[j]? = some v → vs[i * es + j]? = some v ∧ v.oneCell' = true
omit T in
/-- Some elements of a block turn. -/
theorem Sim.setSeg (S : Sim C G H W) {b : Nat} {k : Blk} (hk1 : H.blks[b]? = some k) {B w sz es : Nat} (hb : G.g.blk b k.gen = some (B, w, sz, es)) {off : Nat} {zs : List AV} {vs : List Value} (hle : off + zs.length ≤ k.xs.length) (hvl : vs.length = zs.length * es) (h0 : 0 < es) (hseg : SegIs G.g vs es zs) {P : Program} :
    ∃ W', (storeCells ⟨B, w + off * es, none⟩ vs 0).run P W = .ok () W' ∧ Sim C G { H with blks := H.blks.set b { k with xs := k.xs.take off ++ zs ++ k.xs.drop (off + zs.length) } } W' ∧ Adv G W G W' := by
  obtain ⟨B', q', cells, tid, k1, k2, k3, k4, k5, k6⟩ := S.blk b k hk1
  rw [hb] at k1
  injection k1 with k1
  injection k1 with e1 k1
  injection k1 with e2 k1
  injection k1 with e3 e4
  subst e1; subst e2; subst e3; subst e4
  have hbound : w + off * k.es + vs.length ≤ cells.size := by
    have : (off + zs.length) * k.es ≤ k.xs.length * k.es := Nat.mul_le_mul_right _ hle
    rw [Nat.add_mul] at this
    omega
  have hone : ∀ v ∈ vs, v.oneCell' = true := by
    intro v hv
    obtain ⟨n, hn⟩ := List.getElem?_of_mem hv
    have hnl := (List.getElem?_eq_some_iff.1 hn).1
    have hi : n / k.es < zs.length := (Nat.div_lt_iff_lt_mul h0).2 (by omega)
    obtain ⟨z, _, hz, hzc⟩ := hseg (n / k.es) zs[n / k.es] (List.getElem?_eq_getElem hi)
    have hj : n % k.es < z.cells.size := by rw [hz]; exact Nat.mod_lt _ h0
    obtain ⟨h1, h2⟩ := hzc (n % k.es) z.cells[n % k.es] (Array.getElem?_eq_getElem hj)
    rw [Nat.div_add_mod' n k.es, hn] at h1
    injection h1 with h1
    rw [h1]
    exact h2
  have hst := run_storeCells_fr (P := P) B (w + off * k.es) tid.1 tid.2 vs 0 cells W k2.1 k2.2.1.ok (by omega) hone
  simp only [Nat.add_zero] at hst
  refine ⟨_, hst, ?_⟩
  have hcl : w + off * k.es + vs.length ≤ cells.toList.length := by simpa using hbound
  refine S.setBlk hk1 hb k2.1 k2.2 k3 (cells' := (cells.toList.take (w + off * k.es) ++ vs ++ cells.toList.drop (w + off * k.es + vs.length)).toArray) (by
    simp only [List.size_toArray, List.length_append, List.length_take, List.length_drop, Array.length_toList] at *
    omega) (xs := k.xs.take off ++ zs ++ k.xs.drop (off + zs.length)) (by
    have : (k.xs.take off ++ zs ++ k.xs.drop (off + zs.length)).length = k.xs.length := by
      simp only [List.length_append, List.length_take, List.length_drop]
      omega
    rw [this]
    exact k5) (by
    intro i1 x1 hx1
    rw [seg_getA _ _ _ hle] at hx1
    by_cases hin : off ≤ i1 ∧ i1 < off + zs.length
    · rw [if_pos hin] at hx1
      obtain ⟨z, r, hz, hzc⟩ := hseg _ _ hx1
      refine ⟨z, r, hz, fun n v hn => ?_⟩
      obtain ⟨d1, d2⟩ := hzc n v hn
      refine ⟨?_, d2⟩
      have hnlt : n < k.es := by have := (Array.getElem?_eq_some_iff.1 hn).1; omega
      have e1 : i1 * k.es = off * k.es + (i1 - off) * k.es := by rw [← Nat.add_mul]; congr 1; omega
      have e2 : (i1 - off + 1) * k.es ≤ zs.length * k.es := Nat.mul_le_mul_right _ (by omega)
      rw [Nat.succ_mul] at e2
      rw [List.getElem?_toArray, seg_get _ _ _ hcl, if_pos (by omega), ← d1]
      congr 1
      omega
    · rw [if_neg hin] at hx1
      obtain ⟨z1, r1, hz1s, hz1⟩ := k6 i1 x1 hx1
      refine ⟨z1, r1, hz1s, fun n v hn => ⟨?_, (hz1 n v hn).2⟩⟩
      have hnlt : n < k.es := by have := (Array.getElem?_eq_some_iff.1 hn).1; omega
      rw [List.getElem?_toArray, seg_get _ _ _ hcl, if_neg]
      · rw [Array.getElem?_toList]; exact (hz1 n v hn).1
      · rintro ⟨d1, d2⟩
        rcases Nat.lt_or_ge i1 off with hlt | hge
        · have : (i1 + 1) * k.es ≤ off * k.es := Nat.mul_le_mul_right _ hlt
          rw [Nat.succ_mul] at this
          omega
        · have : (off + zs.length) * k.es ≤ i1 * k.es := Nat.mul_le_mul_right _ (by omega)
          rw [Nat.add_mul] at this
          omega)
/-- Elements that are cleared. -/
theorem op_clear {c : Call} (ho : o.op = .call c) (hc : c.callee = .builtin .clear) (S : Sim C G H W) (E : ERel G.g env a.tmps) {args : List AV} (h1 : avals C env c.args.toList = some args) {H' : Hp} (h : clearA C c.argTypes args H = some (x, H')) : OpOk C.P o a W (Post C G W x H') := by
  have r := S.avals E h1
  have fin : ∀ vs v t, c.args.toList.map a.eval = vs → vs = [v] → c.argTypes[0]? = some t → ∀ W', (Builtin.clear_ c.argTypes o.type #[v]).run C.P W = .ok (.tuple #[]) W' → Post C G W x H' (.tuple #[]) W' → OpOk C.P o a W (Post C G W x H') := by
    rintro vs v t hargs rfl ht W' hr hp
    have hargs' : c.args.map a.eval = #[v] := by apply Array.ext'; simpa using hargs
    refine OpOk.value (y := .tuple #[]) (W' := W') ?_ hp
    simp only [execOp, ho, resolve, hc, hargs', Sem.run_bind, Sem.run_pure, Result.andThen_ok, invoke, builtin, hr]
  unfold clearA at h
  split at h
  · rename_i y t hy
    obtain ⟨v, l, hargs, rs, e3⟩ := r
    obtain rfl : l = [] := e3
    split at h
    · rename_i b g es off len e hel
      have htu := elemT_und T hel
      obtain ⟨B, w, sz, cc, hb, h0, rfl, hlc, _⟩ := rs
      split at h
      · rename_i k z n hk hz hn
        split at h
        · rename_i hcond
          obtain ⟨c1, c2, c3, c4⟩ := hcond
          injection h with h
          injection h with hx hH
          subst hx; subst hH
          obtain ⟨hk1, rfl⟩ := blkAt_val hk
          obtain ⟨zv, hzv, rz, _⟩ := zeroA_rel hz
          have hzl := VRels.length (rz G.g).cells
          have hzs : zv.cells.size = es := by simp at hzl; omega
          have hrow := replicate_rel (rz G.g) c4 len
          have hseg : SegIs G.g (List.replicate len zv.cells.toList).flatten es (List.replicate len z) := by
            intro i x hx
            obtain ⟨z', r', hz', hz''⟩ := hrow i x hx
            refine ⟨z', r', by rw [hz', c3], fun j v hj => ?_⟩
            obtain ⟨g1, g2⟩ := hz'' j v hj
            refine ⟨?_, g2⟩
            rw [List.getElem?_toArray, Nat.zero_add, c3] at g1
            exact g1
          obtain ⟨W', hst, s1, s2⟩ := S.setSeg hk1 hb (off := off) (zs := List.replicate len z) (by simpa using c1) (by simp [List.length_flatten, hzs]) h0 hseg (P := C.P)
          simp only [List.length_replicate] at s1
          refine fin _ _ t hargs rfl hy W' ?_ ⟨G, ⟨#[], rfl, rfl⟩, s1, s2⟩
          cases len with
          | zero =>
            simp only [List.replicate_zero, List.flatten_nil, storeCells, Sem.run_pure, Result.ok.injEq, true_and] at hst
            subst hst
            simp [Builtin.clear_, hy, run_underlying htu]
          | succ len =>
            have hz' := zeros_array zv.cells (len + 1) (by omega)
            have hzc : (Builtin.zeroCells zv.cells (len + 1)).toList = (List.replicate (len + 1) zv.cells.toList).flatten := by
              unfold Builtin.zeroCells
              rw [hz']
            simp only [Builtin.clear_, hy, List.getElem?_toArray, List.getElem?_cons_zero, Sem.run_bind, run_underlying htu, Result.andThen_ok, run_zeroA T hzv, Sem.run_pure]
            rw [hzc, hst]
            rfl
        · cases h
      · cases h
    · rename_i e hel
      have htu := elemT_und T hel
      injection h with h
      injection h with hx hH
      subst hx; subst hH
      obtain ⟨_, a', c', rfl, _⟩ := rs
      refine fin _ _ t hargs rfl hy W ?_ (Post.here S ⟨#[], rfl, rfl⟩)
      cases a' <;> simp [Builtin.clear_, hy, run_underlying htu]
    · cases h
  · cases h
end
end Go.AM

namespace Go.AM
section
variable {C : Cfg} {G : Gs} {H : Hp} {W : World} {o : Oper} {a : Act} {env : Env} {x : AV}

/-! ### Maps of texts -/
def Gs.newMap (G : Gs) (m R : Nat) : Gs :=
  { g := { G.g with mp := fun m1 => if m1 = m then some R else G.g.mp m1 }
    own := fun B1 => if B1 = R then some (.mp m) else G.own B1 }
theorem Sim.newMap (S : Sim C G H W) : Sim C (G.newMap H.mps.length W.heap.size) { H with mps := H.mps ++ [[]] } (W.alloc (.map #[] 0)) ∧ Adv G W (G.newMap H.mps.length W.heap.size) (W.alloc (.map #[] 0)) := by
  have him : ∀ b o v, G.g.im b o = some v → b < W.heap.size := fun b o v x => World.block_lt_of_cell? W _ (S.im b o v x)
  have hgle : Gle G.g (G.newMap H.mps.length W.heap.size).g := ⟨rfl, fun _ _ _ x => x, fun _ x => x, fun _ _ _ x => x, fun _ _ _ x => x, fun m R x => by
    simp only [Gs.newMap]
    rw [if_neg]
    · exact x
    · rintro rfl
      rw [S.mpN _ (Nat.le_refl _)] at x
      cases x⟩
  have hown : ∀ B, B < W.heap.size → (G.newMap H.mps.length W.heap.size).own B = G.own B := fun B hB => by
    simp only [Gs.newMap]
    rw [if_neg (by omega)]
  refine ⟨⟨?_, ?_, ?_, ?_, ?_, S.tokN, ?_, S.blkN, ?_, ?_, ?_⟩, ⟨hgle, rfl, rfl, rfl, by simp, fun B hB _ _ => heap_alloc_old W _ B hB, fun B hB ho => (hown B hB).trans ho, fun _ _ x => x, fun _ _ _ _ _ x => x⟩⟩
  · have := S.base; simp [Gs.newMap]; omega
  · intro b o v x
    rw [World.cell?_alloc_lt W (h := him b o v x)]
    exact S.im b o v x
  · intro b x
    obtain ⟨h1, h2, h3⟩ := S.lit b x
    exact ⟨h1, by simp; omega, (hown b h2).trans h3⟩
  · intro b w x
    simp only [Gs.newMap] at x
    split at x
    · rename_i e; subst e; exact ⟨S.base, by simp⟩
    · obtain ⟨h1, h2⟩ := S.own b w x; exact ⟨h1, by simp; omega⟩
  · intro t e tid' x hs
    obtain ⟨y, size, vs, h1, h2, h0, h3, h4⟩ := S.tok t e tid' x hs
    exact ⟨y, size, vs, h1, h2, h0, h3.alloc _, fun B hB => ⟨(hown B (h3.lt B hB).2).trans (h4 B hB).1, (h4 B hB).2⟩⟩
  · intro b k x
    obtain ⟨B, o, cells, tid', h1, h2, h3, h4, h5, h6⟩ := S.blk b k x
    have hB := (Array.getElem?_eq_some_iff.1 h2.1).1
    refine ⟨B, o, cells, tid', h1, ⟨(heap_alloc_old W _ B hB).trans h2.1, h2.2⟩, (hown B hB).trans h3, h4, h5, fun i x hx => ?_⟩
    obtain ⟨z, r, hz⟩ := h6 i x hx
    exact ⟨z, r.mono hgle, hz⟩
  · intro g x hx
    obtain ⟨z, hz, hi⟩ := S.gl g x hx
    exact ⟨z, hz, hi.mono hgle⟩
  · intro m es x
    rcases Nat.lt_or_ge m H.mps.length with hm | hm
    · rw [show ({ H with mps := H.mps ++ [[]] } : Hp).mps = H.mps ++ [[]] from rfl, List.getElem?_append_left hm] at x
      exact (S.mp m es x).move hgle (fun R _ hR => heap_alloc_old W _ R hR) (fun R ho hR => (hown R hR).trans ho)
    · rw [show ({ H with mps := H.mps ++ [[]] } : Hp).mps = H.mps ++ [[]] from rfl, List.getElem?_append_right hm] at x
      have hml : m - H.mps.length = 0 := by
        have := (List.getElem?_eq_some_iff.1 x).1
        simp at this
        omega
      rw [hml] at x
      injection x with x
      subst x
      have hme : m = H.mps.length := by omega
      subst hme
      refine ⟨W.heap.size, #[], 0, by simp [Gs.newMap], (Go.MapKept.heap_alloc W _).1, by simp [Gs.newMap], rfl⟩
  · intro m h
    have h' : H.mps.length + 1 ≤ m := by simpa using h
    simp only [Gs.newMap]
    rw [if_neg (by omega)]
    exact S.mpN m (by omega)
/-- A map's entries turn. -/
theorem Sim.setMap (S : Sim C G H W) {m : Nat} (hm : m < H.mps.length) {es' : List (ByteArray × AV)} {R : Nat} {en en' : Array MapEntry} {cl cl' : Nat} (h1 : G.g.mp m = some R) (h2 : W.heap[R]? = some (.map en cl)) (h3 : G.own R = some (.mp m)) (hr : MRel G.g es' en'.toList) :
    Sim C G { H with mps := H.mps.set m es' } { W with heap := W.heap.setIfInBounds R (.map en' cl') } ∧ Adv G W G { W with heap := W.heap.setIfInBounds R (.map en' cl') } := by
  obtain ⟨hs1, hs2⟩ := Go.MapKept.heap_set (o' := .map en' cl') h2
  have hsz : (W.heap.setIfInBounds R (.map en' cl')).size = W.heap.size := by simp
  have hcell : ∀ b o v, G.g.im b o = some v → b ≠ R := by
    rintro b o v x rfl
    have := S.im b o v x
    simp [World.cell?, h2] at this
  refine ⟨⟨?_, ?_, ?_, ?_, ?_, S.tokN, ?_, S.blkN, S.gl, ?_, ?_⟩, ⟨Gle.refl _, rfl, rfl, rfl, by simp, ?_, fun _ _ x => x, fun _ _ x => x, fun _ _ _ _ _ x => x⟩⟩
  · simpa using S.base
  · intro b o v x
    have := S.im b o v x
    unfold World.cell? at this ⊢
    rw [show ({ W with heap := W.heap.setIfInBounds R (.map en' cl') } : World).heap = W.heap.setIfInBounds R (.map en' cl') from rfl, hs2 b (hcell b o v x)]
    exact this
  · intro b x
    simpa using S.lit b x
  · intro b w x
    simpa using S.own b w x
  · intro t e tid' x hs
    obtain ⟨y, size, vs, k1, k2, k0, k3, k4⟩ := S.tok t e tid' x hs
    refine ⟨y, size, vs, k1, k2, k0, ownsRow_of_heap k3 fun B hB => hs2 B ?_, k4⟩
    rintro rfl
    rw [(k4 _ hB).1] at h3
    cases h3
  · intro b k x
    obtain ⟨B, o, cells, tid, k1, k2, k3, k4⟩ := S.blk b k x
    refine ⟨B, o, cells, tid, k1, ⟨(hs2 B ?_).trans k2.1, k2.2⟩, k3, k4⟩
    rintro rfl
    rw [k3] at h3
    cases h3
  · intro m' es x
    by_cases hmm : m' = m
    · subst hmm
      rw [show ({ H with mps := H.mps.set m' es' } : Hp).mps = H.mps.set m' es' from rfl, List.getElem?_set_self hm] at x
      injection x with x
      subst x
      exact ⟨R, en', cl', h1, hs1, h3, hr⟩
    · rw [show ({ H with mps := H.mps.set m es' } : Hp).mps = H.mps.set m es' from rfl, List.getElem?_set_ne (fun e => hmm e.symm)] at x
      refine (S.mp m' es x).move (Gle.refl _) (fun R' ho _ => hs2 R' ?_) (fun _ x _ => x)
      rintro rfl
      rw [h3] at ho
      injection ho with ho
      injection ho with ho
      exact hmm ho.symm
  · intro m' h
    exact S.mpN m' (by simpa using h)
  · intro B hB ho _
    refine hs2 B ?_
    rintro rfl
    rw [h3] at ho
    cases ho
/-- What a map has, found. -/
theorem find_look {G : Gh} (b : ByteArray) : ∀ (es : List (ByteArray × AV)) (l : List MapEntry) (i : Nat), MRel G es l → match lookM b es with
    | none => Instr.findNow .string (.string b) l i = some none
    | some y => ∃ j w e, Instr.findNow .string (.string b) l i = some (some (i + j, w)) ∧ VRel G y w ∧ l[j]? = some e ∧ e.key = .string b
  | [], l, i, h => by
    have h : l = [] := h
    subst h
    rfl
  | p :: ps, l, i, ⟨e, r, h1, h2, h3, h4⟩ => by
    subst h1
    have ih := find_look b ps r (i + 1) h4
    unfold lookM
    have hn : Instr.findNow .string (.string b) (e :: r) i = if (b == p.1) = true then some (some (i, e.val)) else Instr.findNow .string (.string b) r (i + 1) := by
      rw [Instr.findNow]
      simp only [h2, Instr.sameNow]
      cases hb : (b == p.1) <;> rfl
    cases hb : (b == p.1) with
    | true =>
      rw [if_pos rfl]
      refine ⟨0, e.val, e, ?_, h3, rfl, ?_⟩
      · rw [hn, hb]; rfl
      · rw [h2, (Go.MapKept.bytes_beq _ _).1 hb]
    | false =>
      rw [if_neg (by simp)]
      rw [hn, hb, if_neg (by simp)]
      cases hl : lookM b ps with
      | none => rw [hl] at ih; exact ih
      | some y =>
        rw [hl] at ih
        obtain ⟨j, w, e', e1, e2, e3, e4⟩ := ih
        exact ⟨j + 1, w, e', by rw [e1]; congr 3; omega, e2, e3, e4⟩
/-- .. and put. -/
theorem put_rel {G : Gh} {b : ByteArray} {y : AV} {v : Value} (hv : VRel G y v) : ∀ (es : List (ByteArray × AV)) (l : List MapEntry) (i : Nat), MRel G es l → match lookM b es with
    | none => ∀ born, MRel G (putM b y es) (l ++ [⟨.string b, v, born⟩])
    | some _ => ∀ j w, Instr.findNow .string (.string b) l i = some (some (i + j, w)) → MRel G (putM b y es) (l.modify j fun e => { e with key := .string b, val := v })
  | [], l, i, h => by
    have h : l = [] := h
    subst h
    intro born
    exact ⟨_, [], rfl, rfl, hv, rfl⟩
  | p :: ps, l, i, ⟨e, r, h1, h2, h3, h4⟩ => by
    subst h1
    have ih := put_rel (b := b) hv ps r (i + 1) h4
    unfold lookM
    have hn : Instr.findNow .string (.string b) (e :: r) i = if (b == p.1) = true then some (some (i, e.val)) else Instr.findNow .string (.string b) r (i + 1) := by
      rw [Instr.findNow]
      simp only [h2, Instr.sameNow]
      cases hb : (b == p.1) <;> rfl
    cases hb : (b == p.1) with
    | true =>
      rw [if_pos rfl]
      intro j w hj
      rw [hn, hb, if_pos rfl] at hj
      injection hj with hj
      injection hj with hj
      injection hj with hj _
      have hj0 : j = 0 := by omega
      subst hj0
      have hp : putM b y (p :: ps) = (b, y) :: ps := by rw [putM, hb]; rfl
      rw [hp]
      exact ⟨_, r, rfl, rfl, hv, h4⟩
    | false =>
      rw [if_neg (by simp)]
      have hp : putM b y (p :: ps) = p :: putM b y ps := by rw [putM, hb]; rfl
      rw [hp]
      cases hl : lookM b ps with
      | none =>
        rw [hl] at ih
        intro born
        exact ⟨e, _, rfl, h2, h3, ih born⟩
      | some z =>
        rw [hl] at ih
        intro j w hj
        rw [hn, hb, if_neg (by simp)] at hj
        have fl := find_look b ps r (i + 1) h4
        rw [hl] at fl
        obtain ⟨j', w', e', f1, _⟩ := fl
        have hjj : j = j' + 1 := by
          rw [f1] at hj
          injection hj with hj
          injection hj with hj
          injection hj with hj _
          omega
        subst hjj
        exact ⟨e, _, rfl, h2, h3, ih j' w' f1⟩
variable (T : C.Tables)
omit T in
theorem op_makeMap {t : TypeId} (ho : o.op = .makeMap t none) (S : Sim C G H W) : OpOk C.P o a W (Post C G W (.mp H.mps.length) { H with mps := H.mps ++ [[]] }) := by
  obtain ⟨s1, s2⟩ := S.newMap
  refine OpOk.value (y := .map (some W.heap.size)) (W' := W.alloc (.map #[] 0)) ?_ ⟨_, ⟨W.heap.size, by simp [Gs.newMap], rfl⟩, s1, s2⟩
  simp only [execOp, ho]
  refine runV ?_
  simp [Instr.makeMap]
include T in
theorem op_lookup {t : TypeId} {p q : Operand} {c : Bool} (ho : o.op = .lookup t p q c) (S : Sim C G H W) (E : ERel G.g env a.tmps) {m k : AV} (h1 : aval C env p = some m) (h2 : aval C env q = some k) (h : lookA C t m k c H = some x) : OpOk C.P o a W (Post C G W x H) := by
  have r1 := S.aval E h1
  have r2 := S.aval E h2
  unfold lookA at h
  split at h
  · rename_i m b kt et hu
    split at h
    · rename_i es hk he
      obtain ⟨R, hR, hm⟩ := r1
      have hb : a.eval q = .string b := r2.1
      obtain ⟨R', en, cl, k1, k2, k3, k4⟩ := S.mp m es he
      rw [hR] at k1
      injection k1 with k1
      subst k1
      have hut := T.und _ _ hu
      have hkt := T.und _ _ hk
      have hik : Go.MapKept.IsKey .string (.string b) := trivial
      have fl := find_look b es en.toList 0 k4
      cases hl : lookM b es with
      | some y =>
        rw [hl] at fl h
        obtain ⟨j, w, e, f1, f2, _, _⟩ := fl
        injection h with h
        refine OpOk.value (y := if c then .tuple #[w, .bool true] else w) (W' := W) ?_ (Post.here S ?_)
        · simp only [execOp, ho]
          refine runV ?_
          cases c <;> simp [Instr.lookup, run_underlying hut, hm, hb, Go.MapKept.run_getObj_map k2, Go.MapKept.run_checkKey hkt hik, Go.MapKept.run_findKey hkt f1, Result.andThen]
        · subst h
          cases c
          · exact f2
          · exact ⟨_, rfl, _, _, rfl, f2, _, _, rfl, ⟨rfl, rfl⟩, rfl⟩
      | none =>
        rw [hl] at fl h
        simp only [Option.map_eq_some_iff] at h
        obtain ⟨z, hz, h⟩ := h
        obtain ⟨y, hy, r, _⟩ := zeroA_rel hz
        refine OpOk.value (y := if c then .tuple #[y, .bool false] else y) (W' := W) ?_ (Post.here S ?_)
        · simp only [execOp, ho]
          refine runV ?_
          cases c <;> simp [Instr.lookup, run_underlying hut, hm, hb, Go.MapKept.run_getObj_map k2, Go.MapKept.run_checkKey hkt hik, Go.MapKept.run_findKey hkt fl, Result.andThen, run_zeroA T hy]
        · subst h
          cases c
          · exact r G.g
          · exact ⟨_, rfl, _, _, rfl, r G.g, _, _, rfl, ⟨rfl, rfl⟩, rfl⟩
    · cases h
  · cases h
include T in
theorem op_mapUpdate {t : TypeId} {p q s : Operand} (ho : o.op = .mapUpdate t p q s) (S : Sim C G H W) (E : ERel G.g env a.tmps) {m k y : AV} (h1 : aval C env p = some m) (h2 : aval C env q = some k) (h3 : aval C env s = some y) {H' : Hp} (h : mapUpdA C t m k y H = some (x, H')) : OpOk C.P o a W (Post C G W x H') := by
  have r1 := S.aval E h1
  have r2 := S.aval E h2
  have r3 := S.aval E h3
  unfold mapUpdA at h
  split at h
  · rename_i m b kt et hu
    split at h
    · rename_i es hk he
      injection h with h
      injection h with hx hH
      subst hx; subst hH
      obtain ⟨R, hR, hm⟩ := r1
      have hb : a.eval q = .string b := r2.1
      have hml := (List.getElem?_eq_some_iff.1 he).1
      obtain ⟨R', en, cl, k1, k2, k3, k4⟩ := S.mp m es he
      have hR' := k1
      rw [hR] at k1
      injection k1 with k1
      subst k1
      have hut := T.und _ _ hu
      have hkt := T.und _ _ hk
      have hik : Go.MapKept.IsKey .string (.string b) := trivial
      have fl := find_look b es en.toList 0 k4
      have pl := put_rel r3 (b := b) es en.toList 0 k4
      cases hl : lookM b es with
      | some z =>
        rw [hl] at fl pl
        obtain ⟨j, w, e, f1, _, f3, f4⟩ := fl
        have hj : en[j]? = some e := by simpa using f3
        have pr := pl j w f1
        rw [Nat.zero_add] at f1
        obtain ⟨s1, s2⟩ := S.setMap hml (es' := putM b y es) (en' := en.modify j fun e => { e with key := .string b, val := a.eval s }) (cl' := cl) hR k2 k3 (by simpa using pr)
        refine OpOk.skip ?_ ⟨G, ⟨rfl, rfl⟩, s1, s2⟩
        simp only [execOp, ho]
        simp [Instr.mapUpdate, run_underlying hut, hm, hb, Go.MapKept.run_getObj_map k2, Go.MapKept.run_checkKey hkt hik, Go.MapKept.run_findKey hkt f1, hj, f4, Go.MapKept.run_keyThatStays hik, Go.MapKept.run_setObj_map _ k2, Result.andThen]
      | none =>
        rw [hl] at fl pl
        have pr := pl cl
        obtain ⟨s1, s2⟩ := S.setMap hml (es' := putM b y es) (en' := en.push ⟨.string b, a.eval s, cl⟩) (cl' := cl + 1) hR k2 k3 (by simpa using pr)
        refine OpOk.skip ?_ ⟨G, ⟨rfl, rfl⟩, s1, s2⟩
        simp only [execOp, ho]
        simp [Instr.mapUpdate, run_underlying hut, hm, hb, Go.MapKept.run_getObj_map k2, Go.MapKept.run_checkKey hkt hik, Go.MapKept.run_findKey hkt fl, Go.MapKept.run_setObj_map _ k2, Result.andThen]
    · cases h
  · cases h
end
end Go.AM

namespace Go.AM
section
variable {C : Cfg} {G : Gs} {H : Hp} {W : World} {o : Oper} {a : Act} {env : Env} {x : AV}

/-! ### Methods behind interface values -/
/-- .. as it is computed. -/
def methChk (P : Program) (t : TypeId) (name : String) (f : FuncId) (v : Option TypeId) : Bool := match P.info? t, P.underlying t with
  | some i, some (.pointer e) => (match i.methods.find? (·.name == name) with
    | some m => m.path.isEmpty && (m.func == some (f, v.isNone)) && (match v with | some e' => e' == e | none => true)
    | none => false)
  | _, _ => false
theorem methChk_ok {P : Program} {t : TypeId} {name : String} {f : FuncId} {v : Option TypeId} (h : methChk P t name f v = true) : MethOk P t name f v := by
  unfold methChk at h
  split at h
  · rename_i i e h1 h2
    split at h
    · rename_i m h3
      simp only [Bool.and_eq_true, beq_iff_eq] at h
      obtain ⟨⟨h4, h5⟩, h6⟩ := h
      refine ⟨i, m, e, h1, h3, by simpa using h4, h2, h5, fun e' he => ?_⟩
      subst he
      simpa using h6
    · cases h
  · cases h
theorem run_method_ptr {P : Program} {t : TypeId} {name : String} {f : FuncId} (h : MethOk P t name f none) (n : Nat) (x : Value) : (method (n + 1) t x name).run P W = .ok (f, x) W := by
  obtain ⟨i, m, e, h1, h2, h3, h4, h5, _⟩ := h
  have hi : (typeInfo t).run P W = .ok i W := by simp [typeInfo, h1]
  simp [method, hi, h2, h3, follow, h5, receiverAt, run_underlying h4, Place.get, Result.andThen]
theorem wrap_nil {ts : Array TypeId} {ty : TypeId} {q : Addr} {s n : String} : Builtin.ssaWrapNilChk_ ts ty #[.pointer (some q), strVal s, strVal n] = pure (.pointer (some q)) := rfl
theorem run_method_val {P : Program} {t : TypeId} {name : String} {f : FuncId} {e : TypeId} (h : MethOk P t name f (some e)) (n : Nat) {q : Addr} {y : Value} (hl : (loadVar e q).run P W = .ok y W) : (method (n + 1) t (.pointer (some q)) name).run P W = .ok (f, y) W := by
  obtain ⟨i, m, e', h1, h2, h3, h4, h5, h6⟩ := h
  obtain rfl := h6 e rfl
  have hi : (typeInfo t).run P W = .ok i W := by simp [typeInfo, h1]
  have hq : m.path = #[] := Array.toList_eq_nil_iff.1 h3
  simp [method, hi, h2, hq, follow, h5, receiverAt, run_underlying h4, Place.get, wrap_nil, asAddr, hl, Result.andThen]
theorem fuel_pos (n : Nat) : ∃ k, n + Made.depth = k + 1 := ⟨n + Made.depth - 1, by have : 0 < Made.depth := by decide
                                                                                    omega⟩
theorem exec_invoke {c : Call} {r : Operand} {name : String} (ho : o.op = .call c) (hc : c.callee = .invoke r name) {t : TypeId} {v : Value} (hv : a.eval r = .iface t v) {f : FuncId} {y : Value} (hm : ∀ n, (method (n + 1) t v name).run C.P W = .ok (f, y) W) {fn : Func} (hf : C.P.funcs[f]? = some fn) (hn : (fn.name == "runtime.NumGoroutine") = false) (hb : fn.body.isSome = true) :
    (execOp a.eval o).run C.P W = .ok (.enter f (#[y] ++ c.args.map a.eval)) W := by
  obtain ⟨k, hk⟩ := fuel_pos C.P.types.size
  have he : (#[Value.iface t v] ++ c.args.map a.eval).extract 1 (#[Value.iface t v] ++ c.args.map a.eval).size = c.args.map a.eval := by
    apply Array.ext'
    simp [List.take_of_length_le]
  have h0 : (#[Value.iface t v] ++ c.args.map a.eval)[0]? = some (Value.iface t v) := by
    rw [Array.getElem?_append_left (by simp)]
    rfl
  simp only [execOp, ho, resolve, hc, hv, Sem.run_bind, Sem.run_pure, Result.andThen_ok, invoke, h0, he, callMethod, run_program, hk, hm k]
  exact run_callFunc hf hn hb (W := W) (#[y] ++ c.args.map a.eval)
theorem op_invoke (T : C.Tables) {c : Call} {r : Operand} {name : String} (ho : o.op = .call c) (hc : c.callee = .invoke r name) (S : Sim C G H W) (E : ERel G.g env a.tmps) {args : List AV} (h1 : avals C env c.args.toList = some args) {t : TypeId} {u : AV} (hv : aval C env r = some (.iface t u)) {f : FuncId} {v : Option TypeId} (hm : MethOk C.P t name f v) {y : AV}
    (hy : (v = none ∧ y = u) ∨ ∃ e b g i j k z, v = some e ∧ u = .ptr b g i j ∧ blkAt H b g = some k ∧ k.xs[i]? = some z ∧ partA C e z.cells j = some y) {H' : Hp}
    {fn : Func} (hf : C.P.funcs[f]? = some fn) (hn : (fn.name == "runtime.NumGoroutine") = false) (hb : fn.body.isSome = true)
    (hcall : ∀ vs : List Value, VRels G.g (y :: args) vs → Calls C.P f vs.toArray W fun e W' => ∃ y, e = .returned y ∧ Post C G W x H' y W') : OpOk C.P o a W (Post C G W x H') := by
  obtain ⟨w, he, rw'⟩ := S.aval E hv
  have ra := S.avals E h1
  have fin : ∀ q : Value, VRel G.g y q → (∀ n, (method (n + 1) t w name).run C.P W = .ok (f, q) W) → OpOk C.P o a W (Post C G W x H') := by
    intro q hq hr
    refine OpOk.enter (exec_invoke ho hc he hr hf hn hb) ?_
    have := hcall (q :: (c.args.map a.eval).toList) ⟨q, _, rfl, hq, by simpa using ra⟩
    have e : (q :: (c.args.map a.eval).toList).toArray = #[q] ++ c.args.map a.eval := by
      apply Array.ext'
      simp
    rwa [e] at this
  rcases hy with ⟨rfl, rfl⟩ | ⟨e, b, g, i, j, k, z, rfl, rfl, hk, hz, hx⟩
  · exact fin w rw' fun n => run_method_ptr hm n w
  · obtain ⟨B, q, sz, es, hb', he'⟩ := rw'
    obtain ⟨hk1, rfl⟩ := blkAt_val hk
    obtain ⟨B', q', cells, tid, k1, k2, k3, k4, k5, k6⟩ := S.blk b k hk1
    rw [hb'] at k1
    injection k1 with k1
    injection k1 with e1 k1
    injection k1 with e2 k1
    injection k1 with e3 e4
    subst e1; subst e2; subst e4
    obtain ⟨w1, rw1, hws, hw⟩ := k6 i z hz
    obtain ⟨y', hy', ry⟩ := run_loadA T hx rw1.cells (W := W) (b := B) (o := q + i * k.es) (fun j v hj => by
      rw [cell_of_heap k2.1]
      exact (hw j v (by simpa using hj)).1)
    subst he'
    exact fin y' ry fun n => run_method_val hm n hy'
end
end Go.AM

namespace Go.AM
section
variable {C : Cfg} {G : Gs} {H : Hp} {W : World} {o : Oper} {a : Act} {env : Env} {x : AV}
theorem wrap_nat {m : Nat} (h : m ≤ 9223372036854775807) : IntKind.i64.wrap (m : Int) = (m : Int) := by
  simp only [IntKind.wrap, IntKind.bits, IntKind.signed]
  simp
  omega
theorem seg_getX {α : Type} (cells vs : List α) (p : Nat) (h : p ≤ cells.length) (n : Nat) : (cells.take p ++ vs ++ cells.drop (p + vs.length))[n]? = if p ≤ n ∧ n < p + vs.length then vs[n - p]? else cells[n]? := by
  by_cases d1 : n < p
  · rw [List.append_assoc, List.getElem?_append_left (by rw [List.length_take]; omega), List.getElem?_take, if_pos d1, if_neg (by omega)]
  · by_cases d2 : n < p + vs.length
    · rw [List.append_assoc, List.getElem?_append_right (by rw [List.length_take]; omega), List.getElem?_append_left (by rw [List.length_take]; omega), List.length_take, if_pos (by omega)]
      congr 1
      omega
    · rw [List.getElem?_append_right (by rw [List.length_append, List.length_take]; omega), List.getElem?_drop, List.length_append, List.length_take, if_neg (by omega)]
      congr 1
      omega
/-- Some elements of a block turn; there may be more of them than were known. -/
theorem Sim.setSegX (S : Sim C G H W) {b : Nat} {k : Blk} (hk1 : H.blks[b]? = some k) {B w sz es : Nat} (hb : G.g.blk b k.gen = some (B, w, sz, es)) {off : Nat} {zs : List AV} {vs : List Value} (hoff : off ≤ k.xs.length) (hfit : w + (off + zs.length) * es ≤ sz) (hvl : vs.length = zs.length * es) (h0 : 0 < es) (hseg : SegIs G.g vs es zs) {P : Program} :
    ∃ W', (storeCells ⟨B, w + off * es, none⟩ vs 0).run P W = .ok () W' ∧ Sim C G { H with blks := H.blks.set b { k with xs := k.xs.take off ++ zs ++ k.xs.drop (off + zs.length) } } W' ∧ Adv G W G W' := by
  obtain ⟨B', q', cells, tid, k1, k2, k3, k4, k5, k6⟩ := S.blk b k hk1
  rw [hb] at k1
  injection k1 with k1
  injection k1 with e1 k1
  injection k1 with e2 k1
  injection k1 with e3 e4
  subst e1; subst e2; subst e3; subst e4
  have hbound : w + off * k.es + vs.length ≤ cells.size := by
    rw [Nat.add_mul] at hfit
    omega
  have hone : ∀ v ∈ vs, v.oneCell' = true := by
    intro v hv
    obtain ⟨n, hn⟩ := List.getElem?_of_mem hv
    have hnl := (List.getElem?_eq_some_iff.1 hn).1
    have hi : n / k.es < zs.length := (Nat.div_lt_iff_lt_mul h0).2 (by omega)
    obtain ⟨z, _, hz, hzc⟩ := hseg (n / k.es) zs[n / k.es] (List.getElem?_eq_getElem hi)
    have hj : n % k.es < z.cells.size := by rw [hz]; exact Nat.mod_lt _ h0
    obtain ⟨h1, h2⟩ := hzc (n % k.es) z.cells[n % k.es] (Array.getElem?_eq_getElem hj)
    rw [Nat.div_add_mod' n k.es, hn] at h1
    injection h1 with h1
    rw [h1]
    exact h2
  have hst := run_storeCells_fr (P := P) B (w + off * k.es) tid.1 tid.2 vs 0 cells W k2.1 k2.2.1.ok (by omega) hone
  simp only [Nat.add_zero] at hst
  refine ⟨_, hst, ?_⟩
  have hcl : w + off * k.es + vs.length ≤ cells.toList.length := by simpa using hbound
  refine S.setBlk hk1 hb k2.1 k2.2 k3 (cells' := (cells.toList.take (w + off * k.es) ++ vs ++ cells.toList.drop (w + off * k.es + vs.length)).toArray) (by
    simp only [List.size_toArray, List.length_append, List.length_take, List.length_drop, Array.length_toList] at *
    omega) (xs := k.xs.take off ++ zs ++ k.xs.drop (off + zs.length)) (by
    by_cases hc : off + zs.length ≤ k.xs.length
    · have : (k.xs.take off ++ zs ++ k.xs.drop (off + zs.length)).length = k.xs.length := by
        simp only [List.length_append, List.length_take, List.length_drop]
        omega
      rw [this]
      exact k5
    · have : (k.xs.take off ++ zs ++ k.xs.drop (off + zs.length)).length = off + zs.length := by
        simp only [List.length_append, List.length_take, List.length_drop]
        omega
      rw [this]
      exact hfit) (by
    intro i1 x1 hx1
    rw [seg_getX _ _ _ hoff] at hx1
    by_cases hin : off ≤ i1 ∧ i1 < off + zs.length
    · rw [if_pos hin] at hx1
      obtain ⟨z, r, hz, hzc⟩ := hseg _ _ hx1
      refine ⟨z, r, hz, fun n v hn => ?_⟩
      obtain ⟨d1, d2⟩ := hzc n v hn
      refine ⟨?_, d2⟩
      have hnlt : n < k.es := by have := (Array.getElem?_eq_some_iff.1 hn).1; omega
      have e1 : i1 * k.es = off * k.es + (i1 - off) * k.es := by rw [← Nat.add_mul]; congr 1; omega
      have e2 : (i1 - off + 1) * k.es ≤ zs.length * k.es := Nat.mul_le_mul_right _ (by omega)
      rw [Nat.succ_mul] at e2
      rw [List.getElem?_toArray, seg_get _ _ _ hcl, if_pos (by omega), ← d1]
      congr 1
      omega
    · rw [if_neg hin] at hx1
      obtain ⟨z1, r1, hz1s, hz1⟩ := k6 i1 x1 hx1
      refine ⟨z1, r1, hz1s, fun n v hn => ⟨?_, (hz1 n v hn).2⟩⟩
      have hnlt : n < k.es := by have := (Array.getElem?_eq_some_iff.1 hn).1; omega
      rw [List.getElem?_toArray, seg_get _ _ _ hcl, if_neg]
      · rw [Array.getElem?_toList]; exact (hz1 n v hn).1
      · rintro ⟨d1, d2⟩
        rcases Nat.lt_or_ge i1 off with hlt | hge
        · have : (i1 + 1) * k.es ≤ off * k.es := Nat.mul_le_mul_right _ hlt
          rw [Nat.succ_mul] at this
          omega
        · have : (off + zs.length) * k.es ≤ i1 * k.es := Nat.mul_le_mul_right _ (by omega)
          rw [Nat.add_mul] at this
          omega)
/-- The first elements of a slice, as 'copy' reads them. -/
theorem seg_src (S : Sim C G H W) {es n : Nat} {y : AV} {v : Value} {ys : List AV} (h : segA es y n H = some ys) (ry : VRel G.g y v) :
    ∃ m vs, (Builtin.lenOf v).run C.P W = .ok m W ∧ Nat.min m n = ys.length ∧ (Builtin.firstCells es (Nat.min m n) v).run C.P W = .ok vs.toArray W ∧ vs.length = ys.length * es ∧ SegIs G.g vs es ys := by
  have bare : ∀ xs : List AV, elems y = some xs → szOk xs es = true → ys = xs.take n → ∃ m vs, (Builtin.lenOf v).run C.P W = .ok m W ∧ Nat.min m n = ys.length ∧ (Builtin.firstCells es (Nat.min m n) v).run C.P W = .ok vs.toArray W ∧ vs.length = ys.length * es ∧ SegIs G.g vs es ys := by
    rintro xs hx hs rfl
    obtain ⟨hb, a', c', hv, hlc, hE⟩ := elems_val hx ry
    subst hv
    have hmin : Nat.min xs.length n = (xs.take n).length := by rw [List.length_take]; exact Nat.min_comm _ _
    refine ⟨xs.length, ?_⟩
    rcases hE with rfl | ⟨b, o, es', rfl, hes, hE⟩
    · refine ⟨[], rfl, hmin, ?_, by simp, fun i x hi => by simp at hi⟩
      have h0 : Nat.min ([] : List AV).length n = 0 := Nat.zero_min n
      rw [h0]
      cases a' with
      | none => exact run_firstCells_none W es 0 _ _
      | some ad => exact run_firstCells_some W es 0 ad _ _ [] (by simp) (fun j u hj => by simp at hj)
    · rcases szOk_of hs hE with rfl | rfl
      · refine ⟨[], rfl, hmin, ?_, by simp, fun i x hi => by simp at hi⟩
        have h0 : Nat.min ([] : List AV).length n = 0 := Nat.zero_min n
        rw [h0]
        exact run_firstCells_some W es 0 _ _ _ [] (by simp) (fun j u hj => by simp at hj)
      · obtain ⟨news, n1, n2, _⟩ := hE.vals
        have hc : ∀ j v, news[j]? = some v → W.cell? ((⟨b, o, none⟩ : Addr).add j) = some v := ImAt.cells S n2
        have hle : (xs.take n).length ≤ xs.length := by rw [List.length_take]; omega
        have hle' : (xs.take n).length * es' ≤ xs.length * es' := Nat.mul_le_mul_right _ hle
        have htl : (news.take ((xs.take n).length * es')).length = (xs.take n).length * es' := by rw [List.length_take, n1]; omega
        refine ⟨news.take ((xs.take n).length * es'), rfl, hmin, ?_, htl, ?_⟩
        · rw [hmin]
          refine run_firstCells_some W es' _ _ _ _ _ htl fun j u hj => hc j u ?_
          rw [List.getElem?_take] at hj
          split at hj
          · exact hj
          · cases hj
        · have hrow := hE.rowIs (cells := news.toArray) (q := 0) n1 n2 (by simp)
          intro i x hi
          have hil := (List.getElem?_eq_some_iff.1 hi).1
          rw [List.getElem?_take] at hi
          split at hi
          · obtain ⟨z, r, hz, hzc⟩ := hrow i x hi
            refine ⟨z, r, hz, fun j u hj => ?_⟩
            obtain ⟨d1, d2⟩ := hzc j u hj
            refine ⟨?_, d2⟩
            have hjl : j < es' := by have := (Array.getElem?_eq_some_iff.1 hj).1; omega
            have h2 : (i + 1) * es' ≤ (xs.take n).length * es' := Nat.mul_le_mul_right _ (by omega)
            rw [Nat.succ_mul] at h2
            rw [List.getElem?_take, if_pos (by omega)]
            rw [Nat.zero_add, List.getElem?_toArray] at d1
            exact d1
          · cases hi
  unfold segA at h
  split at h
  · rename_i b g es' off len
    simp only [Option.bind_eq_some_iff] at h
    obtain ⟨k, hk, h⟩ := h
    split at h
    · rename_i hc
      obtain ⟨c1, c2, rfl⟩ := hc
      injection h with h; subst h
      obtain ⟨B, w, sz, c, hb, h0, rfl, hlc, hcap, hex⟩ := ry
      obtain ⟨hk1, rfl⟩ := blkAt_val hk
      obtain ⟨B', q', cells, tid, k1, k2, k3, k4, k5, k6⟩ := S.blk b k hk1
      rw [hb] at k1
      injection k1 with k1
      injection k1 with e1 k1
      injection k1 with e2 k1
      injection k1 with e3 e4
      subst e1; subst e2; subst e3; subst c2
      have hmin : Nat.min len n = ((k.xs.drop off).take (min n len)).length := by
        rw [List.length_take, List.length_drop]
        have : Nat.min len n = min n len := Nat.min_comm _ _
        omega
      have hyl : ((k.xs.drop off).take (min n len)).length = min n len := by
        rw [List.length_take, List.length_drop]; omega
      have hrb : w + (off + min n len) * k.es ≤ cells.size := by
        have : (off + min n len) * k.es ≤ k.xs.length * k.es := Nat.mul_le_mul_right _ c1
        omega
      rw [Nat.add_mul] at hrb
      have hvl : ((cells.toList.drop (w + off * k.es)).take (min n len * k.es)).length = min n len * k.es := by
        rw [List.length_take, List.length_drop, Array.length_toList]; omega
      refine ⟨len, (cells.toList.drop (w + off * k.es)).take (min n len * k.es), rfl, hmin, ?_, by rw [hvl, hyl], ?_⟩
      · rw [hmin, hyl]
        refine run_firstCells_some W k.es _ _ _ _ _ hvl fun j u hj => ?_
        rw [List.getElem?_take] at hj
        split at hj
        · rw [List.getElem?_drop, Array.getElem?_toList] at hj
          rw [Addr.add_lit, cell_of_heap k2.1]
          exact hj
        · cases hj
      · intro i x hi
        have hil := (List.getElem?_eq_some_iff.1 hi).1
        rw [hyl] at hil
        rw [List.getElem?_take, if_pos hil, List.getElem?_drop] at hi
        obtain ⟨z, r, hz, hzc⟩ := k6 (off + i) x hi
        refine ⟨z, r, hz, fun j u hj => ?_⟩
        obtain ⟨d1, d2⟩ := hzc j u hj
        refine ⟨?_, d2⟩
        have hjl : j < k.es := by have := (Array.getElem?_eq_some_iff.1 hj).1; omega
        have h2 : (i + 1) * k.es ≤ min n len * k.es := Nat.mul_le_mul_right _ (by omega)
        rw [Nat.succ_mul] at h2
        rw [List.getElem?_take, if_pos (by omega), List.getElem?_drop, Array.getElem?_toList, ← d1]
        congr 1
        rw [Nat.add_mul]
        omega
    · cases h
  · simp only [Option.bind_eq_some_iff] at h
    obtain ⟨xs, hx, h⟩ := h
    split at h
    · rename_i hs
      injection h with h
      exact bare xs hx hs h.symm
    · cases h
variable (T : C.Tables)
include T
/-- 'copy' to a row that may be written. -/
theorem op_copy {c : Call} (ho : o.op = .call c) (hc : c.callee = .builtin .copy) (S : Sim C G H W) (E : ERel G.g env a.tmps) {args : List AV} (h1 : avals C env c.args.toList = some args) {H' : Hp} (h : copyA C c.argTypes args H = some (x, H')) : OpOk C.P o a W (Post C G W x H') := by
  have r := S.avals E h1
  unfold copyA at h
  split at h
  · rename_i b g es off len y e hel
    simp only [Option.bind_eq_some_iff] at hel
    obtain ⟨t, ht, hel⟩ := hel
    have htu := elemT_und T hel
    split at h
    · rename_i k ys hk hys
      split at h
      · rename_i hcond
        obtain ⟨c1, c2, c3⟩ := hcond
        injection h with h
        injection h with hx hH
        subst hx; subst hH; subst c2
        obtain ⟨v0, l, hargs, rs, v, l', e2, ry, e3⟩ := r
        obtain rfl : l' = [] := e3
        subst e2
        obtain ⟨B, w, sz, cc, hb, h0, rfl, hlc, hcap, hex⟩ := rs
        obtain ⟨hk1, rfl⟩ := blkAt_val hk
        obtain ⟨m, vs, s1, s2, s3, s4, s5⟩ := seg_src S hys ry
        have hyl : ys.length ≤ len := by
          have : Nat.min m len ≤ len := Nat.min_le_right _ _
          omega
        obtain ⟨W', hst, t1, t2⟩ := S.setSegX hk1 hb c1 (zs := ys) (by
          have : (off + ys.length) * k.es ≤ (off + cc) * k.es := Nat.mul_le_mul_right _ (by omega)
          omega) s4 h0 s5 (P := C.P)
        have hargs' : c.args.map a.eval = #[.slice (some ⟨B, w + off * k.es, none⟩) len cc, v] := by apply Array.ext'; simpa using hargs
        refine OpOk.value (y := .int .i64 (ys.length : Int)) (W' := W') ?_ ⟨G, ⟨rfl, rfl⟩, t1, t2⟩
        have hr : (Builtin.copy_ c.argTypes o.type #[.slice (some ⟨B, w + off * k.es, none⟩) len cc, v]).run C.P W = .ok (.int .i64 (ys.length : Int)) W' := by
          have s2' : m.min len = ys.length := s2
          rw [s2'] at s3
          simp [Builtin.copy_, ht, run_underlying htu, s1, run_csz T c3, s2', s3, hst, goInt]
        simp only [execOp, ho, resolve, hc, hargs', Sem.run_bind, Sem.run_pure, Result.andThen_ok, invoke, builtin, hr]
      · cases h
    · cases h
  · cases h
/-- 'append' of so many zero values to what has not so much room. -/
theorem op_appMk {c : Call} (ho : o.op = .call c) (hc : c.callee = .builtin .append) (S : Sim C G H W) (E : ERel G.g env a.tmps) {s y : AV} (h1 : avals C env c.args.toList = some [s, y]) {e : TypeId} (he : (c.argTypes[0]?).bind (elemT C) = some e)
    {u : TypeId} (hu0 : c.argTypes[1]? = some u) (hu : C.und u = some (.int .i64)) {H' : Hp} (h : appMk C e s y H = some (x, H')) :
    OpOk C.P o a W (Post C G W x H') := by
  have r := S.avals E h1
  obtain ⟨v0, l, hargs, rs, v, l', e2, ry, e3⟩ := r
  obtain rfl : l' = [] := e3
  subst e2
  simp only [Option.bind_eq_some_iff] at he
  obtain ⟨t, ht, he⟩ := he
  have htu := elemT_und T he
  unfold appMk at h
  split at h
  · rename_i b g es n k z j hz hj
    split at h
    · rename_i bl m hbl hm
      split at h
      · rename_i hcond
        obtain ⟨rfl, c2, c3, c4, c5, c6, c7, c8⟩ := hcond
        injection h with h
        injection h with hx hH
        subst hx; subst hH
        obtain ⟨B, w, sz, cc, hb, h0, rfl, hlc, hcap, hex⟩ := rs
        have hmc := hex.2 m hm
        obtain ⟨rfl, _⟩ := ry
        obtain ⟨kn, rfl⟩ : ∃ kn : Nat, k = (kn : Int) := ⟨k.toNat, by omega⟩
        simp only [Int.toNat_natCast] at *
        obtain ⟨hk1, rfl⟩ := blkAt_val hbl
        obtain ⟨B', q', cells, tid, k1, k2, k3, k4, k5, k6⟩ := S.blk b bl hk1
        rw [hb] at k1
        injection k1 with k1
        injection k1 with e1 k1
        injection k1 with e2 k1
        injection k1 with e3 e4
        subst e1; subst e2; subst e3
        obtain ⟨i, hi, hik⟩ := T.csz _ _ hj
        obtain ⟨zv, hzv, rz, _⟩ := zeroA_rel hz
        obtain ⟨i', hi', hiz⟩ := T.zero _ _ hzv
        have ei : i' = i := by rw [hi] at hi'; injection hi' with h; exact h.symm
        subst ei
        have hzs : zv.cells.size = j + 1 := by
          have := VRels.length (rz G.g).cells
          simp at this
          omega
        obtain ⟨i2, hi2, r1, r2⟩ := roomOk_of T c8
        have ei2 : i2 = i' := by rw [hi] at hi2; injection hi2 with h; exact h.symm
        subst ei2
        simp only [Nat.zero_mul, Nat.add_zero, Nat.zero_add] at hcap hmc
        subst hmc
        obtain ⟨olds, holds⟩ : ∃ olds, olds = (cells.toList.drop w).take (n * (j + 1)) := ⟨_, rfl⟩
        have hnb : n * (j + 1) ≤ bl.xs.length * (j + 1) := Nat.mul_le_mul_right _ c3
        rw [c2] at k5
        have hol : olds.length = n * (j + 1) := by
          rw [holds, List.length_take, List.length_drop, Array.length_toList]
          omega
        have hold : ∀ q u, olds[q]? = some u → cells[w + q]? = some u := by
          intro q u hq
          rw [holds, List.getElem?_take] at hq
          split at hq
          · rw [List.getElem?_drop, Array.getElem?_toList] at hq
            exact hq
          · cases hq
        have hcell : ∀ q u, olds[q]? = some u → W.drew.cell? ((⟨B, w, none⟩ : Addr).add q) = some u := by
          intro q u hq
          have hh : W.drew.heap[B]? = some (.cells cells tid.1 tid.2) := k2.1
          rw [Addr.add_lit]
          simp only [World.cell?, hh]
          exact hold q u hq
        have hfc := run_firstCells_some W.drew (j + 1) n (⟨B, w, none⟩ : Addr) n cc olds hol hcell (P := C.P)
        have hng : ¬ (n + kn ≤ cc) := by omega
        have hwrap := wrap_nat (m := kn) (by omega)
        have hby : (kn : Int) * (i2.bytes : Int) ≤ 281474976710656 := by
          have h3 : kn * i2.bytes ≤ (n + kn) * i2.bytes := Nat.mul_le_mul_right _ (by omega)
          have h4 : ((kn * i2.bytes : Nat) : Int) ≤ 281474976710656 := by omega
          rwa [Int.natCast_mul] at h4
        have h63' : ¬ (9223372036854775807 < ((n : Int) + (kn : Int))) := by omega
        have h48 := growslice_fits (need := n + kn) (old := cc) (bytes := i2.bytes) (by omega) r2
        have h48' : ¬ (281474976710656 < Builtin.nextslicecap (n + kn) cc * i2.bytes) := by omega
        have hge := grownCap_ge W (n + kn) cc e
        obtain ⟨vals, hvals⟩ : ∃ vals, (olds.toArray ++ (Builtin.zeroCells zv.cells kn ++ Builtin.zeroCells zv.cells (grownCap W (n + kn) cc e - (n + kn)))) = vals := ⟨_, rfl⟩
        have hzc : ∀ q, (Builtin.zeroCells zv.cells q).size = q * (j + 1) := fun q => by rw [size_zeroCells, hzs]
        have hknz : kn * (j + 1) = 0 → kn = 0 := by
          intro h
          rcases Nat.mul_eq_zero.1 h with h | h
          · exact h
          · omega
        have hr : (Builtin.append_ c.argTypes o.type #[.slice (some ⟨B, w, none⟩) n cc, .int .i64 (kn : Int)]).run C.P W = .ok (.slice (some ⟨W.heap.size, 0, none⟩) (n + kn) (grownCap W (n + kn) cc e)) (W.drew.alloc (.cells vals e)) := by
          have hud := T.und _ _ hu
          have hzk : kn = 0 → Builtin.zeroCells zv.cells kn = #[] := fun h => by subst h; simp [Builtin.zeroCells]
          have hk0 : ¬ ((kn : Int) < 0) := by omega
          have hbn : ¬ (281474976710656 < (kn : Int) * (i2.bytes : Int)) := by omega
          have hkz : ¬ kn = 0 := by omega
          have hk3 : ¬ kn * (j + 1) = 0 := fun h => hkz (hknz h)
          have hai : ∀ W', (asInt (.int .i64 (kn : Int))).run C.P W' = .ok (kn : Int) W' := fun _ => rfl
          simp [Builtin.append_, ht, hu0, run_underlying htu, run_underlying hud, sizeOf, typeInfo, zeroValue, hi, hiz, hik, hai, hwrap, hk0, hbn, hng, h63', h48', Question.forced, hfc, newRow, grownCap, hkz]
          rw [if_neg hk3, ← hvals]
          simp [grownCap]
        have hargs' : c.args.map a.eval = #[.slice (some ⟨B, w, none⟩) n cc, .int .i64 (kn : Int)] := by apply Array.ext'; simpa using hargs
        have hvz : vals.size = grownCap W (n + kn) cc e * (j + 1) := by
          rw [← hvals, Array.size_append, Array.size_append, List.size_toArray, hol, hzc, hzc, ← Nat.add_mul, ← Nat.add_mul]
          congr 1
          omega
        have hz' := zeros_array zv.cells kn (by omega)
        have hzl : Builtin.zeroCells zv.cells kn = ((List.replicate kn zv.cells.toList).flatten).toArray := by
          unfold Builtin.zeroCells
          rw [hz']
        have htn : (bl.xs.take n).length = n := by rw [List.length_take]; omega
        rw [c2] at k6
        have k7 : RowIs G.g cells w (j + 1) (bl.xs.take n) := fun i x hx => k6 i x (by
          rw [List.getElem?_take] at hx
          split at hx
          · exact hx
          · cases hx)
        have k8 := replicate_rel (rz G.g) c7 kn
        rw [c6] at k8
        have hrow : RowIs G.g vals 0 (j + 1) (bl.xs.take n ++ List.replicate kn z) := by
          refine RowIs.append (k7.move fun p hp => ?_) (k8.move fun p hp => ?_)
          · rw [htn] at hp
            rw [← hvals, Nat.zero_add, Array.getElem?_append_left (by rw [List.size_toArray, hol]; omega), List.getElem?_toArray, holds, List.getElem?_take, if_pos hp, List.getElem?_drop, Array.getElem?_toList]
          · rw [List.length_replicate] at hp
            rw [htn, ← hvals, Nat.zero_add, Nat.zero_add, Array.getElem?_append_right (by rw [List.size_toArray, hol]; omega), Array.getElem?_append_left (by rw [hzc, List.size_toArray, hol]; omega), hzl, List.size_toArray, hol]
            congr 1
            omega
        obtain ⟨s1, s2⟩ := (Sim.drew C S).newBlk vals e (j + 1) (bl.xs.take n ++ List.replicate kn z) hrow (by
          rw [hvz, List.length_append, htn, List.length_replicate]
          exact Nat.mul_le_mul_right _ hge)
        refine OpOk.value (y := .slice (some ⟨W.heap.size, 0, none⟩) (n + kn) (grownCap W (n + kn) cc e)) (W' := W.drew.alloc (.cells vals e)) ?_ ⟨_, ⟨W.heap.size, 0, vals.size, grownCap W (n + kn) cc e, newBlk_at, by omega, by simp, hge, by rw [hvz]; simp, (fun _ => by rw [Nat.zero_add]; exact grownCap_le_maxLen W (n + kn) cc e (by simp only [maxLen]; omega)), no_cap exCap_zero⟩, s1, (Adv.drew G W).trans s2⟩
        simp only [execOp, ho, resolve, hc, hargs', Sem.run_bind, Sem.run_pure, Result.andThen_ok, invoke, builtin, hr]
      · cases h
    · cases h
  · cases h
/-- **Operations that turn the heap.** -/
theorem opW_ok {call : FuncId → List AV → Hp → Option (AV × Hp)} (hcall : ∀ f xs H r H', call f xs H = some (r, H') → (∃ fn, C.fns f = some fn ∧ fn.body.isSome = true) ∧ CallOk C f xs H r H') (S : Sim C G H W) (E : ERel G.g env a.tmps) {H' : Hp}
    {fid : FuncId} (h : opW C call fid o env H = some (x, H')) : OpOk C.P o a W (Post C G W x H') := by
  unfold opW at h
  split at h
  · rename_i e ho
    simp only [Option.bind_eq_some_iff] at h
    obtain ⟨z, hz, h⟩ := h
    split at h
    · rename_i hf
      injection h with h
      injection h with hx hH
      subst hx; subst hH
      exact op_alloc_heap T ho S hz hf
    · cases h
  · rename_i e p ho
    simp only [Option.bind_eq_some_iff] at h
    obtain ⟨z, hz, h⟩ := h
    split at h
    · rename_i hf
      injection h with h
      injection h with hx hH
      subst hx; subst hH
      exact op_box_heap ho S (S.aval E hz) hf
    · cases h
  · rename_i t p q ho
    split at h
    · rename_i b g i j u h1 h2
      split at h
      · rename_i k hk
        split at h
        · rename_i y hy
          split at h
          · rename_i hc
            simp only [Option.map_eq_some_iff] at h
            obtain ⟨y', hy', h⟩ := h
            injection h with hx hH
            subst hx; subst hH
            exact op_store T ho S E h1 h2 hk hy hc.1 hc.2 hy'
          · cases h
        · cases h
      · cases h
    · cases h
  · rename_i s d p ho
    split at h
    · rename_i b e h1 hs hd
      split at h
      · rename_i he
        injection h with h
        injection h with hx hH
        subst hx; subst hH
        exact op_convertW T ho S E h1 hs hd he
      · cases h
    · cases h
  · rename_i t p q ho
    split at h
    · rename_i e l c he hl hc
      simp only [Option.bind_eq_some_iff] at hl hc
      obtain ⟨u, hu, hl⟩ := hl
      obtain ⟨v, hv, hc⟩ := hc
      split at h
      · rename_i z n hz hn
        split at h
        · rename_i hcond
          obtain ⟨c1, c2, c3, c4, c5⟩ := hcond
          injection h with h
          injection h with hx hH
          subst hx; subst hH; subst c1
          exact op_makeSlice T ho S E he hu hv hl hc hz hn c2 c3 c4 c5
        · cases h
      · cases h
    · cases h
  · rename_i t ho
    injection h with h
    injection h with hx hH
    subst hx; subst hH
    exact op_makeMap ho S
  · rename_i t p q s ho
    simp only [Option.bind_eq_some_iff] at h
    obtain ⟨m, hm, k, hk, y, hy, h⟩ := h
    exact op_mapUpdate T ho S E hm hk hy h
  · rename_i c ho
    split at h
    · cases h
    · rename_i args hargs
      split at h
      · rename_i q hc
        split at h
        · rename_i f p s hf
          split at h
          · cases h
          · obtain ⟨⟨fn, hfn, hb⟩, hk⟩ := hcall _ _ _ _ _ h
            obtain ⟨hf', hn⟩ := T.fns f fn hfn
            exact op_call ho hc S E hargs hf hf' hn hb fun vs rv => hk G W vs S rv
        · cases h
      · rename_i r name hc
        split at h
        · rename_i t u hv
          split at h
          · rename_i f hme
            split at h
            · cases h
            · obtain ⟨⟨fn, hfn, hb⟩, hk⟩ := hcall _ _ _ _ _ h
              obtain ⟨hf', hn⟩ := T.fns f fn hfn
              exact op_invoke T ho hc S E hargs hv (T.meth _ _ _ _ hme) (.inl ⟨rfl, rfl⟩) hf' hn hb fun vs rv => hk G W vs S rv
          · rename_i f e hme
            split at h
            · cases h
            · split at h
              · rename_i b g i j
                simp only [Option.bind_eq_some_iff] at h
                obtain ⟨y, ⟨z, ⟨k, hk1, hz⟩, hx⟩, h⟩ := h
                obtain ⟨⟨fn, hfn, hb⟩, hk⟩ := hcall _ _ _ _ _ h
                obtain ⟨hf', hn⟩ := T.fns f fn hfn
                exact op_invoke T ho hc S E hargs hv (T.meth _ _ _ _ hme) (.inr ⟨e, b, g, i, j, k, z, rfl, rfl, hk1, hz, hx⟩) hf' hn hb fun vs rv => hk G W vs S rv
              · cases h
          · cases h
        · cases h
      · rename_i hc
        have main : ∀ s y e u, args = [s, y] → (c.argTypes[0]?).bind (elemT C) = some e → c.argTypes[1]? = some u → ((∃ e', C.und u = some (.slice e')) ∨ C.und u = some .string) →
            (match zeroA C e, C.csz e with | some z, some n => if z.cells.length = n then (if nbOf C fid o.dst then appendX C e s y H else appendA C e s y H) else none | _, _ => none) = some (x, H') → OpOk C.P o a W (Post C G W x H') := by
          rintro s y e u rfl he hu0 hu h
          split at h
          · rename_i z n hz hn
            split at h
            · rename_i hl
              split at h
              · exact op_appendX T ho hc S E hargs he hu0 hu hz h (fun k hk => by rw [hn] at hk; injection hk with hk; omega)
              · exact op_append T ho hc S E hargs he hu0 hu hz h (fun k hk => by rw [hn] at hk; injection hk with hk; omega)
            · cases h
          · cases h
        split at h
        · rename_i s y e e' he hu
          simp only [Option.bind_eq_some_iff] at hu
          obtain ⟨u, hu0, hu⟩ := hu
          exact main s y e u rfl he hu0 (.inl ⟨_, hu⟩) h
        · rename_i s y e he hu
          simp only [Option.bind_eq_some_iff] at hu
          obtain ⟨u, hu0, hu⟩ := hu
          exact main s y e u rfl he hu0 (.inr hu) h
        · rename_i s y e he hu
          simp only [Option.bind_eq_some_iff] at hu
          obtain ⟨u, hu0, hu⟩ := hu
          split at h
          · exact op_appMk T ho hc S E hargs he hu0 hu h
          · cases h
        · cases h
      · rename_i hc
        unfold usA at h
        split at h
        · rename_i t xs n
          exact op_unsafeString T ho hc S E hargs h
        · cases h
      · rename_i hc
        exact op_clear T ho hc S E hargs h
      · rename_i hc
        exact op_copy T ho hc S E hargs h
      · cases h
  · cases h
end
end Go.AM

namespace Go.AM
section
variable {C : Cfg} {G : Gs} {H : Hp} {W : World}

/-- What is laid for good once a heap is given up. -/
def Gs.given (G : Gs) (W : World) : Gh :=
  { base := G.g.base, lit := G.g.lit, tok := fun _ _ => none, blk := fun _ _ => none, mp := fun _ => none
    im := fun b o => match G.g.im b o with | some v => some v | none => match G.own b with | some (.blk _) => W.cell? ⟨b, o, none⟩ | _ => none }

theorem given_im {b o : Nat} {v : Value} (h : G.g.im b o = some v) : (G.given W).im b o = some v := by simp [Gs.given, h]
theorem given_at {b o : Nat} {vs : List Value} (h : ImAt G.g b o vs) : ImAt (G.given W) b o vs := fun j v hj => ⟨given_im (h j v hj).1, (h j v hj).2⟩
theorem given_le : Gle G.g.bare (G.given W) := ⟨rfl, fun _ _ _ h => given_im h, fun _ h => h, (fun _ _ _ h => by cases h), (fun _ _ _ h => by cases h), (fun _ _ h => by cases h)⟩
theorem given_bare {x : AV} {y : Value} (hb : Bare x) (r : VRel G.g x y) : VRel (G.given W) x y := VRel.mono given_le _ _ (Bare.rel x y hb r)

theorem blk_at (S : Sim C G H W) {b g : Nat} {k : Blk} (hk : blkAt H b g = some k) {B q sz es : Nat} (hb : G.g.blk b g = some (B, q, sz, es)) {i : Nat} {x : AV} (hx : k.xs[i]? = some x) :
    k.es = es ∧ ∃ z, VRel G.g x z ∧ z.cells.size = es ∧ ImAt (G.given W) B (q + i * es) z.cells.toList := by
  obtain ⟨hk1, rfl⟩ := blkAt_val hk
  obtain ⟨B', q', cells, tid, k1, k2, k3, k4, k5, k6⟩ := S.blk b k hk1
  rw [hb] at k1
  injection k1 with k1
  injection k1 with e1 k1
  injection k1 with e2 k1
  injection k1 with e3 e4
  subst e1; subst e2; subst e3; subst e4
  obtain ⟨z, r, hs, hz⟩ := k6 i x hx
  refine ⟨rfl, z, r, hs, fun j v hj => ?_⟩
  obtain ⟨h1, h2⟩ := hz j v (by simpa using hj)
  refine ⟨?_, h2⟩
  simp only [Gs.given, k4, k3]
  rw [cell_of_heap k2.1]
  exact h1

mutual
theorem thaw_rel (S : Sim C G H W) : ∀ (n : Nat) (x x' : AV) (y : Value), x.thaw H n = some x' → VRel G.g x y → Bare x' ∧ VRel (G.given W) x' y
  | 0, _, _, _, h, _ => by simp [AV.thaw] at h
  | n + 1, .v z, x', y, h, r => by
    simp only [AV.thaw, Option.some.injEq] at h; subst h
    exact ⟨trivial, r⟩
  | n + 1, .agg xs, x', y, h, ⟨ys, e, r⟩ => by
    simp only [AV.thaw, Option.map_eq_some_iff] at h
    obtain ⟨l, hl, rfl⟩ := h
    obtain ⟨h1, h2⟩ := thaws_rel S n xs l _ hl r
    exact ⟨h1, ys, e, h2⟩
  | n + 1, .tup xs, x', y, h, ⟨ys, e, r⟩ => by
    simp only [AV.thaw, Option.map_eq_some_iff] at h
    obtain ⟨l, hl, rfl⟩ := h
    obtain ⟨h1, h2⟩ := thaws_rel S n xs l _ hl r
    exact ⟨h1, ys, e, h2⟩
  | n + 1, .ro xs, x', y, h, r => by
    simp only [AV.thaw, Option.some.injEq] at h; subst h
    exact ⟨r.1, given_bare (x := .ro xs) r.1 r⟩
  | n + 1, .cl f xs, x', y, h, r => by
    simp only [AV.thaw, Option.some.injEq] at h; subst h
    obtain ⟨hb, a, e, hl, hE⟩ := r
    cases f with
    | false => exact ⟨hb, given_bare (x := .cl false xs) hb ⟨hb, a, e, (fun h => by cases h), hE⟩⟩
    | true =>
      cases xs with
      | cons x xs => exact ⟨hb, given_bare (x := .cl false (x :: xs)) hb ⟨hb, a, e, (fun h => by cases h), hE⟩⟩
      | nil =>
        obtain ⟨b, ha, _⟩ := hl rfl
        exact ⟨trivial, given_bare (x := .ro []) trivial ⟨trivial, a, 0, e, Nat.le_refl _, .inl ⟨rfl, by rw [ha]; rfl⟩⟩⟩
  | n + 1, .ap t xs, x', y, h, r => by
    simp only [AV.thaw, Option.some.injEq] at h; subst h
    obtain ⟨hb, _, a, c, e, l, hE⟩ := r
    exact ⟨hb, given_bare (x := .ro xs) hb ⟨hb, a, c, e, l, hE.imp id fun ⟨b, es, ha, hs, hE⟩ => ⟨b, 0, es, ha, hs, hE⟩⟩⟩
  | n + 1, .rp x j, x', y, h, r => by
    simp only [AV.thaw, Option.some.injEq] at h; subst h
    exact ⟨r.1, given_bare (x := .rp x j) r.1 r⟩
  | n + 1, .iface t x, x', y, h, ⟨z, e, r⟩ => by
    simp only [AV.thaw, Option.map_eq_some_iff] at h
    obtain ⟨l, hl, rfl⟩ := h
    obtain ⟨h1, h2⟩ := thaw_rel S n x l z hl r
    exact ⟨h1, z, e, h2⟩
  | n + 1, .fn f a b, x', y, h, ⟨a', b', e, ra, rb⟩ => by
    simp only [AV.thaw] at h
    split at h
    · rename_i l m h1 h2
      injection h with h; subst h
      obtain ⟨p1, p2⟩ := thaws_rel S n a l _ h1 ra
      obtain ⟨q1, q2⟩ := thaws_rel S n b m _ h2 rb
      exact ⟨⟨p1, q1⟩, a', b', e, p2, q2⟩
    · cases h
  | n + 1, .ex b g es off len, x', y, h, ⟨B, o, sz, c, hb, hes, e, hc⟩ => by
    simp only [AV.thaw] at h
    split at h
    · rename_i k hk
      split at h
      · rename_i hle
        simp only [Option.map_eq_some_iff] at h
        obtain ⟨l, hl, rfl⟩ := h
        obtain ⟨p1, p2, p3⟩ := thaws_elems S n es B ((k.xs.drop off).take len) l (o + off * es) hl (fun i x hx => by
          have hx' : k.xs[off + i]? = some x := by
            rw [List.getElem?_take] at hx
            split at hx
            · rwa [List.getElem?_drop] at hx
            · cases hx
          obtain ⟨_, z, r, hs, hi⟩ := blk_at S hk hb hx'
          exact ⟨z, r, hs, by rw [show o + off * es + i * es = o + (off + i) * es by rw [Nat.add_mul]; omega]; exact hi⟩)
        have hlen : l.length = len := by rw [p1, List.length_take, List.length_drop]; omega
        exact ⟨p2, p2, some ⟨B, o + off * es, none⟩, c, by rw [hlen]; exact e, by omega, .inr ⟨B, o + off * es, es, rfl, hes, p3⟩⟩
      · cases h
    · cases h
  | n + 1, .ptr b g i j, x', y, h, ⟨B, o, sz, es, hb, e⟩ => by
    simp only [AV.thaw] at h
    split at h
    · rename_i x hx
      simp only [Option.bind_eq_some_iff] at hx
      obtain ⟨k, hk, hx⟩ := hx
      simp only [Option.map_eq_some_iff] at h
      obtain ⟨l, hl, rfl⟩ := h
      obtain ⟨_, z, r, hs, hi⟩ := blk_at S hk hb hx
      obtain ⟨h1, h2⟩ := thaw_rel S n x l z hl r
      exact ⟨h1, h1, B, o + i * es, z, e, h2, hi⟩
    · cases h
  | n + 1, .mp _, _, _, h, _ => by simp [AV.thaw] at h
  | n + 1, .sd _ _, _, _, h, _ => by simp [AV.thaw] at h
theorem thaws_rel (S : Sim C G H W) : ∀ (n : Nat) (xs xs' : List AV) (ys : List Value), AV.thaws H n xs = some xs' → VRels G.g xs ys → Bares xs' ∧ VRels (G.given W) xs' ys
  | 0, _, _, _, h, _ => by simp [AV.thaws] at h
  | n + 1, [], xs', ys, h, r => by simp only [AV.thaws, Option.some.injEq] at h; subst h; exact ⟨trivial, r⟩
  | n + 1, x :: xs, xs', ys, h, ⟨z, zs, e, r, rs⟩ => by
    simp only [AV.thaws] at h
    split at h
    · rename_i y' ys' h1 h2
      injection h with h; subst h
      obtain ⟨p1, p2⟩ := thaw_rel S n x y' z h1 r
      obtain ⟨q1, q2⟩ := thaws_rel S n xs ys' zs h2 rs
      exact ⟨⟨p1, q1⟩, z, zs, e, p2, q2⟩
    · cases h
theorem thaws_elems (S : Sim C G H W) : ∀ (n es B : Nat) (xs xs' : List AV) (o : Nat), AV.thaws H n xs = some xs' → (∀ i x, xs[i]? = some x → ∃ z, VRel G.g x z ∧ z.cells.size = es ∧ ImAt (G.given W) B (o + i * es) z.cells.toList) →
    xs'.length = xs.length ∧ Bares xs' ∧ Elems (G.given W) es B o xs'
  | 0, _, _, _, _, _, h, _ => by simp [AV.thaws] at h
  | n + 1, es, B, [], xs', o, h, _ => by simp only [AV.thaws, Option.some.injEq] at h; subst h; exact ⟨rfl, trivial, trivial⟩
  | n + 1, es, B, x :: xs, xs', o, h, r => by
    simp only [AV.thaws] at h
    split at h
    · rename_i y' ys' h1 h2
      injection h with h; subst h
      obtain ⟨z, rz, hs, hi⟩ := r 0 x rfl
      obtain ⟨p1, p2⟩ := thaw_rel S n x y' z h1 rz
      obtain ⟨q0, q1, q2⟩ := thaws_elems S n es B xs ys' (o + es) h2 (fun i x hx => by
        obtain ⟨z, r, hs, hi⟩ := r (i + 1) x (by simpa using hx)
        exact ⟨z, r, hs, by rw [show o + es + i * es = o + (i + 1) * es by rw [Nat.succ_mul]; omega]; exact hi⟩)
      exact ⟨by simp [q0], ⟨p1, q1⟩, ⟨z, p2, hs, by simpa using hi⟩, q2⟩
    · cases h
end

/-- A function on a heap of its own leaves the caller's heap alone. -/
theorem pureOk_of {f : FuncId} {xs : List AV} {r r' : AV} {H1 : Hp} {n : Nat} (h : CallOk C f xs {} r H1) (ht : r.thaw H1 n = some r') : PureOk C f xs r' := by
  intro G H W vs S rv hb
  have S0 : Sim C ⟨G.g.bare, fun _ => none⟩ {} W :=
    ⟨S.base, S.im, fun b x => ⟨(S.lit b x).1, (S.lit b x).2.1, rfl⟩, (fun _ _ h => by cases h), (fun t e tid h _ => by simp at h), fun _ _ _ => rfl, (fun b k h => by simp at h), fun _ _ _ => rfl, fun g x hx => S.gl g x hx, (fun m es h => by simp at h), fun _ _ => rfl⟩
  refine (h _ W vs S0 (Bares.rel xs vs hb rv)).mono fun e W' ⟨y, he, G1, ry, S1, A⟩ => ⟨y, he, ?_⟩
  obtain ⟨hb', ry'⟩ := thaw_rel S1 n r r' y ht ry
  let G2 : Gs := ⟨{ G.g with im := (G1.given W').im, lit := G1.g.lit }, G.own⟩
  have hG1own : ∀ B, B < W.heap.size → G1.own B = none := fun B hB => A.ownK B hB rfl
  have him : ∀ B, B < W.heap.size → ∀ o v, G2.g.im B o = some v → G.g.im B o = some v := by
    intro B hB o v x
    simp only [G2, Gs.given] at x
    split at x
    · rename_i v' hv
      injection x with x; subst x
      exact A.imK B hB rfl o v' hv
    · rw [hG1own B hB] at x
      cases x
  have hlit : ∀ B, B < W.heap.size → G1.g.lit B → G.g.lit B := fun B hB x => A.litK B hB x
  have hgle : Gle G.g G2.g := ⟨rfl, fun b o v x => given_im (A.gle.im b o v x), fun b x => A.gle.lit b x, fun _ _ _ x => x, fun _ _ _ x => x, fun _ _ x => x⟩
  have hfr : ∀ B, B < W.heap.size → ¬ G.g.lit B → W'.heap[B]? = W.heap[B]? := fun B hB hl => A.frame B hB rfl hl
  have hbase : G1.g.base = G.g.base := A.gle.base
  refine ⟨G2, VRel.mono (G := G1.given W') (G' := G2.g) ⟨hbase.symm, fun _ _ _ x => x, fun _ x => x, (fun _ _ _ x => by cases x), (fun _ _ _ x => by cases x), (fun _ _ x => by cases x)⟩ _ _ ry', ?_, ⟨hgle, A.os, A.tape, A.output, A.size, fun B hB _ hl => hfr B hB hl, fun _ _ x => x, hlit, fun B hB _ o v x => him B hB o v x⟩⟩
  have hmw : ∀ m R, G.own R = some (.mp m) → R < W.heap.size → W'.heap[R]? = W.heap[R]? := fun m R ho hR => hfr R hR fun hl => by
    have := (S.lit R hl).2.2
    rw [ho] at this
    cases this
  refine ⟨Nat.le_trans S.base A.size, ?_, ?_, ?_, ?_, S.tokN, ?_, S.blkN, ?_, fun m es x => (S.mp m es x).move hgle (hmw m) (fun _ x _ => x), S.mpN⟩
  · intro b o v x
    simp only [G2, Gs.given] at x
    split at x
    · rename_i v' hv
      injection x with x; subst x
      exact S1.im b o v' hv
    · split at x
      · exact x
      · cases x
  · intro b x
    obtain ⟨k1, k2, _⟩ := S1.lit b x
    rw [hbase] at k1
    refine ⟨k1, k2, ?_⟩
    show G.own b = none
    cases ho : G.own b with
    | none => rfl
    | some w =>
      have hlt := (S.own b w ho).2
      have := (S.lit b (hlit b hlt x)).2.2
      rw [ho] at this
      cases this
  · intro b w x
    obtain ⟨k1, k2⟩ := S.own b w x
    exact ⟨k1, Nat.lt_of_lt_of_le k2 A.size⟩
  · intro t e tid x hs
    obtain ⟨y, size, vals, k1, k2, k3, k4, k5⟩ := S.tok t e tid x hs
    refine ⟨y, size, vals, k1, k2, k3, ownsRow_of_heap k4 fun B hB => hfr B (k4.lt B hB).2 ?_, fun B hB => ⟨(k5 B hB).1, fun o v x => (k5 B hB).2 o v (him B (k4.lt B hB).2 o v x)⟩⟩
    intro hl
    have := (S.lit B hl).2.2
    rw [(k5 B hB).1] at this
    cases this
  · intro b k x
    obtain ⟨B, o, cells, tid, k1, k2, k3, k4, k5, k6⟩ := S.blk b k x
    have hB := (Array.getElem?_eq_some_iff.1 k2.1).1
    refine ⟨B, o, cells, tid, k1, ⟨(hfr B hB ?_).trans k2.1, k2.2⟩, k3, fun o => ?_, k5, fun i x hx => ?_⟩
    · intro hl
      have := (S.lit B hl).2.2
      rw [k3] at this
      cases this
    · cases hh : G2.g.im B o with
      | none => rfl
      | some v =>
        have := him B hB o v hh
        rw [k4] at this
        cases this
    · obtain ⟨z, r, hz⟩ := k6 i x hx
      exact ⟨z, r.mono hgle, hz⟩
  · intro g x hx
    obtain ⟨z, hz, hi⟩ := S.gl g x hx
    exact ⟨z, hz, hi.mono hgle⟩
/-- A call that reads what lies on the heap: nothing of it is handed back. -/
theorem readCall_ok {f : FuncId} {xs xs' : List AV} {r : AV} {z : Value} {n : Nat} {vs : List Value} (S : Sim C G H W) (ht : AV.thaws H n xs = some xs') (rv : VRels G.g xs vs) (h : PureOk C f xs' r) (hr : r.toV = some z) :
    Calls C.P f vs.toArray W fun e W' => ∃ y, e = .returned y ∧ Post C G W r H y W' := by
  obtain ⟨hb, rv'⟩ := thaws_rel S n xs xs' vs ht rv
  have hgi : ∀ b o v, G.g.im b o = some v → (G.given W).im b o = some v := fun b o v x => given_im x
  have himg : ∀ b o v, (G.given W).im b o = some v → W.cell? ⟨b, o, none⟩ = some v := by
    intro b o v x
    simp only [Gs.given] at x
    split at x
    · rename_i v' hv
      injection x with x; subst x
      exact S.im b o v' hv
    · split at x
      · exact x
      · cases x
  have S0 : Sim C ⟨G.given W, fun _ => none⟩ {} W :=
    ⟨S.base, himg, fun b x => ⟨(S.lit b x).1, (S.lit b x).2.1, rfl⟩, (fun _ _ h => by cases h), (fun t e tid h _ => by simp at h), fun _ _ _ => rfl, (fun b k h => by simp at h), fun _ _ _ => rfl, fun g x hx => by
        obtain ⟨z, hz, hi⟩ := S.gl g x hx
        exact ⟨z, hz, given_at hi⟩, (fun m es h => by simp at h), fun _ _ => rfl⟩
  refine (h _ {} W vs S0 rv' hb).mono fun e W' ⟨y, he, G1, ry, S1, A⟩ => ⟨y, he, ?_⟩
  have hfr : ∀ B, B < W.heap.size → ¬ G.g.lit B → W'.heap[B]? = W.heap[B]? := fun B hB hl => A.frame B hB rfl hl
  have hy : y = z := toV_eq _ _ _ hr ry
  refine ⟨G, by rw [hy]; exact toV_rel _ _ hr, ?_, ⟨Gle.refl _, A.os, A.tape, A.output, A.size, fun B hB _ hl => hfr B hB hl, fun _ _ x => x, fun _ _ x => x, fun _ _ _ _ _ x => x⟩⟩
  refine ⟨Nat.le_trans S.base A.size, fun b o v x => S1.im b o v (A.gle.im b o v (hgi b o v x)), fun b x => ?_, fun b w x => ?_, ?_, S.tokN, ?_, S.blkN, S.gl, fun m es x => (S.mp m es x).move (Gle.refl _) (fun R ho hR => hfr R hR fun hl => by
    have := (S.lit R hl).2.2
    rw [ho] at this
    cases this) (fun _ x _ => x), S.mpN⟩
  · obtain ⟨k1, k2, k3⟩ := S.lit b x
    exact ⟨k1, Nat.lt_of_lt_of_le k2 A.size, k3⟩
  · obtain ⟨k1, k2⟩ := S.own b w x
    exact ⟨k1, Nat.lt_of_lt_of_le k2 A.size⟩
  · intro t e tid x hs
    obtain ⟨y, size, vals, k1, k2, k3, k4, k5⟩ := S.tok t e tid x hs
    refine ⟨y, size, vals, k1, k2, k3, ownsRow_of_heap k4 fun B hB => hfr B (k4.lt B hB).2 ?_, k5⟩
    intro hl
    have := (S.lit B hl).2.2
    rw [(k5 B hB).1] at this
    cases this
  · intro b k x
    obtain ⟨B, o, cells, tid, k1, k2, k3, k4⟩ := S.blk b k x
    have hB := (Array.getElem?_eq_some_iff.1 k2.1).1
    refine ⟨B, o, cells, tid, k1, ⟨(hfr B hB ?_).trans k2.1, k2.2⟩, k3, k4⟩
    intro hl
    have := (S.lit B hl).2.2
    rw [k3] at this
    cases this
theorem plainA_some {x r : AV} (h : plainA x = some r) : x = r ∧ ∃ z, r.toV = some z := by
  unfold plainA at h
  split at h
  · rename_i z hz
    injection h with h; subst h
    exact ⟨rfl, z, hz⟩
  · cases h
/-- A literal's own row, and a row that may be written: they do not overlap. -/
theorem ovl_run (K : C.Ok) {f : FuncId} (hf : C.ovl f = true) (S : Sim C G H W) {xs : List AV} {x : AV} (h : ovlA xs H = some x) {vs : List Value} (rv : VRels G.g xs vs) : ∃ y, (callFunc f vs.toArray).run C.P W = .ok (.value y) W ∧ VRel G.g x y := by
  obtain ⟨fn, t, e, n, f1, f2, f3, f4, f5, f6, f7, f8⟩ := K.ovl f hf
  unfold ovlA at h
  split at h
  · rename_i y ys b g m off len
    simp only [Option.map_eq_some_iff] at h
    obtain ⟨k, hk, rfl⟩ := h
    obtain ⟨v1, l1, rfl, r1, v2, l2, rfl, r2, rfl⟩ := rv
    obtain ⟨_, a', rfl, hlit, hE⟩ := r1
    obtain ⟨b1, rfl, hl1⟩ := hlit rfl
    obtain ⟨B, o, sz, c, hb, h0, rfl, hlc, hcap, hex⟩ := r2
    obtain ⟨hk1, rfl⟩ := blkAt_val hk
    obtain ⟨B', q', cells, tid, k1, k2, k3, k4, k5, k6⟩ := S.blk b k hk1
    rw [hb] at k1
    injection k1 with k1
    injection k1 with e1 k1
    injection k1 with e2 k1
    injection k1 with e3 e4
    subst e1; subst e2; subst e3
    obtain ⟨j1, j2, j3⟩ := S.lit b1 hl1
    have hne : b1 ≠ B := by
      rintro rfl
      rw [k3] at j3
      cases j3
    have hfr : tid.2 = (0, 0) := by
      rcases k2.2.1 with h | ⟨h, _⟩
      · exact h
      · omega
    have hB : W.heap[B]? = some (.cells cells tid.1 (0, 0)) := by rw [← hfr]; exact k2.1
    have hz0 : ∀ q, W.frozen? ⟨B, q, none⟩ = false := fun q => by simp [World.frozen?, hB]
    have hshB : W.shape? B = some (tid.1, cells.size) := by simp [World.shape?, hB]
    have hcs : cells.size ≠ 0 := by
      have h2 : 1 * (m + 2) ≤ (off + c) * (m + 2) := Nat.mul_le_mul_right _ (by omega)
      have h3 := Nat.le_trans h2 (Nat.le_trans (Nat.le_add_left _ _) hcap)
      omega
    rcases hE with hE | ⟨b2, o2, es2, he2, hs2, hE⟩
    · cases hE
    injection he2 with he2
    injection he2 with q1 q2
    subst q1
    obtain ⟨⟨z, rz, hzs, hzi⟩, _⟩ := hE
    have hz1 : ∃ u, z.cells.toList[0]? = some u := ⟨z.cells[0]'(by omega), by rw [Array.getElem?_toList, Array.getElem?_eq_getElem]⟩
    obtain ⟨u, hu⟩ := hz1
    have hcell := S.im b1 o2 u (by have := (hzi 0 u hu).1; rwa [Nat.add_zero] at this)
    obtain ⟨cs1, t1, fr1, hh1⟩ : ∃ cs1 t1 fr1, W.heap[b1]? = some (.cells cs1 t1 fr1) := by
      unfold World.cell? at hcell
      split at hcell
      · rename_i cs t fr hh
        exact ⟨cs, t, fr, hh⟩
      · cases hcell
    have hcs1 : cs1.size ≠ 0 := by
      simp [World.cell?, hh1] at hcell
      have := (Array.getElem?_eq_some_iff.1 hcell).1
      omega
    have hsh1 : W.shape? b1 = some (t1, cs1.size) := by simp [World.shape?, hh1]
    refine ⟨.bool false, ?_, rfl, rfl⟩
    rw [run_callFunc_extern f1 f2 f3 f4 f5]
    have hbq : (b1 == B) = false := by simpa using hne
    have hbq2 : (b1 != B) = true := by simpa using hne
    obtain ⟨fa, hfa⟩ : ∃ fa, W.frozen? ⟨b1, 0, none⟩ = fa := ⟨_, rfl⟩
    obtain ⟨fb, hfb⟩ : ∃ fb, W.frozen? ⟨b1, cs1.size, none⟩ = fb := ⟨_, rfl⟩
    have hn1 : ¬ (n + 1 = 0) := by omega
    conv in Extern.SlicesOverlaps.overlaps _ _ _ => whnf
    cases fa <;> cases fb <;> simp [f6, run_underlying (K.tab.und _ _ f7), run_csz K.tab f8, hz0, hshB, hsh1, noView, viewAt, mayBeOne, stringish, hfa, hfb, hbq2, hbq, hcs, hcs1, hne]
  · cases h
theorem op_callR (K : C.Ok) {c : Call} {q : Operand} {o : Oper} {a : Act} {env : Env} {x : AV} (ho : o.op = .call c) (hc : c.callee = .value q) (S : Sim C G H W) (E : ERel G.g env a.tmps) {args : List AV} (h1 : avals C env c.args.toList = some args) {f : AV} (hv : aval C env q = some f)
    {call : FuncId → List AV → Option AV} (hcall : ∀ f xs r, call f xs = some r → (∃ fn, C.fns f = some fn ∧ fn.body.isSome = true) ∧ PureOk C f xs r) (h : callRA C call f args H = some x) : OpOk C.P o a W (Post C G W x H) := by
  unfold callRA at h
  split at h
  · rename_i f p s
    split at h
    · rename_i hov
      replace hov : C.ovl f = true := by
        simp only [Bool.and_eq_true] at hov
        exact hov.2
      obtain ⟨p', s', he, rp, rs⟩ := S.aval E hv
      obtain ⟨y, hy, ry⟩ := ovl_run K hov S h (vs := (p' ++ c.args.map a.eval ++ s').toList) (by
        simp only [Array.toList_append, Array.toList_map]
        exact VRels.append (VRels.append rp (S.avals E h1)) rs)
      exact OpOk.value (exec_ext ho hc he hy) (Post.here S ry)
    split at h
    · cases h
    · rw [Option.bind_eq_some_iff] at h
      obtain ⟨xs, hxs, h⟩ := h
      have main : ∀ fn r, C.P.funcs[f]? = some fn → (fn.name == "runtime.NumGoroutine") = false → fn.body.isSome = true → PureOk C f xs r → plainA r = some x → OpOk C.P o a W (Post C G W x H) := by
        intro fn r hf hn hb hp hr
        obtain ⟨rfl, z, hz⟩ := plainA_some hr
        exact op_call ho hc S E h1 hv hf hn hb fun vs rv => readCall_ok S hxs rv hp hz
      split at h
      · rename_i pr hpr
        rw [Option.bind_eq_some_iff] at h
        obtain ⟨r, h, hr⟩ := h
        rcases K.prim f pr hpr with ⟨⟨fn, hf, hn, hb⟩, hk⟩ | hk
        · exact main fn r hf hn hb (hk xs r h) hr
        · obtain ⟨rfl, z, hz⟩ := plainA_some hr
          obtain ⟨p', s', he, rp, rs⟩ := S.aval E hv
          obtain ⟨hb, rv'⟩ := thaws_rel S _ _ _ _ hxs (by
            have := VRels.append (VRels.append rp (S.avals E h1)) rs
            exact this)
          obtain ⟨y, hy, ry⟩ := hk xs r h ⟨G.given W, fun _ => none⟩ W (p' ++ c.args.map a.eval ++ s').toList (by
            simp only [Array.toList_append, Array.toList_map]
            exact rv')
          have : y = z := toV_eq _ _ _ hz ry
          exact OpOk.value (exec_ext ho hc he hy) (Post.here S (by rw [this]; exact toV_rel _ _ hz))
      · split at h
        · rw [Option.bind_eq_some_iff] at h
          obtain ⟨r, h, hr⟩ := h
          obtain ⟨⟨fn, hf, hb⟩, hk⟩ := hcall f xs r h
          obtain ⟨hf', hn⟩ := K.tab.fns f fn hf
          exact main fn r hf' hn hb hk hr
        · cases h
  · cases h

/-- A block that knows its type. -/
theorem typed_val (S : Sim C G H W) {b e : Nat} (he9 : e < 1000000000) {k : Blk} (hk : blkAt H b (e + 1) = some k) {y : Value} (r : VRel G.g (.ptr b (e + 1) 0 0) y) : True ∧ ∃ B, y = .pointer (some ⟨B, 0, none⟩) ∧ W.shape? B = some (e, k.es) := by
  obtain ⟨B, o, sz, es, hb, he⟩ := r
  obtain ⟨hk1, hg⟩ := blkAt_val hk
  obtain ⟨B', q', cells, tid, k1, k2, k3, k4, k5, k6⟩ := S.blk b k hk1
  rw [hg, hb] at k1
  injection k1 with k1
  injection k1 with e1 k1
  injection k1 with e2 k1
  subst e1; subst e2
  rcases k2.2.2.1 with h0 | ⟨h1, h2, h3⟩ | h9
  · rw [hg] at h0; cases h0
  · refine ⟨trivial, B, ?_, ?_⟩
    · rw [he, h2]; simp
    · have h4 := hg.symm.trans h1
      have : tid.1 = e := by
        have h5 : e + 1 = tid.1 + 1 := h4
        exact (Nat.succ.inj h5).symm
      simp only [World.shape?, k2.1, this, h3]
  · rw [hg] at h9
    simp only [growG] at h9
    omega

theorem op_exStr (K : C.Ok) {s d : TypeId} {p : Operand} {o : Oper} {a : Act} {env : Env} {x u : AV} (ho : o.op = .convert s d p) (S : Sim C G H W) (E : ERel G.g env a.tmps) (h1 : aval C env p = some u) (h : exStr C s d u H = some x) : OpOk C.P o a W (Post C G W x H) := by
  have T := K.tab
  have r := S.aval E h1
  unfold exStr at h
  split at h
  · rename_i b g es off len e hs hd
    split at h
    · rename_i he
      rw [Option.bind_eq_some_iff] at h
      obtain ⟨k, hk, h⟩ := h
      split at h
      · rename_i hcond
        obtain ⟨c1, c2, c3⟩ := hcond
        rw [Option.map_eq_some_iff] at h
        obtain ⟨l, hl, rfl⟩ := h
        obtain ⟨B, w, sz, c, hb, _, hv, hlc, _⟩ := r
        obtain ⟨ns, hns, hl'⟩ := bytesA_ints hl
        subst c3
        have hcells : ∀ j v, (ns.map (Value.int .u8))[j]? = some v → W.cell? ((⟨B, w + off * 1, none⟩ : Addr).add j) = some v := by
          intro j v hj
          have hj' : ((k.xs.drop off).take len)[j]? = some (.v v) := by
            rw [hns]
            rw [List.getElem?_map] at hj ⊢
            obtain ⟨n, hn, rfl⟩ := Option.map_eq_some_iff.1 hj
            rw [hn]; rfl
          have hx' : k.xs[off + j]? = some (.v v) := by
            rw [List.getElem?_take] at hj'
            split at hj'
            · rwa [List.getElem?_drop] at hj'
            · cases hj'
          obtain ⟨hk1, rfl⟩ := blkAt_val hk
          obtain ⟨B', q', cells, tid, k1, k2, k3, k4, k5, k6⟩ := S.blk b k hk1
          rw [hb] at k1
          injection k1 with k1
          injection k1 with e1 k1
          injection k1 with e2 k1
          subst e1; subst e2
          obtain ⟨z, ⟨rz, rp⟩, hzs, hz⟩ := k6 _ _ hx'
          subst rz
          rw [Addr.add_lit, cell_of_heap k2.1]
          have := (hz 0 z (by rw [plain_of_not_agg rp]; rfl)).1
          rw [c2] at this
          rw [show w + off * 1 + j = w + (off + j) * 1 + 0 by omega]
          exact this
        have hlen : ns.length = len := by
          have := congrArg List.length hns
          rw [List.length_take, List.length_drop, List.length_map] at this
          omega
        have hlc := run_loadCells_list (P := C.P) (w := W) (⟨B, w + off * 1, none⟩ : Addr) (ns.map (Value.int .u8)) hcells
        rw [List.length_map, hlen] at hlc
        refine OpOk.value (y := .string ⟨l.toArray⟩) (W' := W) ?_ (Post.here S ⟨rfl, rfl⟩)
        simp only [execOp, ho]
        refine runV ?_
        rw [hv, run_convert_bytes_string W s d e _ _ _ (T.und _ _ hs) (isU8_und T he) (T.und _ _ hd), run_bytesToString W _ _ c ns hlc, foldl_push, hl']
        congr 2
        simp [ByteArray.empty, ByteArray.emptyWithCapacity]
        rfl
      · cases h
    · cases h
  · rename_i b e t hs hd
    split at h
    · rename_i k n hk hn
      split at h
      · rename_i hc
        simp only [Bool.and_eq_true, decide_eq_true_eq] at hc
        injection h with h; subst h
        obtain ⟨_, hsh⟩ := typed_val S hc.2.1 hk r
        obtain ⟨j, hj, hjs⟩ := T.csz _ _ hn
        refine OpOk.value (y := a.eval p) (W' := W) ?_ (Post.here S r)
        simp only [execOp, ho]
        refine runV ?_
        obtain ⟨B, hpe, hshe⟩ := hsh
        rw [hpe]
        exact Lib.run_to_unsafe W ⟨B, 0, none⟩ (T.und _ _ hs) (T.und _ _ hd) hj (by rw [hjs]; omega) hshe (by have := hc.2.2.1; simpa using this)
      · cases h
    · cases h
  · rename_i b e u hs hd
    split at h
    · rename_i k n hk hn
      split at h
      · rename_i hc
        simp only [Bool.and_eq_true, decide_eq_true_eq] at hc
        obtain ⟨⟨hty, hli⟩, he9, hcs, hxl⟩ := hc
        injection h with h; subst h
        obtain ⟨_, B, hpe, hshe⟩ := typed_val S he9 hk r
        obtain ⟨j, hj, hjs⟩ := T.csz _ _ hn
        obtain ⟨je, hje, hjes⟩ := T.csz _ _ hcs
        refine OpOk.value (y := a.eval p) (W' := W) ?_ (Post.here S r)
        simp only [execOp, ho]
        refine runV ?_
        rw [hpe]
        have hce : C.P.cellsOf e = k.es := by
          simp only [Program.cellsOf, hje, Option.map_some, Option.getD_some]
          exact hjes
        refine Lib.run_from_unsafe W ⟨B, 0, none⟩ (T.und _ _ hs) (T.und _ _ hd) hj hshe ?_
        rw [hce, Nat.div_self hxl.1]
        exact K.lies e u hli
      · cases h
    · cases h
  · cases h

/-- **Operations that look at the heap.** -/
theorem opR_ok (K : C.Ok) {call : FuncId → List AV → Option AV} (hcall : ∀ f xs r, call f xs = some r → (∃ fn, C.fns f = some fn ∧ fn.body.isSome = true) ∧ PureOk C f xs r) {o : Oper} {a : Act} {env : Env} {x : AV} (S : Sim C G H W) (E : ERel G.g env a.tmps) (h : opR C call o env H = some x) : OpOk C.P o a W (Post C G W x H) := by
  have T := K.tab
  unfold opR at h
  split at h
  · rename_i t p ho
    split at h
    · rename_i b g i j hp
      simp only [Option.bind_eq_some_iff] at h
      obtain ⟨z, ⟨k, hk, hz⟩, hx⟩ := h
      exact op_load_ptr T ho S E hp hk hz hx
    · cases h
  · rename_i s d p ho
    rw [Option.bind_eq_some_iff] at h
    obtain ⟨u, hu, h⟩ := h
    exact op_exStr K ho S E hu h
  · rename_i t p q c ho
    simp only [Option.bind_eq_some_iff] at h
    obtain ⟨m, hm, k, hk, h⟩ := h
    exact op_lookup T ho S E hm hk h
  · rename_i c ho
    split at h
    · rename_i q hc
      rw [Option.bind_eq_some_iff] at h
      obtain ⟨args, h1, h⟩ := h
      rw [Option.bind_eq_some_iff] at h
      obtain ⟨f, hv, h⟩ := h
      exact op_callR K ho hc S E h1 hv hcall h
    · cases h
  · cases h
end
end Go.AM

namespace Go.AM
section
variable {C : Cfg} {G : Gs} {H : Hp} {W : World} {a : Act} {env : Env} {x : AV} {ops : Array Oper}

/-! ### One operation -/
theorem yieldA_val (E : ERel G.g env a.tmps) (j : Nat) : yieldA ops env j = yielded ops a.tmps j := by
  unfold yieldA yielded
  cases hd : (ops[j]?).bind (·.dst) with
  | none => rfl
  | some d =>
    have r := E.get d
    simp only [Option.bind_some]
    have hl : a.tmps.size = env.length := by have := VRels.length E; simpa using this
    cases ht : a.tmps[d]? with
    | none =>
      have hge : a.tmps.size ≤ d := Array.getElem?_eq_none_iff.1 ht
      have : aget env d = .undef := by unfold aget; rw [List.getD_eq_getElem?_getD, List.getElem?_eq_none (by omega)]; rfl
      rw [this]
      rfl
    | some v =>
      rw [Array.getD_eq_getD_getElem?, ht] at r
      simp only [Option.getD_some] at r
      cases hx : aget env d with
      | v y =>
        rw [hx] at r
        obtain ⟨rfl, _⟩ := r
        cases v <;> rfl
      | _ =>
        rw [hx] at r
        cases v <;> first | rfl | (simp [VRel] at r; done)

theorem wantedA_val (E : ERel G.g env a.tmps) (o : Oper) : wantedA ops o env = Region.wanted o (yielded ops a.tmps) := by
  unfold wantedA Region.wanted
  cases o.guard with
  | none => rfl
  | some p => obtain ⟨j, w⟩ := p; simp only [yieldA_val E j]

structure CallsOk (C : Cfg) (call : FuncId → List AV → Hp → Option (AV × Hp)) : Prop where
  ok : ∀ f xs H r H', call f xs H = some (r, H') → (∃ fn, C.fns f = some fn ∧ fn.body.isSome = true) ∧ CallOk C f xs H r H'

theorem ownCall_ok {call : FuncId → List AV → Hp → Option (AV × Hp)} (hc : CallsOk C call) : ∀ f xs r, ownCall call f xs = some r → (∃ fn, C.fns f = some fn ∧ fn.body.isSome = true) ∧ PureOk C f xs r := by
  intro f xs r h
  unfold ownCall at h
  split at h
  · rename_i r0 H0 h0
    obtain ⟨h1, h2⟩ := hc.ok _ _ _ _ _ h0
    exact ⟨h1, pureOk_of h2 h⟩
  · cases h

/-- **One operation of the abstract machine is one of the machine.** -/
theorem opA_ok (K : C.Ok) {call : FuncId → List AV → Hp → Option (AV × Hp)} (hc : CallsOk C call) {fid : FuncId} {o : Oper} (S : Sim C G H W) (E : ERel G.g env a.tmps) {H' : Hp} {k : Nat} (h : opA C call fid o env H = some (x, H', k)) : OpOk C.P o a W (Post C G W x H') := by
  unfold opA at h
  split at h
  · rename_i y hy
    injection h with h
    injection h with h1 h
    injection h with h2 _
    subst h1; subst h2
    exact opP_ok K (ownCall_ok hc) S E hy
  · split at h
    · rename_i y hy
      injection h with h
      injection h with h1 h
      injection h with h2 _
      subst h1; subst h2
      exact opR_ok K (ownCall_ok hc) S E hy
    · split at h
      · rename_i y H1 hy
        injection h with h
        injection h with h1 h
        injection h with h2 _
        subst h1; subst h2
        exact opW_ok K.tab hc.ok S E hy
      · cases h

/-- One operation by its number: its kind, the state behind it. -/
def stepA (C : Cfg) (call : FuncId → List AV → Hp → Option (AV × Hp)) (fid : FuncId) (ops : Array Oper) (i : Nat) (s : Env × Hp) : Option (Env × Hp × Nat) :=
  match ops[i]? with
  | none => some (s.1, s.2, 0)
  | some o =>
    if wantedA ops o s.1 then
      match opA C call fid o s.1 s.2 with
      | some (x, H', k) => some (aput s.1 o.dst x, H', k)
      | none => none
    else some (aput s.1 o.dst .undef, s.2, 0)

/-- The state of the machine is the abstract one's, gone on from a first one. -/
def At (C : Cfg) (G : Gs) (W : World) (ds : List Deferred) (env : Env) (H : Hp) (a : Act) (W' : World) : Prop := ∃ G' : Gs, Sim C G' H W' ∧ ERel G'.g env a.tmps ∧ Adv G W G' W' ∧ a.defers = ds

theorem wpOp_of_step (K : C.Ok) {call : FuncId → List AV → Hp → Option (AV × Hp)} (hc : CallsOk C call) {fid : FuncId} {i : Nat} {env' : Env} {H' : Hp} {k : Nat} (h : stepA C call fid ops i (env, H) = some (env', H', k)) {W0 : World} {ds : List Deferred} (hat : At C G W0 ds env H a W)
    {K' : Act → World → Prop} {Q : Exit → Act → World → Prop} (hK : ∀ a' W', At C G W0 ds env' H' a' W' → K' a' W') : wpOp C.P ops Q i K' a W := by
  obtain ⟨G', S, E, A, hd⟩ := hat
  unfold stepA at h
  unfold wpOp
  split at h
  · rename_i hi
    injection h with h
    injection h with h1 h
    injection h with h2 _
    subst h1; subst h2
    simp only [hi]
    exact hK _ _ ⟨G', S, E, A, hd⟩
  · rename_i o hi
    simp only [hi]
    rw [← wantedA_val E]
    split at h
    · rename_i hw
      rw [if_pos hw]
      split at h
      · rename_i y H1 k1 hop
        injection h with h
        injection h with h1 h
        injection h with h2 _
        subst h1; subst h2
        refine .inl (opA_ok K hc S E hop _ _ fun y' W' ⟨G2, r, S2, A2⟩ => hK _ _ ⟨G2, S2, ?_, A.trans A2, ?_⟩)
        · exact (E.mono A2.gle).put o.dst r
        · cases hdst : o.dst <;> simpa [Act.put, hdst] using hd
      · cases h
    · rename_i hw
      rw [if_neg hw]
      injection h with h
      injection h with h1 h
      injection h with h2 _
      subst h1; subst h2
      refine hK _ _ ⟨G', S, E.put o.dst (VRel.undef _), A, ?_⟩
      cases hdst : o.dst <;> simpa [Act.put, hdst] using hd

/-! ### In the order of the text -/
theorem opsA_list (K : C.Ok) {call : FuncId → List AV → Hp → Option (AV × Hp)} (hc : CallsOk C call) {fid : FuncId} {W0 : World} {ds : List Deferred} {Q : Exit → Act → World → Prop} : ∀ (l : List Oper) (env : Env) (H : Hp) (ks : List Nat) (env' : Env) (H' : Hp) (ks' : List Nat) (a : Act) (W : World),
    opsA C call fid ops l env H ks = some (env', H', ks') → At C G W0 ds env H a W → (∀ a' W', At C G W0 ds env' H' a' W' → Q .normal a' W') → wpList C.P ops Q l a W
  | [], env, H, ks, env', H', ks', a, W, h, hat, hQ => by
    simp only [opsA, Option.some.injEq, Prod.mk.injEq] at h
    obtain ⟨rfl, rfl, _⟩ := h
    exact hQ _ _ hat
  | o :: l, env, H, ks, env', H', ks', a, W, h, ⟨G', S, E, A, hd⟩, hQ => by
    unfold wpList
    rw [← wantedA_val E]
    unfold opsA at h
    split at h
    · rename_i hw
      rw [if_pos hw]
      split at h
      · rename_i y H1 k1 hop
        refine .inl (opA_ok K hc S E hop _ _ fun y' W' ⟨G2, r, S2, A2⟩ => opsA_list K hc l _ _ _ _ _ _ _ _ h ⟨G2, S2, (E.mono A2.gle).put o.dst r, A.trans A2, ?_⟩ hQ)
        cases hdst : o.dst <;> simpa [Act.put, hdst] using hd
      · cases h
    · rename_i hw
      rw [if_neg hw]
      refine opsA_list K hc l _ _ _ _ _ _ _ _ h ⟨G', S, E.put o.dst (VRel.undef _), A, ?_⟩ hQ
      cases hdst : o.dst <;> simpa [Act.put, hdst] using hd

/-! ### In whatever order -/
def anyA (C : Cfg) (call : FuncId → List AV → Hp → Option (AV × Hp)) (fid : FuncId) (ops : Array Oper) (κ : Nat → Nat) (Q : Env × Hp → Prop) : Nat → Array Bool → Env × Hp → Prop
  | 0, listed, s => Region.ready .any ops listed = [] ∧ Q s
  | n + 1, listed, s => (Region.ready .any ops listed = [] → Q s) ∧ ∀ i ∈ Region.ready .any ops listed, ∃ env' H', stepA C call fid ops i s = some (env', H', κ i) ∧ anyA C call fid ops κ Q n (listed.setIfInBounds i true) (env', H')

theorem wpAny_of_anyA (K : C.Ok) {call : FuncId → List AV → Hp → Option (AV × Hp)} (hc : CallsOk C call) {fid : FuncId} {κ : Nat → Nat} {W0 : World} {ds : List Deferred} {QA : Env × Hp → Prop} {Q : Exit → Act → World → Prop} (hQ : ∀ env H a W, QA (env, H) → At C G W0 ds env H a W → Q .normal a W) :
    ∀ (n : Nat) (listed : Array Bool) (env : Env) (H : Hp) (a : Act) (W : World), anyA C call fid ops κ QA n listed (env, H) → At C G W0 ds env H a W → wpAny C.P .any ops Q n listed a W
  | 0, _, _, _, _, _, h, hat => ⟨h.1, hQ _ _ _ _ h.2 hat⟩
  | n + 1, listed, env, H, a, W, h, hat => ⟨fun h0 => hQ _ _ _ _ (h.1 h0) hat, fun i hi => by
      obtain ⟨env', H', hs, hk⟩ := h.2 i hi
      exact wpOp_of_step K hc hs hat fun a' W' hat' => wpAny_of_anyA K hc hQ n _ env' H' a' W' hk hat'⟩

/-- What an operation looks at, and no more, tells what it does. -/
theorem aval_put {d : Option Tmp} {v : AV} {p : Operand} (h : ∀ t, d = some t → p ≠ .tmp t) : aval C (aput env d v) p = aval C env p := by
  cases p with
  | tmp t =>
    cases d with
    | none => rfl
    | some u =>
      have hne : u ≠ t := fun e => h u rfl (e ▸ rfl)
      simp only [AM.aval, aput, aget, List.getD_eq_getElem?_getD]
      rw [List.getElem?_set_ne hne]
  | _ => rfl
theorem avals_congr {env env' : Env} : ∀ {l : List Operand}, (∀ p ∈ l, aval C env' p = aval C env p) → avals C env' l = avals C env l
  | [], _ => rfl
  | p :: l, h => by
    simp only [avals, h p (by simp), avals_congr (l := l) fun q hq => h q (by simp [hq])]
theorem apairs_congr {env env' : Env} : ∀ {l : List (Nat × Operand)}, (∀ p ∈ l, aval C env' p.2 = aval C env p.2) → apairs C env' l = apairs C env l
  | [], _ => rfl
  | (i, p) :: l, h => by
    simp only [apairs, h (i, p) (by simp), apairs_congr (l := l) fun q hq => h q (by simp [hq])]
theorem opA_congr {call : FuncId → List AV → Hp → Option (AV × Hp)} {fid : FuncId} {o : Oper} {env env' : Env} (h : ∀ p ∈ o.op.operands, aval C env' p = aval C env p) : opA C call fid o env' H = opA C call fid o env H := by
  have hP : ∀ c, opP C c fid o env' = opP C c fid o env := by
    intro c
    obtain ⟨dst, op, type, pos, after, guard⟩ := o
    cases op
    case build t ps =>
      simp only [opP]
      rw [apairs_congr fun p hp => h p.2 (by simp only [Op.operands]; simp; exact ⟨p.1, Array.mem_toList_iff.1 hp⟩)]
    case buildSlice t n ps =>
      simp only [opP]
      rw [apairs_congr fun p hp => h p.2 (by simp only [Op.operands]; simp; exact ⟨p.1, Array.mem_toList_iff.1 hp⟩)]
    case makeFunc f p q =>
      simp only [opP]
      rw [avals_congr (l := p.toList) fun x hx => h x (by simp only [Op.operands]; simp at hx ⊢; exact .inl hx), avals_congr (l := q.toList) fun x hx => h x (by simp only [Op.operands]; simp at hx ⊢; exact .inr hx)]
    case slice t x lo hi mx =>
      simp only [opP]
      rw [h x (by simp [Op.operands]), avals_congr (l := lo.toList) fun x hx => h x (by simp only [Op.operands]; simp at hx ⊢; simp [hx]), avals_congr (l := hi.toList) fun x hx => h x (by simp only [Op.operands]; simp at hx ⊢; simp [hx]), avals_congr (l := mx.toList) fun x hx => h x (by simp only [Op.operands]; simp at hx ⊢; simp [hx])]
    case call k =>
      obtain ⟨callee, args, ts⟩ := k
      have ha : avals C env' args.toList = avals C env args.toList := avals_congr fun x hx => h x (by simp only [Op.operands, Call.operands]; simp at hx ⊢; exact .inr hx)
      cases callee with
      | value f =>
        have hf := h f (by simp [Op.operands, Call.operands])
        simp only [opP, ha, hf]
      | invoke r m => simp only [opP, ha]
      | builtin b => cases b <;> simp only [opP, ha]
    all_goals simp only [Op.operands] at h
    all_goals simp only [opP]
    all_goals try (simp only [List.mem_toArray, List.mem_cons, List.not_mem_nil, or_false, forall_eq_or_imp, forall_eq] at h; simp only [h])
  have hR : ∀ c, opR C c o env' H = opR C c o env H := by
    intro c
    obtain ⟨dst, op, type, pos, after, guard⟩ := o
    cases op
    case call k =>
      obtain ⟨callee, args, ts⟩ := k
      have ha : avals C env' args.toList = avals C env args.toList := avals_congr fun x hx => h x (by simp only [Op.operands, Call.operands]; simp at hx ⊢; exact .inr hx)
      cases callee with
      | value f =>
        have hf := h f (by simp [Op.operands, Call.operands])
        simp only [opR, ha, hf]
      | invoke r m => simp only [opR]
      | builtin b => simp only [opR]
    all_goals simp only [Op.operands] at h
    all_goals simp only [opR]
    case load t p => rw [h p (by simp)]
    case convert s t p => rw [h p (by simp)]
    case lookup t p q c => rw [h p (by simp), h q (by simp)]
  have hW : opW C call fid o env' H = opW C call fid o env H := by
    obtain ⟨dst, op, type, pos, after, guard⟩ := o
    cases op
    case call k =>
      obtain ⟨callee, args, ts⟩ := k
      have ha : avals C env' args.toList = avals C env args.toList := avals_congr fun x hx => h x (by simp only [Op.operands, Call.operands]; simp at hx ⊢; exact .inr hx)
      cases callee with
      | value f =>
        have hf := h f (by simp [Op.operands, Call.operands])
        simp only [opW, ha, hf]
      | invoke r m =>
        have hf := h r (by simp [Op.operands, Call.operands])
        simp only [opW, ha, hf]
      | builtin b => cases b <;> simp only [opW, ha]
    case box t p => simp only [opW, h p (by simp [Op.operands])]
    case store t p q => simp only [opW, h p (by simp [Op.operands]), h q (by simp [Op.operands])]
    case convert s t p => simp only [opW, h p (by simp [Op.operands])]
    case makeSlice t p q => simp only [opW, h p (by simp [Op.operands]), h q (by simp [Op.operands])]
    case makeMap t r => cases r <;> rfl
    case mapUpdate t p q s => simp only [opW, h p (by simp [Op.operands]), h q (by simp [Op.operands]), h s (by simp [Op.operands])]
    all_goals simp only [opW]
  unfold opA
  rw [hP, hR, hW]
end
end Go.AM

namespace Go.AM
section
variable {C : Cfg} {call : FuncId → List AV → Hp → Option (AV × Hp)} {fid : FuncId} {ops : Array Oper}

/-! ### What waits for what -/
theorem fold_bits {m : Region.Mode} {acc : Array Nat} {i : Nat} : ∀ (l : List Edge) (s : Nat), (l.foldl (fun s e => if Region.binds m e then s ||| 2 ^ e.on ||| acc.getD e.on 0 else s) s).testBit i = true →
    s.testBit i = true ∨ ∃ e ∈ l, Region.binds m e = true ∧ (i = e.on ∨ (acc.getD e.on 0).testBit i = true)
  | [], s, h => .inl h
  | e :: l, s, h => by
    rw [List.foldl_cons] at h
    rcases fold_bits l _ h with h | ⟨e', he', h'⟩
    · split at h
      · rename_i hb
        simp only [Nat.testBit_or, Bool.or_eq_true] at h
        rcases h with (h | h) | h
        · exact .inl h
        · refine .inr ⟨e, by simp, hb, .inl ?_⟩
          rw [Nat.testBit_two_pow] at h
          exact (of_decide_eq_true h).symm
        · exact .inr ⟨e, by simp, hb, .inr h⟩
      · exact .inl h
    · exact .inr ⟨e', by simp [he'], h'⟩

/-- What is listed has all listed that it waits for. -/
def Closed (ops : Array Oper) (listed : Array Bool) : Prop := ∀ j o, ops[j]? = some o → listed.getD j false = true → ∀ e ∈ o.after, Region.binds .any e = true → listed.getD e.on false = true

theorem before_listed {listed : Array Bool} (hc : Closed ops listed) {j i : Nat} {o : Oper} (hj : ops[j]? = some o) (hd : ∀ e ∈ o.after, Region.binds .any e = true → listed.getD e.on false = true) (hb : ((Region.before ops).getD j 0).testBit i = true) : listed.getD i false = true := by
  let f : Array Nat → Oper → Array Nat := fun acc o => acc.push (o.after.foldl (fun s e => if Region.binds .any e then s ||| 2 ^ e.on ||| acc.getD e.on 0 else s) 0)
  let Inv : Array Nat → Prop := fun acc => ∀ j, j < acc.size → ∀ o, ops[j]? = some o → ∀ i, (acc.getD j 0).testBit i = true → (∀ e ∈ o.after, Region.binds .any e = true → listed.getD e.on false = true) → listed.getD i false = true
  have key : ∀ (l : List Oper) (acc : Array Nat), (∀ k, l[k]? = ops[acc.size + k]?) → Inv acc → Inv (l.foldl f acc) := by
    intro l
    induction l with
    | nil => intro acc _ h; exact h
    | cons o l ih =>
      intro acc hl hinv
      rw [List.foldl_cons]
      have h0 : ops[acc.size]? = some o := by simpa using (hl 0).symm
      refine ih (f acc o) (fun k => by have := hl (k + 1); simp only [List.getElem?_cons_succ] at this; rw [this]; simp only [f, Array.size_push]; congr 1; omega) ?_
      intro j hj o' ho' i hb hd
      simp only [f, Array.size_push] at hj
      rcases Nat.lt_or_ge j acc.size with hlt | hge
      · refine hinv j hlt o' ho' i ?_ hd
        simp only [f, Array.getD_eq_getD_getElem?, Array.getElem?_push] at hb ⊢
        rw [if_neg (by omega)] at hb
        exact hb
      · have e : j = acc.size := by omega
        subst e
        rw [h0] at ho'
        injection ho' with ho'
        subst ho'
        simp only [f, Array.getD_eq_getD_getElem?, Array.getElem?_push, if_pos trivial, Option.getD_some] at hb
        rw [← Array.foldl_toList] at hb
        rcases fold_bits (m := .any) (acc := acc) o.after.toList 0 (by simpa [Array.getD_eq_getD_getElem?] using hb) with h | ⟨e, he, hbind, h⟩
        · simp at h
        · have he' : e ∈ o.after := Array.mem_toList_iff.1 he
          have hle := hd e he' hbind
          rcases h with rfl | h
          · exact hle
          · rcases Nat.lt_or_ge e.on acc.size with hlt | hge'
            · cases hoe : ops[e.on]? with
              | none =>
                have h1 := hl 0
                have : ops.size ≤ e.on := Array.getElem?_eq_none_iff.1 hoe
                have : acc.size < ops.size := (Array.getElem?_eq_some_iff.1 h0).1
                omega
              | some oe => exact hinv e.on hlt oe hoe i h (hc e.on oe hoe hle)
            · simp [Array.getD_eq_getD_getElem?, Array.getElem?_eq_none hge'] at h
  have hinv := key ops.toList #[] (fun k => by simp) (fun j hj => by simp at hj)
  have hbefore : Region.before ops = ops.toList.foldl f #[] := by
    unfold Region.before
    rw [← Array.foldl_toList]
  rw [hbefore] at hb
  rcases Nat.lt_or_ge j (ops.toList.foldl f #[]).size with hlt | hge
  · exact hinv j hlt o hj i hb hd
  · rw [Array.getD_eq_getD_getElem?, Array.getElem?_eq_none hge] at hb
    simp at hb

theorem Closed.set {listed : Array Bool} (hc : Closed ops listed) {i : Nat} (hi : i ∈ Region.ready .any ops listed) : Closed ops (listed.setIfInBounds i true) := by
  intro j o hj hl e he hb
  obtain ⟨_, oi, hoi, hall⟩ := mem_ready.1 hi
  by_cases hji : j = i
  · subst hji
    rw [hoi] at hj
    injection hj with hj
    subst hj
    exact getD_set_true (hall e he hb)
  · rw [getD_set_ne false (fun e => hji e.symm)] at hl
    exact getD_set_true (hc j o hj hl e he hb)

/-! ### Two operations that are apart change places -/
theorem aput_comm (env : Env) {d d' : Option Tmp} (u v : AV) (h : ∀ t, d = some t → d' ≠ some t) : aput (aput env d u) d' v = aput (aput env d' v) d u := by
  cases d with
  | none => rfl
  | some t =>
    cases d' with
    | none => rfl
    | some t' =>
      have hne : t ≠ t' := fun e => h t rfl (e ▸ rfl)
      simp only [aput]
      exact List.set_comm _ _ hne

theorem mem_looks {o : Oper} {t : Tmp} (h : t ∉ o.looksAt ops) : ∀ p ∈ o.op.operands, p ≠ .tmp t := by
  rintro p hp rfl
  exact h (List.mem_append_left _ (List.mem_filterMap.2 ⟨.tmp t, by simpa using hp, rfl⟩))

theorem opA_put {o : Oper} {d : Option Tmp} {v : AV} {env : Env} {H : Hp} (h : ∀ t, d = some t → t ∉ o.looksAt ops) : opA C call fid o (aput env d v) H = opA C call fid o env H :=
  opA_congr fun p hp => aval_put fun t ht => mem_looks (h t ht) p hp

theorem aget_put_ne {d : Option Tmp} {v : AV} {env : Env} {t : Nat} (h : d ≠ some t) : aget (aput env d v) t = aget env t := by
  cases d with
  | none => rfl
  | some u =>
    have hne : u ≠ t := fun e => h (e ▸ rfl)
    simp only [aput, aget, List.getD_eq_getElem?_getD, List.getElem?_set_ne hne]

theorem wantedA_put {o : Oper} {d : Option Tmp} {v : AV} {env : Env} (h : ∀ t, d = some t → t ∉ o.looksAt ops) : wantedA ops o (aput env d v) = wantedA ops o env := by
  unfold wantedA
  cases hg : o.guard with
  | none => rfl
  | some p =>
    obtain ⟨j, w⟩ := p
    simp only
    unfold yieldA
    cases hd : (ops[j]?).bind (·.dst) with
    | none => rfl
    | some t =>
      simp only
      rw [aget_put_ne]
      intro e
      refine h t e ?_
      unfold Oper.looksAt
      rw [hg]
      simp [hd]

theorem blkAt_ext {H H2 : Hp} {bs : List Blk} (h : H2.blks = H.blks ++ bs) {b g : Nat} {k : Blk} (hk : blkAt H b g = some k) : blkAt H2 b g = some k := by
  unfold blkAt at hk ⊢
  cases hb : H.blks[b]? with
  | none => rw [hb] at hk; cases hk
  | some k0 =>
    rw [hb] at hk
    rw [h, List.getElem?_append_left (List.getElem?_eq_some_iff.1 hb).1, hb]
    exact hk
mutual
theorem thaw_ext {H H2 : Hp} {bs : List Blk} (h : H2.blks = H.blks ++ bs) : ∀ (n : Nat) (x y : AV), AV.thaw H n x = some y → AV.thaw H2 n x = some y
  | 0, _, _, e => by cases e
  | n + 1, x, y, e => by
    cases x with
    | agg xs =>
      simp only [AV.thaw] at e ⊢
      obtain ⟨ys, hy, rfl⟩ := Option.map_eq_some_iff.1 e
      rw [thaws_ext h n xs ys hy]
      rfl
    | tup xs =>
      simp only [AV.thaw] at e ⊢
      obtain ⟨ys, hy, rfl⟩ := Option.map_eq_some_iff.1 e
      rw [thaws_ext h n xs ys hy]
      rfl
    | iface t z =>
      simp only [AV.thaw] at e ⊢
      obtain ⟨ys, hy, rfl⟩ := Option.map_eq_some_iff.1 e
      rw [thaw_ext h n z ys hy]
      rfl
    | fn f a b =>
      simp only [AV.thaw] at e ⊢
      cases ha : AV.thaws H n a with
      | none => rw [ha] at e; cases e
      | some a' =>
        cases hb : AV.thaws H n b with
        | none => rw [ha, hb] at e; cases e
        | some b' =>
          rw [ha, hb] at e
          rw [thaws_ext h n a a' ha, thaws_ext h n b b' hb]
          exact e
    | ex b g es off len =>
      simp only [AV.thaw] at e ⊢
      cases hb : blkAt H b g with
      | none => rw [hb] at e; cases e
      | some k =>
        rw [hb] at e
        rw [blkAt_ext h hb]
        simp only at e ⊢
        split at e
        · rename_i hc
          rw [if_pos hc]
          obtain ⟨ys, hy, rfl⟩ := Option.map_eq_some_iff.1 e
          rw [thaws_ext h n _ ys hy]
          rfl
        · cases e
    | ptr b g i j =>
      simp only [AV.thaw] at e ⊢
      cases hb : blkAt H b g with
      | none => rw [hb] at e; cases e
      | some k =>
        rw [hb] at e
        rw [blkAt_ext h hb]
        simp only [Option.bind_some] at e ⊢
        cases hx : k.xs[i]? with
        | none => rw [hx] at e; cases e
        | some x =>
          rw [hx] at e
          simp only at e ⊢
          obtain ⟨ys, hy, rfl⟩ := Option.map_eq_some_iff.1 e
          rw [thaw_ext h n x ys hy]
          rfl
    | v _ => simpa only [AV.thaw] using e
    | ro _ => simpa only [AV.thaw] using e
    | cl _ _ => simpa only [AV.thaw] using e
    | ap _ _ => simpa only [AV.thaw] using e
    | rp _ _ => simpa only [AV.thaw] using e
    | mp _ => simp only [AV.thaw] at e; cases e
    | sd _ _ => simp only [AV.thaw] at e; cases e
theorem thaws_ext {H H2 : Hp} {bs : List Blk} (h : H2.blks = H.blks ++ bs) : ∀ (n : Nat) (xs ys : List AV), AV.thaws H n xs = some ys → AV.thaws H2 n xs = some ys
  | 0, xs, _, e => by cases xs <;> cases e
  | n + 1, [], _, e => e
  | n + 1, x :: xs, ys, e => by
    simp only [AV.thaws] at e ⊢
    cases hx : AV.thaw H n x with
    | none => rw [hx] at e; cases e
    | some x' =>
      cases hs : AV.thaws H n xs with
      | none => rw [hx, hs] at e; cases e
      | some xs' =>
        rw [hx, hs] at e
        rw [thaw_ext h n x x' hx, thaws_ext h n xs xs' hs]
        exact e
end
theorem exStr_ext {H H2 : Hp} {bs : List Blk} (h : H2.blks = H.blks ++ bs) {s d : TypeId} {x y : AV} (e : exStr C s d x H = some y) : exStr C s d x H2 = some y := by
  unfold exStr at e ⊢
  split at e
  · rename_i b g es off len el h1 h2
    split at e
    · rename_i hu
      try simp only [h1, h2]
      rw [if_pos hu]
      obtain ⟨k, hk, e⟩ := Option.bind_eq_some_iff.1 e
      rw [blkAt_ext h hk]
      exact e
    · cases e
  · rename_i b g t h1 h2
    cases hb : blkAt H b (g + 1) with
    | none => rw [hb] at e; cases e
    | some k =>
      rw [hb] at e
      simp only [h1, h2, blkAt_ext h hb]
      exact e
  · rename_i b g u h1 h2
    cases hb : blkAt H b (g + 1) with
    | none => rw [hb] at e; cases e
    | some k =>
      rw [hb] at e
      simp only [h1, h2, blkAt_ext h hb]
      exact e
  · cases e
theorem ovlA_ext {H H2 : Hp} {bs : List Blk} (h : H2.blks = H.blks ++ bs) {xs : List AV} {y : AV} (e : ovlA xs H = some y) : ovlA xs H2 = some y := by
  unfold ovlA at e ⊢
  split at e
  · obtain ⟨k, hk, e⟩ := Option.map_eq_some_iff.1 e
    simp only [blkAt_ext h hk]
    exact congrArg some e
  · cases e
theorem lookA_ext {H H2 : Hp} (h : H2.mps = H.mps) {t : TypeId} {m k : AV} {c : Bool} {y : AV} (e : lookA C t m k c H = some y) : lookA C t m k c H2 = some y := by
  unfold lookA at e ⊢
  rw [h]
  exact e
theorem opR_ext {o : Oper} {env : Env} {H H2 : Hp} {bs : List Blk} (h : H2.blks = H.blks ++ bs) (hm : H2.mps = H.mps) {y : AV} (e : opR C (ownCall call) o env H = some y) : opR C (ownCall call) o env H2 = some y := by
  unfold opR at e ⊢
  split at e
  · split at e
    · rename_i b g i j ha
      try simp only [ha]
      obtain ⟨x, hx, e⟩ := Option.bind_eq_some_iff.1 e
      obtain ⟨k, hk, hx⟩ := Option.bind_eq_some_iff.1 hx
      rw [blkAt_ext h hk, Option.bind_some, hx]
      exact e
    · cases e
  · obtain ⟨x, hx, e⟩ := Option.bind_eq_some_iff.1 e
    rw [hx, Option.bind_some]
    exact exStr_ext h e
  · obtain ⟨m, hm1, e⟩ := Option.bind_eq_some_iff.1 e
    obtain ⟨k, hk1, e⟩ := Option.bind_eq_some_iff.1 e
    rw [hm1, Option.bind_some, hk1, Option.bind_some]
    exact lookA_ext hm e
  · split at e
    · obtain ⟨args, ha, e⟩ := Option.bind_eq_some_iff.1 e
      obtain ⟨f, hf, e⟩ := Option.bind_eq_some_iff.1 e
      rw [ha, Option.bind_some, hf, Option.bind_some]
      unfold callRA at e ⊢
      split at e
      · split at e
        · rename_i hc
          rw [if_pos hc]
          exact ovlA_ext h e
        · rename_i hc
          rw [if_neg hc]
          split at e
          · cases e
          · obtain ⟨xs, hx, e⟩ := Option.bind_eq_some_iff.1 e
            rw [thaws_ext h 1000 _ xs hx]
            exact e
      · cases e
    · cases e
  · cases e
theorem appendA_blks {e : TypeId} {s x y : AV} {H H' : Hp} (h : appendA C e s x H = some (y, H')) : H'.blks = H.blks ∧ H'.mps = H.mps := by
  unfold appendA at h
  split at h
  · split at h <;> first | (cases h; exact ⟨rfl, rfl⟩) | cases h
  · split at h
    · cases h
    · split at h
      · split at h <;> first | (cases h; exact ⟨rfl, rfl⟩) | cases h
      · split at h <;> first | (cases h; exact ⟨rfl, rfl⟩) | cases h
      · split at h <;> first | (cases h; exact ⟨rfl, rfl⟩) | cases h
      · cases h
  · cases h
theorem opW_three {o : Oper} {env : Env} {H H' : Hp} {x : AV} (h : opW C call fid o env H = some (x, H')) (hk : kindW C fid o = 3) : H'.blks = H.blks ∧ H'.mps = H.mps := by
  unfold kindW at hk
  split at hk
  · rename_i c hc
    split at hk
    · rename_i hcal
      split at hk
      · cases hk
      · rename_i hnb
        unfold opW at h
        rw [hc] at h
        simp only [hcal] at h
        split at h
        · cases h
        · split at h
          · split at h
            · split at h
              · exact appendA_blks h
              · cases h
            · cases h
          · split at h
            · split at h
              · exact appendA_blks h
              · cases h
            · cases h
          · split at h
            · rename_i hh
              exact absurd hh hnb
            · cases h
          · cases h
    · cases hk
  · cases hk
  · cases hk
theorem opW_four {o : Oper} {env : Env} {H H' : Hp} {x : AV} (h : opW C call fid o env H = some (x, H')) (hk : kindW C fid o = 4) : ∃ bs, H'.blks = H.blks ++ bs ∧ H'.mps = H.mps := by
  unfold kindW at hk
  split at hk
  · split at hk
    · split at hk <;> cases hk
    · cases hk
  · rename_i e ho
    unfold opW at h
    rw [ho] at h
    simp only at h
    obtain ⟨z, hz, h⟩ := Option.bind_eq_some_iff.1 h
    split at h
    · injection h with h
      injection h with _ h
      rw [← h]
      exact ⟨_, rfl, rfl⟩
    · cases h
  · cases hk
theorem kindW_or (o : Oper) : kindW C fid o = 2 ∨ kindW C fid o = 3 ∨ kindW C fid o = 4 := by
  unfold kindW
  repeat' split
  all_goals simp
/-- The kind of an operation says what it does to the heap. -/
theorem opA_kind {o : Oper} {env : Env} {H H' : Hp} {x : AV} {k : Nat} (h : opA C call fid o env H = some (x, H', k)) :
    (k = 0 ∧ H' = H ∧ ∀ H2, opA C call fid o env H2 = some (x, H2, 0)) ∨ (k = 1 ∧ H' = H ∧ ∀ H2 bs, H2.blks = H.blks ++ bs → H2.mps = H.mps → opA C call fid o env H2 = some (x, H2, 1)) ∨ k = 2 ∨ (k = 3 ∧ H'.blks = H.blks ∧ H'.mps = H.mps) ∨ (k = 4 ∧ ∃ bs, H'.blks = H.blks ++ bs ∧ H'.mps = H.mps) := by
  unfold opA at h
  split at h
  · rename_i y hy
    injection h with h
    injection h with h1 h
    injection h with h2 h3
    subst h1; subst h2; subst h3
    exact .inl ⟨rfl, rfl, fun H2 => by unfold opA; rw [hy]⟩
  · rename_i hP
    split at h
    · rename_i y hy
      injection h with h
      injection h with h1 h
      injection h with h2 h3
      subst h1; subst h2; subst h3
      exact .inr (.inl ⟨rfl, rfl, fun H2 bs hb hm => by unfold opA; rw [hP, opR_ext hb hm hy]⟩)
    · split at h
      · rename_i x' H1 hW
        injection h with h
        injection h with h1 h
        injection h with h2 h3
        subst h1; subst h2; subst h3
        rcases kindW_or (C := C) (fid := fid) o with hk | hk | hk
        · exact .inr (.inr (.inl hk))
        · exact .inr (.inr (.inr (.inl ⟨hk, opW_three hW hk⟩)))
        · exact .inr (.inr (.inr (.inr ⟨hk, opW_four hW hk⟩)))
      · cases h

/-- What a step is: a value for the operation's slot, a heap, a kind. -/
theorem stepA_val {i : Nat} {o : Oper} (hi : ops[i]? = some o) {s : Env × Hp} {env' : Env} {H' : Hp} {k : Nat} (h : stepA C call fid ops i s = some (env', H', k)) :
    ∃ v, env' = aput s.1 o.dst v ∧ ((k = 0 ∧ H' = s.2 ∧ ∀ env2 H2, (∀ w : Bool, w = wantedA ops o env2 → w = wantedA ops o s.1) → opA C call fid o env2 = opA C call fid o s.1 → stepA C call fid ops i (env2, H2) = some (aput env2 o.dst v, H2, 0)) ∨
      (k ≠ 0 ∧ (k = 1 → H' = s.2 ∧ ∀ env2 H2 bs, H2.blks = s.2.blks ++ bs → H2.mps = s.2.mps → (∀ w : Bool, w = wantedA ops o env2 → w = wantedA ops o s.1) → opA C call fid o env2 = opA C call fid o s.1 → stepA C call fid ops i (env2, H2) = some (aput env2 o.dst v, H2, 1)) ∧ (k = 3 → H'.blks = s.2.blks ∧ H'.mps = s.2.mps) ∧ (k = 4 → ∃ bs, H'.blks = s.2.blks ++ bs ∧ H'.mps = s.2.mps) ∧ ∀ env2, (∀ w : Bool, w = wantedA ops o env2 → w = wantedA ops o s.1) → opA C call fid o env2 = opA C call fid o s.1 → stepA C call fid ops i (env2, s.2) = some (aput env2 o.dst v, H', k))) := by
  unfold stepA at h
  simp only [hi] at h
  split at h
  · rename_i hw
    split at h
    · rename_i x H1 k1 hop
      injection h with h
      injection h with h1 h
      injection h with h2 h3
      subst h1; subst h2; subst h3
      refine ⟨x, rfl, ?_⟩
      have fin : ∀ env2, (∀ w : Bool, w = wantedA ops o env2 → w = wantedA ops o s.1) → opA C call fid o env2 = opA C call fid o s.1 → stepA C call fid ops i (env2, s.2) = some (aput env2 o.dst x, H1, k1) := fun env2 hw2 ho2 => by
        unfold stepA
        simp only [hi]
        rw [if_pos ((hw2 _ rfl).trans hw), ho2, hop]
      rcases opA_kind hop with ⟨rfl, rfl, h0⟩ | ⟨rfl, rfl, h1⟩ | rfl | ⟨rfl, hb⟩ | ⟨rfl, hb⟩
      · refine .inl ⟨rfl, rfl, fun env2 H2 hw2 ho2 => ?_⟩
        unfold stepA
        simp only [hi]
        rw [if_pos ((hw2 _ rfl).trans hw), ho2, h0]
      · refine .inr ⟨by simp, fun _ => ⟨rfl, fun env2 H2 bs hb2 hm2 hw2 ho2 => ?_⟩, fun h => by simp at h, fun h => by simp at h, fin⟩
        unfold stepA
        simp only [hi]
        rw [if_pos ((hw2 _ rfl).trans hw), ho2, h1 H2 bs hb2 hm2]
      · exact .inr ⟨by simp, fun h => by simp at h, fun h => by simp at h, fun h => by simp at h, fin⟩
      · exact .inr ⟨by simp, fun h => by simp at h, fun _ => hb, fun h => by simp at h, fin⟩
      · exact .inr ⟨by simp, fun h => by simp at h, fun h => by simp at h, fun _ => hb, fin⟩
    · cases h
  · rename_i hw
    injection h with h
    injection h with h1 h
    injection h with h2 h3
    subst h1; subst h2; subst h3
    refine ⟨.undef, rfl, .inl ⟨rfl, rfl, fun env2 H2 hw2 _ => ?_⟩⟩
    unfold stepA
    simp only [hi]
    rw [if_neg (by rw [hw2 _ rfl]; exact hw)]

theorem step_swap {i j : Nat} {oi oj : Oper} (hi : ops[i]? = some oi) (hj : ops[j]? = some oj) (hap : oi.apart ops oj = true) {s : Env × Hp} {e1 e2 : Env} {H1 H2 : Hp} {ki kj : Nat} (h1 : stepA C call fid ops i s = some (e1, H1, ki)) (h2 : stepA C call fid ops j (e1, H1) = some (e2, H2, kj)) (hk : clash ki kj = false) :
    ∃ e3 H3, stepA C call fid ops j s = some (e3, H3, kj) ∧ stepA C call fid ops i (e3, H3) = some (e2, H2, ki) := by
  obtain ⟨a1, a2, a3⟩ := Oper.apart_spec hap
  obtain ⟨v, rfl, hv⟩ := stepA_val hi h1
  obtain ⟨u, rfl, hu⟩ := stepA_val hj h2
  have wj : ∀ v (e : Env), wantedA ops oj (aput e oi.dst v) = wantedA ops oj e := fun v e => wantedA_put a1
  have oj' : ∀ v (e : Env), opA C call fid oj (aput e oi.dst v) = opA C call fid oj e := fun v e => funext fun H => opA_put a1
  have wi : ∀ v (e : Env), wantedA ops oi (aput e oj.dst v) = wantedA ops oi e := fun v e => wantedA_put a3
  have oi' : ∀ v (e : Env), opA C call fid oi (aput e oj.dst v) = opA C call fid oi e := fun v e => funext fun H => opA_put a3
  have hcomm : aput (aput s.1 oi.dst v) oj.dst u = aput (aput s.1 oj.dst u) oi.dst v := aput_comm s.1 v u a2
  rcases hv with ⟨rfl, rfl, f⟩ | ⟨hki, hk1, hk3, hk4, f⟩
  · -- the first looks at nothing
    rcases hu with ⟨rfl, rfl, g⟩ | ⟨hkj, gk1, gk3, gk4, g⟩
    · refine ⟨aput s.1 oj.dst u, s.2, g s.1 s.2 (fun w hw => by rw [hw, wj]) (oj' v s.1).symm, ?_⟩
      rw [hcomm]
      exact f _ _ (fun w hw => by rw [hw, wi]) (oi' u s.1)
    · refine ⟨aput s.1 oj.dst u, H2, g s.1 (fun w hw => by rw [hw, wj]) (oj' v s.1).symm, ?_⟩
      rw [hcomm]
      exact f _ _ (fun w hw => by rw [hw, wi]) (oi' u s.1)
  · rcases hu with ⟨rfl, rfl, g⟩ | ⟨hkj, gk1, gk3, gk4, g⟩
    · refine ⟨aput s.1 oj.dst u, s.2, g s.1 s.2 (fun w hw => by rw [hw, wj]) (oj' v s.1).symm, ?_⟩
      rw [hcomm]
      exact f _ (fun w hw => by rw [hw, wi]) (oi' u s.1)
    · have hboth : (ki = 1 ∧ kj = 1) ∨ (ki = 1 ∧ kj = 3) ∨ (ki = 3 ∧ kj = 1) ∨ (ki = 1 ∧ kj = 4) := by
        simp only [clash, Bool.not_eq_false', Bool.or_eq_true, Bool.and_eq_true, beq_iff_eq] at hk
        rcases hk with ((((h | h) | h) | h) | h) | h
        · exact absurd h hki
        · exact absurd h hkj
        · exact .inl h
        · exact .inr (.inl h)
        · exact .inr (.inr (.inl h))
        · exact .inr (.inr (.inr h))
      rcases hboth with ⟨rfl, rfl⟩ | ⟨rfl, rfl⟩ | ⟨rfl, rfl⟩ | ⟨rfl, rfl⟩
      · obtain ⟨rfl, _⟩ := hk1 rfl
        obtain ⟨rfl, _⟩ := gk1 rfl
        refine ⟨aput s.1 oj.dst u, s.2, g s.1 (fun w hw => by rw [hw, wj]) (oj' v s.1).symm, ?_⟩
        rw [hcomm]
        exact f _ (fun w hw => by rw [hw, wi]) (oi' u s.1)
      · obtain ⟨rfl, f1⟩ := hk1 rfl
        obtain ⟨hb, hb2⟩ := gk3 rfl
        refine ⟨aput s.1 oj.dst u, H2, g s.1 (fun w hw => by rw [hw, wj]) (oj' v s.1).symm, ?_⟩
        rw [hcomm]
        exact f1 _ H2 [] (by rw [hb, List.append_nil]) hb2 (fun w hw => by rw [hw, wi]) (oi' u s.1)
      · obtain ⟨rfl, g1⟩ := gk1 rfl
        obtain ⟨hb, hb2⟩ := hk3 rfl
        refine ⟨aput s.1 oj.dst u, s.2, g1 s.1 s.2 [] (by rw [List.append_nil]; exact hb.symm) hb2.symm (fun w hw => by rw [hw, wj]) (oj' v s.1).symm, ?_⟩
        rw [hcomm]
        exact f _ (fun w hw => by rw [hw, wi]) (oi' u s.1)
      · obtain ⟨rfl, f1⟩ := hk1 rfl
        obtain ⟨bs, hb, hb2⟩ := gk4 rfl
        refine ⟨aput s.1 oj.dst u, H2, g s.1 (fun w hw => by rw [hw, wj]) (oj' v s.1).symm, ?_⟩
        rw [hcomm]
        exact f1 _ H2 bs hb hb2 (fun w hw => by rw [hw, wi]) (oi' u s.1)

/-- **An operation that may come up now may be taken first.** -/
theorem anyA_first {κ : Nat → Nat} {Q : Env × Hp → Prop} {i : Nat} {oi : Oper} (hi : ops[i]? = some oi) (hord : ∀ j oj, ops[j]? = some oj → j ≠ i → clash (κ i) (κ j) = true → j < i ∨ ((Region.before ops).getD j 0).testBit i = true) :
    ∀ (fuel : Nat) (listed : Array Bool) (s : Env × Hp), Closed ops listed → (∀ j, j < i → listed.getD j true = true) →
      (∀ j oj, ops[j]? = some oj → j ≠ i → listed.getD j true = false → (∀ e ∈ oj.after, Region.binds .any e = true → e.on ≠ i) → oi.apart ops oj = true) →
      i ∈ Region.ready .any ops listed → ∀ e1 H1, stepA C call fid ops i s = some (e1, H1, κ i) →
      anyA C call fid ops κ Q fuel (listed.setIfInBounds i true) (e1, H1) → anyA C call fid ops κ Q (fuel + 1) listed s := by
  intro fuel
  induction fuel with
  | zero =>
    intro listed s _ _ _ hr e1 H1 hs HH
    refine ⟨fun h => (by rw [h] at hr; cases hr), fun j hj => ?_⟩
    by_cases hji : j = i
    · subst hji; exact ⟨e1, H1, hs, HH⟩
    · have := ready_mono hj hji
      rw [HH.1] at this
      cases this
  | succ fuel ih =>
    intro listed s hcl hlow hfree hr e1 H1 hs HH
    refine ⟨fun h => (by rw [h] at hr; cases hr), fun j hj => ?_⟩
    by_cases hji : j = i
    · subst hji; exact ⟨e1, H1, hs, HH⟩
    · obtain ⟨e2, H2, hs2, hrest⟩ := HH.2 j (ready_mono hj hji)
      obtain ⟨hjun, oj, hoj, hall⟩ := mem_ready.1 hj
      have hiun := (mem_ready.1 hr).1
      have hiun' : listed.getD i false = false := by
        rcases Nat.lt_or_ge i listed.size with h' | h'
        · rw [Array.getD_eq_getD_getElem?, Array.getElem?_eq_getElem h'] at hiun ⊢; exact hiun
        · rw [Array.getD_eq_getD_getElem?, Array.getElem?_eq_none h'] at hiun; cases hiun
      have hnot : ∀ e ∈ oj.after, Region.binds .any e = true → e.on ≠ i := fun e he hb heq => by
        have h1 := hall e he hb
        rw [heq, hiun'] at h1
        cases h1
      have hk : clash (κ i) (κ j) = false := by
        cases hk : clash (κ i) (κ j) with
        | false => rfl
        | true =>
          rcases hord j oj hoj hji hk with h | h
          · rw [hlow j h] at hjun; cases hjun
          · have := before_listed hcl hoj hall h
            rw [hiun'] at this
            cases this
      obtain ⟨e3, H3, hs3, hs4⟩ := step_swap hi hoj (hfree j oj hoj hji hjun hnot) hs hs2 hk
      have hfree' : ∀ k ok, ops[k]? = some ok → k ≠ i → (listed.setIfInBounds j true).getD k true = false →
          (∀ e ∈ ok.after, Region.binds .any e = true → e.on ≠ i) → oi.apart ops ok = true := fun k ok hk hki hun hno => by
        refine hfree k ok hk hki ?_ hno
        by_cases hjk : j = k
        · subst hjk; exact hjun
        · rw [getD_set_ne true hjk] at hun; exact hun
      refine ⟨e3, H3, hs3, ih (listed.setIfInBounds j true) (e3, H3) (hcl.set hj) (fun m hm => ?_) hfree' (ready_mono hr (Ne.symm hji)) e2 H2 hs4 ?_⟩
      · by_cases hjm : j = m
        · subst hjm; rw [hlow j hm] at hjun; cases hjun
        · rw [getD_set_ne true hjm]; exact hlow m hm
      · rw [Array.setIfInBounds_comm _ _ hji]
        exact hrest

theorem opsA_kinds : ∀ (l : List Oper) (env : Env) (H : Hp) (ks : List Nat) (env' : Env) (H' : Hp) (ks' : List Nat), opsA C call fid ops l env H ks = some (env', H', ks') → ∃ r, ks' = ks ++ r ∧ r.length = l.length
  | [], env, H, ks, env', H', ks', h => by
    simp only [opsA, Option.some.injEq, Prod.mk.injEq] at h
    exact ⟨[], by simp [h.2.2], rfl⟩
  | o :: l, env, H, ks, env', H', ks', h => by
    unfold opsA at h
    split at h
    · split at h
      · rename_i x H1 k _
        obtain ⟨r, hr, hl⟩ := opsA_kinds l _ _ _ _ _ _ h
        exact ⟨k :: r, by simp [hr], by simp [hl]⟩
      · cases h
    · obtain ⟨r, hr, hl⟩ := opsA_kinds l _ _ _ _ _ _ h
      exact ⟨0 :: r, by simp [hr], by simp [hl]⟩

theorem ordered_spec {ks : List Nat} (h : ordered ops ks = true) {i j : Nat} (hij : i < j) (hk : clash (ks.getD i 0) (ks.getD j 0) = true) : ((Region.before ops).getD j 0).testBit i = true := by
  have hj : j < ks.length := by
    rcases Nat.lt_or_ge j ks.length with h | h
    · exact h
    · rw [List.getD_eq_getElem?_getD (i := j), List.getElem?_eq_none h] at hk
      simp [clash] at hk
  unfold ordered at h
  rw [List.all_eq_true] at h
  have := h j (List.mem_range.2 hj)
  simp only [Bool.or_eq_true, List.all_eq_true] at this
  rcases this with h0 | h0
  · simp only [beq_iff_eq] at h0
    rw [h0] at hk
    simp [clash] at hk
  · rcases h0 i (List.mem_range.2 hij) with h1 | h1
    · rw [hk] at h1; simp at h1
    · exact h1

theorem anyA_lex {κ : Nat → Nat} {env' : Env} {H' : Hp} {ks' : List Nat} (hκ : ∀ i, κ i = ks'.getD i 0) (hord : ordered ops ks' = true) : ∀ (l : List Oper) (k : Nat) (listed : Array Bool) (env : Env) (H : Hp) (ks : List Nat), (∀ j, l[j]? = ops[k + j]?) → ks.length = k →
    Region.lexFrom .any ops l.length k listed = true → Closed ops listed → (∀ j, j < k → listed.getD j true = true) → opsA C call fid ops l env H ks = some (env', H', ks') → anyA C call fid ops κ (fun s => s = (env', H')) l.length listed (env, H)
  | [], k, listed, env, H, ks, _, _, hB, _, _, h => by
    simp only [opsA, Option.some.injEq, Prod.mk.injEq] at h
    obtain ⟨rfl, rfl, _⟩ := h
    exact ⟨by simpa [Region.lexFrom] using hB, rfl⟩
  | o :: l, k, listed, env, H, ks, hl, hk, hB, hcl, hlow, h => by
    have h0 : ops[k]? = some o := by simpa using (hl 0).symm
    simp only [List.length_cons, Region.lexFrom, Bool.and_eq_true] at hB
    obtain ⟨⟨hr, hf⟩, hB'⟩ := hB
    have hr' : k ∈ Region.ready .any ops listed := by simpa using hr
    have hl' : ∀ j, l[j]? = ops[k + 1 + j]? := fun j => by have := hl (j + 1); simpa [Nat.add_assoc, Nat.add_comm 1 j] using this
    have hlow' : ∀ j, j < k + 1 → (listed.setIfInBounds k true).getD j true = true := by
      intro j hj
      by_cases hjk : k = j
      · subst hjk
        simp only [Array.getD_eq_getD_getElem?]
        rcases Nat.lt_or_ge k listed.size with h' | h'
        · simp [h']
        · simp [h']
      · rw [getD_set_ne true hjk]; exact hlow j (by omega)
    have hfree := Region.free_spec h0 hf
    have fin : ∀ env1 H1 k1, stepA C call fid ops k (env, H) = some (env1, H1, k1) → opsA C call fid ops l env1 H1 (ks ++ [k1]) = some (env', H', ks') → anyA C call fid ops κ (fun s => s = (env', H')) (l.length + 1) listed (env, H) := by
      intro env1 H1 k1 hs hrest
      have hk1 : κ k = k1 := by
        obtain ⟨r, hr, _⟩ := opsA_kinds l _ _ _ _ _ _ hrest
        rw [hκ, hr, List.getD_eq_getElem?_getD, List.getElem?_append_left (by simp [hk]), List.getElem?_append_right (by omega)]
        simp [hk]
      refine anyA_first h0 (fun j oj hj hji hc => ?_) l.length listed (env, H) hcl hlow hfree hr' env1 H1 (by rw [hk1]; exact hs) (anyA_lex hκ hord l (k + 1) _ env1 H1 (ks ++ [k1]) hl' (by simp [hk]) hB' (hcl.set hr') hlow' hrest)
      rcases Nat.lt_or_ge j k with h | h
      · exact .inl h
      · refine .inr (ordered_spec hord (by omega) ?_)
        rw [← hκ, ← hκ]
        exact hc
    unfold opsA at h
    split at h
    · rename_i hw
      split at h
      · rename_i x H1 k1 hop
        exact fin _ _ _ (by unfold stepA; simp only [h0]; rw [if_pos hw, hop]) h
      · cases h
    · rename_i hw
      exact fin _ _ _ (by unfold stepA; simp only [h0]; rw [if_neg hw]) h

/-- **A region.** -/
theorem region_ok (K : C.Ok) (hm : C.P.follows .mixedOrders = true) (hc : CallsOk C call) {G : Gs} {W0 W : World} {ds : List Deferred} {a : Act} {env env' : Env} {H H' : Hp} {ks : List Nat} {id : Nat} {draw : Bool} {Q : Exit → Act → World → Prop}
    (h : opsA C call fid ops ops.toList env H [] = some (env', H', ks)) (hd : draw = true → Region.lexB .any ops = true ∧ ordered ops ks = true) (hat : At C G W0 ds env H a W) (hQ : ∀ a' W', At C G W0 ds env' H' a' W' → Q .normal a' W') : (Code.region id ops draw).wp C.P Q a W := by
  cases draw with
  | false => exact wp_region_list (opsA_list K hc ops.toList env H [] env' H' ks a W h hat hQ)
  | true =>
    obtain ⟨hB, ho⟩ := hd rfl
    simp only [Region.lexB, Bool.and_eq_true] at hB
    have hany := anyA_lex (κ := fun i => ks.getD i 0) (fun _ => rfl) ho ops.toList 0 (Array.replicate ops.size false) env H [] (by simp) rfl (by simpa using hB.2) (by
      intro j o hj hl
      rw [Array.getD_eq_getD_getElem?] at hl
      rcases Nat.lt_or_ge j ops.size with h' | h'
      · simp [h'] at hl
      · simp [h'] at hl) (fun j hj => by omega) h
    refine wp_region_any hm ?_
    have hat' : At C G W0 ds env H a W.drew := by
      obtain ⟨G', S, E, A, hd⟩ := hat
      exact ⟨G', S.drew, E, A.trans (Adv.drew G' W), hd⟩
    simpa using wpAny_of_anyA K hc (QA := fun s => s = (env', H')) (fun env1 H1 a1 W1 he hat1 => by
      injection he with h1 h2
      subst h1; subst h2
      exact hQ a1 W1 hat1) ops.toList.length (Array.replicate ops.size false) env H a W.drew hany hat'
end
end Go.AM

namespace Go.AM
section
variable {C : Cfg} {call : FuncId → List AV → Hp → Option (AV × Hp)} {fid : FuncId}

def Xit.toExit : Xit → Exit
  | .normal => .normal
  | .ret => .ret
  | .exit i => .exit i

theorem exec_ok (K : C.Ok) (hc : CallsOk C call) {G : Gs} {W0 : World} {ds : List Deferred} : ∀ (n : Nat),
    (∀ (c : Code) (env : Env) (H : Hp) (x : Xit) (env' : Env) (H' : Hp) (a : Act) (W : World) (Q : Exit → Act → World → Prop), exec C fid call n c env H = some (x, env', H') → regionsOk c = true → At C G W0 ds env H a W →
      (∀ a' W', At C G W0 ds env' H' a' W' → Q x.toExit a' W') → c.wp C.P Q a W) ∧
    (∀ (b : Code) (env : Env) (H : Hp) (x : Xit) (env' : Env) (H' : Hp) (a : Act) (W : World) (Q : Exit → Act → World → Prop), exec C fid call n (.loop b) env H = some (x, env', H') → regionsOk b = true → At C G W0 ds env H a W →
      (∀ a' W', At C G W0 ds env' H' a' W' → Q x.toExit a' W') → Code.rounds C.P b Q n a W)
  | 0 => ⟨fun _ _ _ _ _ _ _ _ _ h => by simp [exec] at h, fun _ _ _ _ _ _ _ _ _ h => by simp [exec] at h⟩
  | n + 1 => by
    obtain ⟨ihA, ihB⟩ := exec_ok K hc n
    have hB : ∀ (b : Code) (env : Env) (H : Hp) (x : Xit) (env' : Env) (H' : Hp) (a : Act) (W : World) (Q : Exit → Act → World → Prop), exec C fid call (n + 1) (.loop b) env H = some (x, env', H') → regionsOk b = true → At C G W0 ds env H a W →
        (∀ a' W', At C G W0 ds env' H' a' W' → Q x.toExit a' W') → Code.rounds C.P b Q (n + 1) a W := by
      intro b env H x env' H' a W Q h hr hat hQ
      simp only [exec] at h
      rw [rounds_succ]
      split at h
      · rename_i env1 H1 h1
        exact ihA b env H .normal env1 H1 a W _ h1 hr hat fun a' W' hat' => ihB b env1 H1 x env' H' a' W' Q h hr hat' hQ
      · rename_i hne
        refine ihA b env H x env' H' a W _ h hr hat fun a' W' hat' => ?_
        cases x with
        | normal => exact absurd h (hne _ _)
        | ret => exact hQ a' W' hat'
        | exit i => exact hQ a' W' hat'
    refine ⟨fun c env H x env' H' a W Q h hr hat hQ => ?_, hB⟩
    cases c with
    | skip =>
      simp only [exec, Option.some.injEq, Prod.mk.injEq] at h
      obtain ⟨rfl, rfl, rfl⟩ := h
      exact wp_skip (hQ a W hat)
    | region id ops draw =>
      simp only [exec] at h
      split at h
      · rename_i env1 H1 ks h1
        split at h
        · rename_i hd
          simp only [Option.some.injEq, Prod.mk.injEq] at h
          obtain ⟨rfl, rfl, rfl⟩ := h
          refine region_ok K K.mixed hc h1 (fun hdr => ?_) hat hQ
          subst hdr
          simp only [regionsOk, Bool.not_true, Bool.false_or] at hr hd
          exact ⟨hr, hd⟩
        · cases h
      · cases h
    | seq c1 c2 =>
      simp only [regionsOk, Bool.and_eq_true] at hr
      simp only [exec] at h
      split at h
      · rename_i env1 H1 h1
        exact wp_seq (ihA c1 env H .normal env1 H1 a W _ h1 hr.1 hat fun a' W' hat' => ihA c2 env1 H1 x env' H' a' W' Q h hr.2 hat' hQ)
      · rename_i hne
        refine wp_seq (ihA c1 env H x env' H' a W _ h hr.1 hat fun a' W' hat' => ?_)
        cases x with
        | normal => exact absurd h (hne _ _)
        | ret => exact hQ a' W' hat'
        | exit i => exact hQ a' W' hat'
    | cond p c1 c2 =>
      simp only [regionsOk, Bool.and_eq_true] at hr
      simp only [exec] at h
      split at h
      · rename_i t ht
        obtain ⟨G', S, E, A, hd⟩ := hat
        have hv : a.eval p = .bool t := (S.aval E ht).1
        refine wp_cond hv ?_
        cases t
        · exact ihA c2 env H x env' H' a W Q h hr.2 ⟨G', S, E, A, hd⟩ hQ
        · exact ihA c1 env H x env' H' a W Q h hr.1 ⟨G', S, E, A, hd⟩ hQ
      · cases h
    | block id b =>
      simp only [regionsOk] at hr
      simp only [exec] at h
      split at h
      · rename_i i env1 H1 h1
        simp only [Option.some.injEq, Prod.mk.injEq] at h
        obtain ⟨rfl, rfl, rfl⟩ := h
        refine wp_block (ihA b env H (.exit i) env1 H1 a W _ h1 hr hat fun a' W' hat' => ?_)
        show if i = id then Q .normal a' W' else Q (.exit i) a' W'
        split
        · rename_i he; rw [if_pos he] at hQ; exact hQ a' W' hat'
        · rename_i he; rw [if_neg he] at hQ; exact hQ a' W' hat'
      · rename_i hne
        refine wp_block (ihA b env H x env' H' a W _ h hr hat fun a' W' hat' => ?_)
        cases x with
        | normal => exact hQ a' W' hat'
        | ret => exact hQ a' W' hat'
        | exit i => exact absurd h (hne _ _ _)
    | loop b =>
      simp only [regionsOk] at hr
      exact wp_loop_rounds (n + 1) (hB b env H x env' H' a W Q h hr hat hQ)
    | exit i =>
      simp only [exec, Option.some.injEq, Prod.mk.injEq] at h
      obtain ⟨rfl, rfl, rfl⟩ := h
      exact wp_exit (hQ a W hat)
    | ret =>
      simp only [exec, Option.some.injEq, Prod.mk.injEq] at h
      obtain ⟨rfl, rfl, rfl⟩ := h
      exact wp_ret (hQ a W hat)
    | _ => simp [exec] at h

/-- A result. -/
def resS (tmps : Array Value) : ResultVar → Sem Value
  | .tmp t => pure (tmps.getD t Go.undef)
  | .cell a t => do loadVar t (← asAddr (tmps.getD a Go.undef))
theorem resA1_ok (T : C.Tables) {G : Gs} {H : Hp} {W : World} (S : Sim C G H W) {env : Env} {tmps : Array Value} (E : ERel G.g env tmps) {r : ResultVar} {x : AV} (h : resA1 C env H r = some x) :
    ∃ y, (resS tmps r).run C.P W = .ok y W ∧ VRel G.g x y := by
  unfold resA1 at h
  split at h
  · rename_i t
    injection h with h
    subst h
    exact ⟨_, rfl, E.get t⟩
  · rename_i p t
    have r := E.get p
    split at h
    · rename_i z j hz
      rw [hz] at r
      obtain ⟨_, b, o', w, he, rz, hi⟩ := r
      obtain ⟨y, hy, ry⟩ := run_loadA T h rz.cells (W := W) (b := b) (o := o') (fun j v hj => S.im _ _ _ (hi j v hj).1)
      refine ⟨y, ?_, ry⟩
      simp only [resS, he, Sem.run_bind, asAddr, Sem.run_pure, Result.andThen_ok, hy]
    · rename_i b g i j hz
      rw [hz] at r
      simp only [Option.bind_eq_some_iff] at h
      obtain ⟨z, ⟨k, hk, hz'⟩, hx⟩ := h
      obtain ⟨B, q, sz, es, hb, he⟩ := r
      obtain ⟨hk1, rfl⟩ := blkAt_val hk
      obtain ⟨B', q', cells, tid, k1, k2, k3, k4, k5, k6⟩ := S.blk b k hk1
      rw [hb] at k1
      injection k1 with k1
      injection k1 with e1 k1
      injection k1 with e2 k1
      injection k1 with e3 e4
      subst e1; subst e2; subst e4
      obtain ⟨w, rw', hws, hw⟩ := k6 i z hz'
      obtain ⟨y, hy, ry⟩ := run_loadA T hx rw'.cells (W := W) (b := B) (o := q + i * k.es) (fun j v hj => by
        rw [cell_of_heap k2.1]
        exact (hw j v (by simpa using hj)).1)
      refine ⟨y, ?_, ry⟩
      simp only [resS, he, Sem.run_bind, asAddr, Sem.run_pure, Result.andThen_ok, hy]
    · cases h

theorem resA_ok (T : C.Tables) {G : Gs} {H : Hp} {W : World} (S : Sim C G H W) {env : Env} {tmps : Array Value} (E : ERel G.g env tmps) : ∀ {rs : List ResultVar} {xs : List AV}, resA C env H rs = some xs →
    ∃ ys, (rs.mapM (resS tmps)).run C.P W = .ok ys W ∧ VRels G.g xs ys
  | [], _, h => by simp only [resA, Option.some.injEq] at h; subst h; exact ⟨[], rfl, rfl⟩
  | r :: rs, _, h => by
    simp only [resA] at h
    split at h
    · rename_i x xs h1 h2
      injection h with h
      subst h
      obtain ⟨y, hy, ry⟩ := resA1_ok T S E h1
      obtain ⟨ys, hys, rys⟩ := resA_ok T S E h2
      refine ⟨y :: ys, ?_, y, ys, rfl, ry, rys⟩
      rw [List.mapM_cons, Sem.run_bind]
      rw [hy]
      simp only [Result.andThen_ok, Sem.run_bind, hys, Sem.run_pure]
    · cases h

theorem results_ok (T : C.Tables) {G : Gs} {H : Hp} {W : World} (S : Sim C G H W) {env : Env} {tmps : Array Value} (E : ERel G.g env tmps) {fn : Func} {xs : List AV} (h : resA C env H fn.results.toList = some xs) :
    ∃ y, (results fn tmps).run C.P W = .ok y W ∧ VRel G.g (resVal xs) y := by
  obtain ⟨ys, hys, r⟩ := resA_ok T S E h
  have hres : results fn tmps = (do let vs ← fn.results.mapM (resS tmps); pure (if h : vs.size = 1 then vs[0] else .tuple vs)) := rfl
  rw [hres, Sem.run_bind, Array.mapM_eq_mapM_toList, Sem.run_map, hys]
  simp only [Result.andThen_ok, Sem.run_pure]
  have hl := VRels.length r
  refine ⟨_, rfl, ?_⟩
  unfold resVal
  split
  · rename_i x
    obtain ⟨y, l, rfl, ry, e⟩ := r
    obtain rfl : l = [] := e
    simpa using ry
  · rename_i hne
    rw [dif_neg]
    · exact ⟨_, rfl, by simpa using r⟩
    · intro h1
      simp only [List.size_toArray] at h1
      match xs, hl, hne with
      | [x], _, hne => exact hne x rfl
      | [], hl, _ => rw [h1] at hl; cases hl
      | _ :: _ :: _, hl, _ => rw [h1] at hl; simp at hl

/-- **Every call of the abstract machine is one of the machine.** -/
theorem callA_ok (K : C.Ok) : ∀ n, CallsOk C (callA C n)
  | 0 => ⟨fun _ _ _ _ _ h => by simp [callA] at h⟩
  | n + 1 => by
    refine ⟨fun f xs H r H' h => ?_⟩
    simp only [callA] at h
    split at h
    · cases h
    · rename_i fn hfn
      split at h
      · cases h
      · rename_i body hb
        refine ⟨⟨fn, hfn, by simp [hb]⟩, fun G W vs S rv => ?_⟩
        obtain ⟨hf, _⟩ := K.tab.fns f fn hfn
        have main : ∀ x env' H1 res, exec C f (callA C n) n body (xs ++ List.replicate (fn.ntmps - xs.length) .undef) H = some (x, env', H1) → (x = .normal ∨ x = .ret) → resA C env' H1 fn.results.toList = some res →
            resVal res = r → H1 = H' → Calls C.P f vs.toArray W fun e W' => ∃ y, e = .returned y ∧ Post C G W r H' y W' := by
          rintro x env' H1 res hex hx hres rfl rfl
          have hlen := VRels.length rv
          have hat : At C G W [] (xs ++ List.replicate (fn.ntmps - xs.length) .undef) H { tmps := vs.toArray ++ Array.replicate (fn.ntmps - vs.toArray.size) Go.undef, defers := [] } W := by
            refine ⟨G, S, ?_, Adv.refl G W, rfl⟩
            unfold ERel
            simp only [Array.toList_append, Array.toList_replicate, List.size_toArray, hlen]
            exact VRels.append rv (VRels.replicate (VRel.undef _) _)
          refine calls_of_wp hf hb ((exec_ok K (callA_ok K n) n).1 body _ H x env' H1 _ W _ hex (K.regions f fn body hfn hb) hat fun a' W' hat' => ?_)
          obtain ⟨G', S', E', A', hd⟩ := hat'
          obtain ⟨y, hy, ry⟩ := results_ok K.tab S' E' hres
          rcases hx with rfl | rfl
          · exact ⟨hd, y, hy, y, rfl, G', ry, S', A'⟩
          · exact ⟨hd, y, hy, y, rfl, G', ry, S', A'⟩
        split at h
        · rename_i env' H1 hex
          split at h
          · rename_i xs' hres
            simp only [Option.some.injEq, Prod.mk.injEq] at h
            exact main _ _ _ _ hex (.inl rfl) hres h.1 h.2
          · cases h
        · rename_i env' H1 hex
          split at h
          · rename_i xs' hres
            simp only [Option.some.injEq, Prod.mk.injEq] at h
            exact main _ _ _ _ hex (.inr rfl) hres h.1 h.2
          · cases h
        · cases h
end
end Go.AM
