/-
  Rows: slices of the call's own, whatever their capacity is beside what their block holds; append, copy and make of them. No program in sight.
-/
import Derived.Test.YtfcfbfingnpnoaaMem
import Derived.ArgAppend
import Derived.Laws.CopyRow
import Derived.Laws.CopyOwn
import Derived.OwnWalk
import Derived.Deep.OwnRows
import Derived.Laws.MakeOwn
set_option linter.unusedVariables false
set_option linter.unusedSimpArgs false
namespace Go.Proofs.Ytfcfbfingnpnoaa
open Go.RowKit

theorem Blk.setRow {w : World} {b : Nat} {c : Array Value} {T : TypeId} (h : Blk w b c T) (c' : Array Value) : Blk (w.setRow b c') b c' T := setRow_heap w b c c' T _ h
theorem Blk.setRow_oth {w : World} {b b' : Nat} {c c' : Array Value} {T : TypeId} (h : Blk w b c T) (hne : b ≠ b') : Blk (w.setRow b' c') b c T := (setRow_other w b' b c' hne).trans h
theorem blk_of_setRow {w : World} {g : Nat} {r : Array Value} {k : Nat} {c : Array Value} {T : TypeId} (h : Blk (w.setRow g r) k c T) : ∃ c', Blk w k c' T := by
  unfold Blk at h
  simp only [World.setRow, Array.getElem?_modify] at h
  by_cases hk : g = k
  · rw [if_pos hk] at h
    cases hh : w.heap[k]? with
    | none => rw [hh] at h; simp at h
    | some o =>
      rw [hh] at h
      cases o <;> simp at h
      obtain ⟨_, h2, h3⟩ := h
      exact ⟨_, by unfold Blk; rw [hh, h2, h3]⟩
  · rw [if_neg hk] at h
    exact ⟨c, h⟩
theorem Kp.setRow {S : Nat → Prop} {a w : World} (h : Kp S a w) {g : Nat} (hp : g < a.heap.size → S g) (r : Array Value) : Kp S a (w.setRow g r) :=
  ⟨h.os, h.tape, h.output, by simpa [World.setRow] using h.size, fun i hi hn => (setRow_other w g i r (fun e => hn (by rw [e]; exact hp (e ▸ hi)))).trans (h.block i hi hn)⟩
theorem KT.setRow {B : Nat} {Ts : List TypeId} {a w : World} (h : KT B Ts a w) {b : Nat} {c : Array Value} {T : TypeId} (hb : Blk w b c T) (hT : T ∈ Ts) (hB : B ≤ b) (r : Array Value) : KT B Ts a (w.setRow b r) :=
  ⟨h.kp.setRow (fun hlt => by
      obtain ⟨c2, h2⟩ := h.typed b c T hlt hb
      exact ⟨hB, c2, T, h2, hT⟩) r,
    fun i c T hi hb => by
      obtain ⟨c', h'⟩ := blk_of_setRow hb
      exact h.typed i c' T hi h'⟩
theorem KT.of_none {w w' : World} (h : w.grownBy w' none) (B : Nat) (Ts : List TypeId) : KT B Ts w w' :=
  ⟨⟨h.os, h.tape, h.output, h.size, fun k hk _ => h.block k hk (by simp)⟩, fun k c T hk hb => ⟨c, by unfold Blk at hb ⊢; rw [← h.block k hk (by simp)]; exact hb⟩⟩
theorem KT.of_below {w w' : World} (h : Below w.heap.size w w') (B : Nat) (Ts : List TypeId) : KT B Ts w w' :=
  ⟨⟨h.os, h.tape, h.output, h.size, fun k hk _ => h.block k hk⟩, fun k c T hk hb => ⟨c, by unfold Blk at hb ⊢; rw [← h.block k hk]; exact hb⟩⟩
theorem KT.oth {B : Nat} {Ts : List TypeId} {w w' : World} (h : KT B Ts w w') {b : Nat} {c : Array Value} {T : TypeId} (hb : Blk w b c T) (hB : b < B) : Blk w' b c T := h.kp.blk hb (fun hs => absurd hs.1 (Nat.not_le.2 hB))

/-- One block alone has turned, and no type. -/
structure Only (g : Nat) (w w' : World) : Prop where
  kp : Kp (fun k => k = g) w w'
  typed : ∀ k c T, Blk w' k c T → ∃ c', Blk w k c' T
theorem Only.setRow (w : World) (g : Nat) (r : Array Value) : Only g w (w.setRow g r) := ⟨(Kp.refl (fun k => k = g) w).setRow (fun _ => rfl) r, fun _ _ _ h => blk_of_setRow h⟩
theorem Only.blk {g : Nat} {w w' : World} (h : Only g w w') {b : Nat} {c : Array Value} {T : TypeId} (hb : Blk w b c T) (hne : b ≠ g) : Blk w' b c T := h.kp.blk hb hne
theorem Only.below {g : Nat} {w w' : World} (h : Only g w w') {B : Nat} (hB : B ≤ w.heap.size) (hg : B ≤ g) : Below B w w' := h.kp.below hB (fun k hk => by omega)
theorem KT.only {B : Nat} {Ts : List TypeId} {a w w' : World} (h : KT B Ts a w) {g : Nat} (ho : Only g w w') {c : Array Value} {T : TypeId} (hb : Blk w g c T) (hg : a.heap.size ≤ g ∨ T ∈ Ts ∧ B ≤ g) : KT B Ts a w' :=
  ⟨h.kp.trans ho.kp (fun i hi e => by
      subst e
      rcases hg with hg | ⟨hT, hB⟩
      · exact absurd hi (Nat.not_lt.2 hg)
      · obtain ⟨c2, h2⟩ := h.typed i c T hi hb
        exact ⟨hB, c2, T, h2, hT⟩),
    fun k c1 T1 hk h1 => by
      obtain ⟨c2, h2⟩ := ho.typed k c1 T1 h1
      exact h.typed k c2 T1 hk h2⟩

/-- A slice of the call's own: from block B on, elements of type e that take sz cells each, n of them, the cells xs. -/
def Row (w : World) (B : Nat) (e : TypeId) (sz : Nat) (v : Value) (n : Nat) (xs : List Value) : Prop :=
  xs.length = n * sz ∧ ((v = .slice none 0 0 ∧ n = 0) ∨
    ∃ g cap cur, v = .slice (some ⟨g, 0, none⟩) n cap ∧ B ≤ g ∧ Blk w g cur e ∧ n ≤ cap ∧ cap ≤ maxLen ∧ cap * sz ≤ cur.size ∧ cur.toList.take (n * sz) = xs)
theorem Row.nil (w : World) (B : Nat) (e : TypeId) (sz : Nat) : Row w B e sz (.slice none 0 0) 0 [] := ⟨by simp, .inl ⟨rfl, rfl⟩⟩
theorem Row.of_owns {w : World} {B : Nat} {e : TypeId} {sz : Nat} {v : Value} {n : Nat} {xs : List Value} (h : w.ownsRow B e sz v n xs) : Row w B e sz v n xs := by
  obtain ⟨h1, h2⟩ := h
  refine ⟨h1, ?_⟩
  rcases h2 with h2 | ⟨g, cap, cur, hv, hg, hh, h3, h4, h5, h6⟩
  · exact .inl h2
  · exact .inr ⟨g, cap, cur, hv, hg, hh, h3, h4, by omega, h6⟩
theorem Row.mono {w : World} {B B' : Nat} {e : TypeId} {sz : Nat} {v : Value} {n : Nat} {xs : List Value} (h : Row w B e sz v n xs) (hB : B' ≤ B) : Row w B' e sz v n xs := by
  obtain ⟨h1, h2⟩ := h
  refine ⟨h1, ?_⟩
  rcases h2 with h2 | ⟨g, cap, cur, hv, hg, r⟩
  · exact .inl h2
  · exact .inr ⟨g, cap, cur, hv, Nat.le_trans hB hg, r⟩
/-- What keeps the block keeps the row. -/
theorem Row.keep {w w' : World} {B : Nat} {e : TypeId} {sz : Nat} {v : Value} {n : Nat} {xs : List Value} (h : Row w B e sz v n xs) (hk : ∀ g c, v.ownBlock = some g → Blk w g c e → Blk w' g c e) : Row w' B e sz v n xs := by
  obtain ⟨h1, h2⟩ := h
  refine ⟨h1, ?_⟩
  rcases h2 with h2 | ⟨g, cap, cur, hv, hg, hh, r⟩
  · exact .inl h2
  · exact .inr ⟨g, cap, cur, hv, hg, hk g cur (by rw [hv]; rfl) hh, r⟩
theorem Row.kt {w w' : World} {B B' : Nat} {Ts : List TypeId} {e : TypeId} {sz : Nat} {v : Value} {n : Nat} {xs : List Value} (h : Row w B e sz v n xs) (hk : KT B' Ts w w') (hT : e ∉ Ts) : Row w' B e sz v n xs := h.keep fun _ _ _ hb => hk.blk hb hT
theorem Row.below {w w' : World} {B : Nat} {e : TypeId} {sz : Nat} {v : Value} {n : Nat} {xs : List Value} (h : Row w B e sz v n xs) (hk : Below w.heap.size w w') : Row w' B e sz v n xs := h.keep fun _ _ _ hb => hb.below hk hb.lt
theorem Row.slice {w : World} {B : Nat} {e : TypeId} {sz : Nat} {v : Value} {n : Nat} {xs : List Value} (h : Row w B e sz v n xs) : ∃ A c, v = .slice A n c ∧ n ≤ c ∧ c ≤ maxLen := by
  rcases h.2 with ⟨rfl, rfl⟩ | ⟨g, cap, cur, rfl, _, _, h1, h2, _⟩
  · exact ⟨none, 0, rfl, Nat.le_refl _, Nat.zero_le _⟩
  · exact ⟨_, cap, rfl, h1, h2⟩
/-- .. with an element: the block. -/
theorem Row.at_pos {w : World} {B : Nat} {e : TypeId} {sz : Nat} {v : Value} {n : Nat} {xs : List Value} (h : Row w B e sz v n xs) (hn : 0 < n) :
    ∃ g cap cur, v = .slice (some ⟨g, 0, none⟩) n cap ∧ B ≤ g ∧ Blk w g cur e ∧ n ≤ cap ∧ cap ≤ maxLen ∧ cap * sz ≤ cur.size ∧ cur.toList.take (n * sz) = xs := by
  rcases h.2 with ⟨_, rfl⟩ | h
  · exact absurd hn (Nat.lt_irrefl _)
  · exact h
theorem row_cell {w : World} {g : Nat} {cur : Array Value} {e : TypeId} {m : Nat} {xs : List Value} (hb : Blk w g cur e) (hx : cur.toList.take m = xs) (j : Nat) {v : Value} (hv : xs[j]? = some v) : w.cell? ⟨g, j, none⟩ = some v := by
  refine hb.cell j ?_
  subst hx
  rw [List.getElem?_take] at hv
  split at hv
  · simpa using hv
  · cases hv


section
variable {P : Program}

/-- append to a row of the call's own: SOME value, in SOME world, the row's own block alone turned. -/
theorem run_append_any (w : World) (t ty e : TypeId) (i : TypeInfo) (z : Value) (size bytes : Nat) (ht : P.underlying t = some (.slice e)) (hi : P.info? e = some i) (hz : i.zero = some z)
    (hsize : i.size = size) (hby : i.bytes = bytes) (hzs : z.cells.size = size) (hsz : 0 < size) (B : Nat)
    (v : Value) (n : Nat) (xs : List Value) (hrow : Row w B e size v n xs)
    (a : Addr) (m c : Nat) (news : List Value) (hl : news.length = m * size) (hnews : ∀ j u, news[j]? = some u → w.cell? (a.add j) = some u) (h1 : ∀ u ∈ news, u.oneCell' = true)
    (h63 : n + m ≤ maxLen) (hbytes : (n + m) * bytes ≤ 140737488355328) (hbase : B ≤ w.heap.size) :
    ∃ v' w', (Builtin.append_ #[t, t] ty #[v, .slice (some a) m c]).run P w = .ok v' w' ∧ Row w' B e size v' (n + m) (xs ++ news) ∧ w.grownBy w' v.ownBlock ∧ KT B [e] w w' ∧ (∀ g, v'.ownBlock = some g → v.ownBlock = some g ∨ w.heap.size ≤ g) := by
  obtain ⟨hxl, hv⟩ := hrow
  rcases hv with ⟨rfl, rfl⟩ | ⟨g, cap, cur, rfl, hg, hb, hnc, hcm, hcs, hx⟩
  · have hxs : xs = [] := List.eq_nil_of_length_eq_zero (by simpa using hxl)
    subst hxs
    obtain ⟨v', w', hrun, r1, r2, _⟩ := run_append_own (P := P) w w.heap.size t ty e i z size bytes ht hi hz hsize hby hzs hsz (.slice none 0 0) 0 [] (World.ownsRow_nil w _ e size) a m c news hl hnews h1 h63 hbytes (Nat.le_refl _)
    refine ⟨v', w', hrun, (Row.of_owns r1).mono hbase, r2, KT.of_none r2 _ _, fun g hg => .inr ?_⟩
    rcases r1.2 with ⟨rfl, _⟩ | ⟨g', cap, cur, rfl, hb, _⟩
    · simp [Value.ownBlock] at hg
    · have : g' = g := by simpa [Value.ownBlock] using hg
      omega
  · by_cases hroom : n + m ≤ cap
    · subst hsize
      have hfit : n * i.size + news.length ≤ cur.size := by
        have := Nat.mul_le_mul_right i.size hroom
        rw [Nat.add_mul] at this
        omega
      have hr := run_append_room (P := P) w t ty e i ht hi g n cap cur hb a m c news hl hnews h1 hroom hfit
      have hsw : (w.setRow g (cur.toList.take (n * i.size) ++ news ++ cur.toList.drop (n * i.size + news.length)).toArray).heap.size = w.heap.size := by simp [World.setRow]
      refine ⟨_, _, hr, ⟨by rw [List.length_append, hxl, hl, Nat.add_mul], .inr ⟨g, cap, _, rfl, hg, hb.setRow _, hroom, hcm, ?_, ?_⟩⟩, ⟨rfl, rfl, rfl, by rw [hsw]; exact Nat.le_refl _, fun k hk hn => setRow_other w g k _ (fun e => hn (by rw [e]; rfl))⟩, (KT.refl B [e] w).setRow hb (by simp) hg _, fun g' hg' => .inl hg'⟩
      · simp only [List.size_toArray, List.length_append, List.length_take, List.length_drop, Array.length_toList]
        omega
      · have hlen : (cur.toList.take (n * i.size) ++ news).length = (n + m) * i.size := by
          rw [List.length_append, List.length_take, Array.length_toList, hl, Nat.add_mul]
          have : n * i.size ≤ cur.size := by omega
          omega
        show (cur.toList.take (n * i.size) ++ news ++ cur.toList.drop (n * i.size + news.length)).take ((n + m) * i.size) = xs ++ news
        rw [← hlen, List.take_left', hx]
        rfl
    · have holds : ∀ j u, xs[j]? = some u → w.cell? ((⟨g, 0, none⟩ : Addr).add j) = some u := fun j u hu => by
        have : (⟨g, 0, none⟩ : Addr).add j = ⟨g, j, none⟩ := by unfold Addr.add; split <;> simp_all
        rw [this]
        exact row_cell hb hx j hu
      obtain ⟨v', w', hrun, r1, r2⟩ := run_append_arg_grows (P := P) w t ty e i z size bytes ht hi hz hsize hby hzs hsz ⟨g, 0, none⟩ n cap xs hxl holds a m c news hl hnews (by omega) h63 hbytes
      refine ⟨v', w', hrun, (Row.of_owns r1).mono hbase, ⟨r2.os, r2.tape, r2.output, r2.size, fun k hk _ => r2.block k hk (by simp)⟩, KT.of_none r2 _ _, fun g' hg' => .inr ?_⟩
      rcases r1.2 with ⟨rfl, _⟩ | ⟨g2, cap2, cur2, rfl, hb2, _⟩
      · simp [Value.ownBlock] at hg'
      · have : g2 = g' := by simpa [Value.ownBlock] using hg'
        omega

/-- .. for the walk. -/
theorem wpList_append_any (w : World) {ops : Array Oper} {rest : List Oper} {o : Oper} {a : Act} {Q : Exit → Act → World → Prop} (hgd : o.guard = none) (s x : Operand) (t : TypeId)
    (ho : o.op = .call { callee := .builtin .append, args := #[s, x], argTypes := #[t, t] })
    (e : TypeId) (i : TypeInfo) (z : Value) (size bytes : Nat) (ht : P.underlying t = some (.slice e)) (hi : P.info? e = some i) (hz : i.zero = some z)
    (hsize : i.size = size) (hby : i.bytes = bytes) (hzs : z.cells.size = size) (hsz : 0 < size) (B : Nat)
    (v : Value) (n : Nat) (xs : List Value) (hs : a.eval s = v) (hrow : Row w B e size v n xs)
    (ad : Addr) (m c : Nat) (news : List Value) (hx : a.eval x = .slice (some ad) m c) (hl : news.length = m * size) (hnews : ∀ j u, news[j]? = some u → w.cell? (ad.add j) = some u) (h1 : ∀ u ∈ news, u.oneCell' = true)
    (h63 : n + m ≤ maxLen) (hbytes : (n + m) * bytes ≤ 140737488355328) (hbase : B ≤ w.heap.size)
    (h : ∀ A' c' w', Row w' B e size (.slice A' (n + m) c') (n + m) (xs ++ news) → w.grownBy w' v.ownBlock → KT B [e] w w' → (∀ g, (Value.slice A' (n + m) c').ownBlock = some g → v.ownBlock = some g ∨ w.heap.size ≤ g) → n + m ≤ c' → wpList P ops Q rest (a.put o.dst (.slice A' (n + m) c')) w') : wpList P ops Q (o :: rest) a w := by
  refine wpList_plain hgd fun K hK => ?_
  obtain ⟨v', w', hrun, r1, r2, r3, r4⟩ := run_append_any (P := P) w t o.type e i z size bytes ht hi hz hsize hby hzs hsz B v n xs hrow ad m c news hl hnews h1 h63 hbytes hbase
  obtain ⟨A', c', rfl, hc, _⟩ := r1.slice
  unfold Oper.wp
  simp [execOp, ho, resolve, invoke, builtin, hs, hx, hrun, Result.andThen]
  exact hK _ _ (h A' c' w' r1 r2 r3 r4 hc)
/-- .. and as a step of a region that draws. -/
theorem step_append_any {ops : Array Oper} {o : Oper} {a : Act} {w : World} {K : Act → World → Prop} {Q : Exit → Act → World → Prop} {E : Prop} (hgd : o.guard = none) (s x : Operand) (t : TypeId)
    (ho : o.op = .call { callee := .builtin .append, args := #[s, x], argTypes := #[t, t] })
    (e : TypeId) (i : TypeInfo) (z : Value) (size bytes : Nat) (ht : P.underlying t = some (.slice e)) (hi : P.info? e = some i) (hz : i.zero = some z)
    (hsize : i.size = size) (hby : i.bytes = bytes) (hzs : z.cells.size = size) (hsz : 0 < size) (B : Nat)
    (v : Value) (n : Nat) (xs : List Value) (hs : a.eval s = v) (hrow : Row w B e size v n xs)
    (ad : Addr) (m c : Nat) (news : List Value) (hx : a.eval x = .slice (some ad) m c) (hl : news.length = m * size) (hnews : ∀ j u, news[j]? = some u → w.cell? (ad.add j) = some u) (h1 : ∀ u ∈ news, u.oneCell' = true)
    (h63 : n + m ≤ maxLen) (hbytes : (n + m) * bytes ≤ 140737488355328) (hbase : B ≤ w.heap.size)
    (h : ∀ A' c' w', Row w' B e size (.slice A' (n + m) c') (n + m) (xs ++ news) → w.grownBy w' v.ownBlock → KT B [e] w w' → (∀ g, (Value.slice A' (n + m) c').ownBlock = some g → v.ownBlock = some g ∨ w.heap.size ≤ g) → n + m ≤ c' → K (a.put o.dst (.slice A' (n + m) c')) w') :
    if Region.wanted o (yielded ops a.tmps) = true then Oper.wp P o a w K Q else E := by
  have hw : Region.wanted o (yielded ops a.tmps) = true := by simp [Region.wanted, hgd]
  rw [if_pos hw]
  obtain ⟨v', w', hrun, r1, r2, r3, r4⟩ := run_append_any (P := P) w t o.type e i z size bytes ht hi hz hsize hby hzs hsz B v n xs hrow ad m c news hl hnews h1 h63 hbytes hbase
  obtain ⟨A', c', rfl, hc, _⟩ := r1.slice
  unfold Oper.wp
  simp [execOp, ho, resolve, invoke, builtin, hs, hx, hrun, Result.andThen]
  exact h A' c' w' r1 r2 r3 r4 hc

/-- copy into a block: elements of any size. -/
theorem run_copy_any (w : World) (dT sT ty elem : TypeId) (g o dLen dCap : Nat) (a : Addr) (sLen sCap size : Nat) (cur : Array Value) (t : TypeId) (cs : List Value)
    (hu : P.underlying dT = some (.slice elem)) (hs : (P.info? elem).map (·.size) = some size)
    (hg : Blk w g cur t) (hn : cs.length = Nat.min sLen dLen * size)
    (hsrc : ∀ j v, cs[j]? = some v → w.cell? (a.add j) = some v) (hfit : o + cs.length ≤ cur.size) (h1 : ∀ v ∈ cs, v.oneCell' = true) :
    (Builtin.copy_ #[dT, sT] ty #[.slice (some ⟨g, o, none⟩) dLen dCap, .slice (some a) sLen sCap]).run P w =
      .ok (goInt (Nat.min sLen dLen)) (w.setRow g (cur.toList.take o ++ cs ++ cur.toList.drop (o + cs.length)).toArray) := by
  have hl := run_loadCells_list (P := P) w a cs hsrc
  have hst := run_storeCells_at P g o t cs 0 cur w hg (by simpa using hfit) h1
  cases hq : P.info? elem with
  | none => simp [hq] at hs
  | some i =>
    have hi : i.size = size := by simpa [hq] using hs
    simp [Builtin.copy_, run_underlying hu, Builtin.lenOf, Builtin.firstCells, sizeOf, typeInfo, hq, hi, ← hn, hl, hst]
theorem wpList_copy_any (w : World) {ops : Array Oper} {rest : List Oper} {o : Oper} {a : Act} {Q : Exit → Act → World → Prop} (hgd : o.guard = none) (d s : Operand) (dT sT : TypeId)
    (ho : o.op = .call { callee := .builtin .copy, args := #[d, s], argTypes := #[dT, sT] }) (elem : TypeId) (size : Nat) (hu : P.underlying dT = some (.slice elem)) (hsz : (P.info? elem).map (·.size) = some size)
    (g off dLen dCap : Nat) (ad : Addr) (sLen sCap : Nat) (hd : a.eval d = .slice (some ⟨g, off, none⟩) dLen dCap) (hs : a.eval s = .slice (some ad) sLen sCap)
    (cur : Array Value) (t : TypeId) (hg : Blk w g cur t) (cs : List Value) (hn : cs.length = Nat.min sLen dLen * size)
    (hsrc : ∀ j v, cs[j]? = some v → w.cell? (ad.add j) = some v) (hfit : off + cs.length ≤ cur.size) (h1 : ∀ v ∈ cs, v.oneCell' = true)
    (h : ∀ w', Blk w' g (cur.toList.take off ++ cs ++ cur.toList.drop (off + cs.length)).toArray t → Only g w w' → w'.heap.size = w.heap.size → wpList P ops Q rest (a.put o.dst (goInt (Nat.min sLen dLen))) w') : wpList P ops Q (o :: rest) a w := by
  refine wpList_plain hgd fun K hK => ?_
  have hrun := run_copy_any (P := P) w dT sT o.type elem g off dLen dCap ad sLen sCap size cur t cs hu hsz hg hn hsrc hfit h1
  unfold Oper.wp
  rw [List.append_assoc] at hrun
  simp [execOp, ho, resolve, invoke, builtin, hd, hs, hrun, Result.andThen]
  exact hK _ _ (h _ (by rw [List.append_assoc]; exact hg.setRow _) (Only.setRow _ _ _) (by simp [World.setRow]))
end

/-- A new block of one cell, as a source of one element. -/
theorem new1 {W : World} {x : Value} {T : TypeId} {n : Nat} (hn : n = W.heap.size) : ∀ j u, [x][j]? = some u → (W.alloc (.cells #[x] T)).cell? ((⟨n, 0, none⟩ : Addr).add j) = some u := by
  subst hn
  intro j u h
  cases j with
  | zero =>
    have := (Blk.new W #[x] T).cell 0 rfl
    simp at h
    subst h
    exact this
  | succ j => simp at h

/-- What make lays: so many zero elements. -/
theorem madeCells_flat (z : Array Value) (hz : 0 < z.size) (n : Nat) : madeCells z (n * z.size) = ((List.replicate n z.toList).flatten).toArray := by
  apply Array.toList_inj.1
  show _ = (List.replicate n z.toList).flatten
  unfold madeCells
  rw [Array.toList_map, Array.toList_range]
  induction n with
  | zero => simp
  | succ n ih =>
    rw [Nat.succ_mul, List.range_add, List.map_append, ih, List.replicate_succ', List.flatten_append]
    congr 1
    rw [List.map_map]
    apply List.ext_getElem
    · simp
    · intro j h1 h2
      have hj : j < z.size := by simpa using h1
      simp only [List.getElem_map, List.getElem_range, Function.comp]
      rw [show (n * z.size + j) % z.size = j by rw [Nat.add_comm, Nat.add_mul_mod_self_right, Nat.mod_eq_of_lt hj]]
      simp [hj]

section
variable {P : Program}
theorem wpList_make_blk (w : World) {ops : Array Oper} {rest : List Oper} {o : Oper} {a : Act} {Q : Exit → Act → World → Prop} (hg : o.guard = none) (l c : Operand) (t : TypeId) (hop : o.op = Op.makeSlice t l c)
    (e : TypeId) (i : TypeInfo) (z : Value) (size bytes : Nat) (ht : P.underlying t = some (.slice e)) (hi : P.info? e = some i) (hz : i.zero = some z) (hsize : i.size = size) (hby : i.bytes = bytes) (hzs : z.cells.size = size) (hsz : 0 < size)
    (kl kc : IntKind) (L C : Int) (n : Nat) (hl : a.eval l = .int kl L) (hc : a.eval c = .int kc C) (hL : L = (n : Int)) (hC : C = (n : Int)) (b2 : bytes * n ≤ 281474976710656) (b3 : n ≤ 9223372036854775807)
    (hK : wpList P ops Q rest (a.put o.dst (.slice (some ⟨w.heap.size, 0, none⟩) n n)) (w.alloc (.cells ((List.replicate n z.cells.toList).flatten).toArray e))) :
    wpList P ops Q (o :: rest) a w := by
  refine wpList_plain hg fun K hK' => ?_
  have hrun := run_make (P := P) w t e i z ht hi hz kl kc n n (by omega) (Int.le_refl _) (by rw [hby]; omega) (by omega)
  subst hL
  subst hC
  subst hsize
  simp only [Int.toNat_natCast] at hrun
  rw [← hzs, madeCells_flat _ (by omega)] at hrun
  unfold Oper.wp
  simp [execOp, hop, hl, hc, hrun, Result.andThen]
  exact hK' _ _ hK
end

end Go.Proofs.Ytfcfbfingnpnoaa
