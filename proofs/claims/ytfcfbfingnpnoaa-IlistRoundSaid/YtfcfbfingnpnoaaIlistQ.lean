/-
  The plain law of lists: linked lists, and what laying a slot into one, and taking one out, make of them.
-/
import Derived.Test.YtfcfbfingnpnoaaIlistP
set_option linter.unusedVariables false
set_option linter.unusedSimpArgs false
namespace Go.Proofs.Ytfcfbfingnpnoaa
open Go.RowKit

def Lk (tg pv nx : Int → Int) (g : Int) : Int → List Int → Int → Prop
  | _, [], _ => True
  | p, x :: r, n => tg x = g ∧ pv x = p ∧ nx x = r.headD n ∧ Lk tg pv nx g x r n

theorem getLastD_cons' (p x : Int) (r : List Int) : (x :: r).getLastD p = r.getLastD x := by cases r <;> simp [List.getLastD]
theorem headD_append' (a b : List Int) (n : Int) : (a ++ b).headD n = a.headD (b.headD n) := by cases a <;> rfl
theorem getLastD_append' (a b : List Int) (n : Int) : (a ++ b).getLastD n = b.getLastD (a.getLastD n) := by
  induction a generalizing n with
  | nil => rfl
  | cons x r ih => rw [List.cons_append, getLastD_cons', getLastD_cons', ih]
theorem headD_mem {l : List Int} {n : Int} (h : l ≠ []) : l.headD n ∈ l := by cases l <;> simp_all
theorem getLastD_mem {l : List Int} {n : Int} (h : l ≠ []) : l.getLastD n ∈ l := by
  induction l generalizing n with
  | nil => exact absurd rfl h
  | cons x r ih =>
    rw [getLastD_cons']
    by_cases e : r = []
    · subst e; simp [List.getLastD]
    · exact List.mem_cons_of_mem _ (ih e)
theorem Lk_append {tg pv nx : Int → Int} {g : Int} {n : Int} {b : List Int} : ∀ {p : Int} {a : List Int}, Lk tg pv nx g p (a ++ b) n ↔ Lk tg pv nx g p a (b.headD n) ∧ Lk tg pv nx g (a.getLastD p) b n
  | p, [] => by simp [Lk, List.getLastD]
  | p, x :: r => by
    rw [List.cons_append, getLastD_cons']
    simp only [Lk]
    rw [Lk_append (p := x) (a := r), headD_append']
    constructor
    · rintro ⟨h1, h2, h3, h4, h5⟩; exact ⟨⟨h1, h2, h3, h4⟩, h5⟩
    · rintro ⟨⟨h1, h2, h3, h4⟩, h5⟩; exact ⟨h1, h2, h3, h4, h5⟩
theorem Lk_congr {tg pv nx tg' pv' nx' : Int → Int} {g : Int} : ∀ {p : Int} {xs : List Int} {n : Int}, (∀ x ∈ xs, tg' x = tg x ∧ pv' x = pv x ∧ nx' x = nx x) → Lk tg pv nx g p xs n → Lk tg' pv' nx' g p xs n
  | _, [], _, _, _ => trivial
  | p, x :: r, n, h, ⟨h1, h2, h3, h4⟩ => by
    obtain ⟨e1, e2, e3⟩ := h x (List.mem_cons_self)
    exact ⟨by rw [e1, h1], by rw [e2, h2], by rw [e3, h3], Lk_congr (fun y hy => h y (List.mem_cons_of_mem _ hy)) h4⟩
theorem Lk_tg {tg pv nx : Int → Int} {g : Int} : ∀ {p : Int} {xs : List Int} {n : Int}, Lk tg pv nx g p xs n → ∀ x ∈ xs, tg x = g
  | _, [], _, _, x, hx => absurd hx (by simp)
  | p, x :: r, n, ⟨h1, h2, h3, h4⟩, y, hy => by
    rcases List.mem_cons.1 hy with e | e
    · rw [e]; exact h1
    · exact Lk_tg h4 y e
/-- The last one's next is another one. -/
theorem Lk_end {tg pv nx tg' pv' nx' : Int → Int} {g : Int} {n n' : Int} : ∀ {p : Int} {xs : List Int}, Lk tg pv nx g p xs n → (∀ x ∈ xs, tg' x = tg x ∧ pv' x = pv x) → (∀ x ∈ xs, x ≠ xs.getLastD p → nx' x = nx x) → (xs ≠ [] → nx' (xs.getLastD p) = n') → xs.Nodup → Lk tg' pv' nx' g p xs n'
  | _, [], _, _, _, _, _ => trivial
  | p, x :: r, ⟨h1, h2, h3, h4⟩, hs, hn, hl, hd => by
    obtain ⟨e1, e2⟩ := hs x (List.mem_cons_self)
    rw [getLastD_cons'] at hn hl
    obtain ⟨d1, d2⟩ := List.nodup_cons.1 hd
    refine ⟨by rw [e1, h1], by rw [e2, h2], ?_, Lk_end h4 (fun y hy => hs y (List.mem_cons_of_mem _ hy)) (fun y hy => hn y (List.mem_cons_of_mem _ hy)) (fun _ => hl (by simp)) d2⟩
    by_cases e : r = []
    · subst e
      exact hl (by simp)
    · have : x ≠ r.getLastD x := fun h => d1 (h ▸ getLastD_mem e)
      rw [hn x (List.mem_cons_self) this, h3]
      cases r with
      | nil => exact absurd rfl e
      | cons => rfl
/-- The first one's prev is another one. -/
theorem Lk_begin {tg pv nx tg' pv' nx' : Int → Int} {g : Int} {n : Int} {p p' : Int} {xs : List Int} (h : Lk tg pv nx g p xs n) (hs : ∀ x ∈ xs, tg' x = tg x ∧ nx' x = nx x) (hn : ∀ x ∈ xs, x ≠ xs.headD n → pv' x = pv x) (hl : xs ≠ [] → pv' (xs.headD n) = p') (hd : xs.Nodup) : Lk tg' pv' nx' g p' xs n := by
  cases xs with
  | nil => trivial
  | cons x r =>
    obtain ⟨h1, h2, h3, h4⟩ := h
    obtain ⟨e1, e2⟩ := hs x (List.mem_cons_self)
    obtain ⟨d1, d2⟩ := List.nodup_cons.1 hd
    refine ⟨by rw [e1, h1], hl (by simp), by rw [e2, h3], Lk_congr (fun y hy => ?_) h4⟩
    obtain ⟨f1, f2⟩ := hs y (List.mem_cons_of_mem _ hy)
    exact ⟨f1, hn y (List.mem_cons_of_mem _ hy) (fun h => d1 (by rw [show x = y from h.symm]; exact hy)), f2⟩

def hd3 (xs : List Int) : L3 := ⟨xs.headD 0, xs.getLastD 0, xs.length⟩
structure Rep (S : Lst) (X : List (List Int)) : Prop where
  ls : S.ls = X.map hd3
  lk : ∀ (t : Nat) (xs : List Int), X[t]? = some xs → Lk S.tg S.pv S.nx (t + 1) 0 xs 0
  nd : ∀ (t : Nat) (xs : List Int), X[t]? = some xs → xs.Nodup
  tk : ∀ (t : Nat) (xs : List Int), X[t]? = some xs → ∀ i ∈ xs, S.A.is i = true
  out : ∀ i, (∀ (t : Nat) (xs : List Int), X[t]? = some xs → i ∉ xs) → S.tg i = 0
  nodes : S.A.wf
  few : X.length ≤ 100
  small : S.A.slots.length ≤ 1000000

section
variable {S : Lst} {X : List (List Int)} (R : Rep S X)
include R
theorem Rep.head {t : Nat} {xs : List Int} (h : X[t]? = some xs) : S.ls[t]? = some (hd3 xs) := by
  rw [R.ls, List.getElem?_map, h]; rfl
theorem Rep.tag {t : Nat} {xs : List Int} (h : X[t]? = some xs) {i : Int} (hi : i ∈ xs) : S.tg i = t + 1 := Lk_tg (R.lk t xs h) i hi
theorem Rep.pos {t : Nat} {xs : List Int} (h : X[t]? = some xs) {i : Int} (hi : i ∈ xs) : 0 < i ∧ i < S.A.slots.length := ⟨(Arn.is_lt (R.tk t xs h i hi)).1, (Arn.is_lt (R.tk t xs h i hi)).2.1⟩
theorem Rep.one {t u : Nat} {xs ys : List Int} (h : X[t]? = some xs) (h' : X[u]? = some ys) {i : Int} (hi : i ∈ xs) (hj : i ∈ ys) : t = u := by
  have h1 := R.tag h hi
  have h2 := R.tag h' hj
  omega
omit R in
theorem Rep.taken0 {t : Nat} {xs : List Int} (h : X[t]? = some xs) {l : List Int} (hl : ∀ x ∈ l, x ∈ xs) : (l.headD 0 ≠ 0 → l.headD 0 ∈ xs) ∧ (l.getLastD 0 ≠ 0 → l.getLastD 0 ∈ xs) := by
  constructor
  · intro h0
    by_cases e : l = []
    · subst e; exact absurd rfl h0
    · exact hl _ (headD_mem e)
  · intro h0
    by_cases e : l = []
    · subst e; exact absurd rfl h0
    · exact hl _ (getLastD_mem e)
theorem Rep.i32 {t : Nat} {xs : List Int} (h : X[t]? = some xs) {i : Int} (hi : i ∈ xs) : I32 i := by
  have := R.pos h hi
  have := R.small
  unfold I32
  omega
theorem Rep.i32h {t : Nat} {xs : List Int} (h : X[t]? = some xs) {l : List Int} (hl : ∀ x ∈ l, x ∈ xs) : I32 (l.headD 0) ∧ I32 (l.getLastD 0) := by
  have h0 := Rep.taken0 h hl
  constructor
  · by_cases e : l.headD 0 = 0
    · rw [e]; exact i32_zero
    · exact R.i32 h (h0.1 e)
  · by_cases e : l.getLastD 0 = 0
    · rw [e]; exact i32_zero
    · exact R.i32 h (h0.2 e)

theorem Rep.insert {t : Nat} {aa bb : List Int} (h : X[t]? = some (aa ++ bb)) {i : Int} (hi : S.A.is i = true) (ho : ∀ (u : Nat) (xs : List Int), X[u]? = some xs → i ∉ xs) :
    Rep (S.laid t (aa.getLastD 0) i (bb.headD 0)) (X.set t (aa ++ i :: bb)) := by
  have hlt : t < X.length := (List.getElem?_eq_some_iff.1 h).1
  have hpi := Arn.is_lt hi
  have ha : ∀ x ∈ aa, x ∈ aa ++ bb := fun x hx => List.mem_append_left _ hx
  have hb : ∀ x ∈ bb, x ∈ aa ++ bb := fun x hx => List.mem_append_right _ hx
  have h0a := Rep.taken0 h ha
  have h0b := Rep.taken0 h hb
  have hia : ∀ x ∈ aa ++ bb, x ≠ i := fun x hx e => ho t _ h (e ▸ hx)
  obtain ⟨p, hp⟩ : ∃ p, p = aa.getLastD 0 := ⟨_, rfl⟩
  obtain ⟨n, hn⟩ : ∃ n, n = bb.headD 0 := ⟨_, rfl⟩
  rw [← hp, ← hn]
  have hp1 : p ≠ 0 → p ∈ aa ++ bb := hp ▸ h0a.2
  have hn1 : n ≠ 0 → n ∈ aa ++ bb := hn ▸ h0b.1
  have hpi' : p ≠ i := fun e => by
    by_cases e0 : p = 0
    · omega
    · exact hia _ (hp1 e0) e
  have hni' : n ≠ i := fun e => by
    by_cases e0 : n = 0
    · omega
    · exact hia _ (hn1 e0) e
  obtain ⟨S1, hS1⟩ : ∃ S1, S1 = S.layN t p i n := ⟨_, rfl⟩
  have is1 : ∀ j, S1.A.is j = S.A.is j := fun j => by rw [hS1]; exact Arn.put_is _ _ _ _
  have at1 : ∀ j, S1.A.at_ j = if j = i then { S.A.at_ i with tag := (t : Int) + 1, prev := p, next := n } else S.A.at_ j := fun j => by
    rw [hS1]
    show (S.A.put i _).at_ j = _
    rw [Arn.put_at]
    simp [hi]
  have p1 : p ≠ 0 → S1.A.is p = true := fun e => by rw [is1]; exact R.tk t _ h _ (hp1 e)
  have n1 : n ≠ 0 → S1.A.is n = true := fun e => by rw [is1]; exact R.tk t _ h _ (hn1 e)
  have i1 : i ≠ 0 → S1.A.is i = true := fun _ => by rw [is1]; exact hi
  obtain ⟨S2, hS2⟩ : ∃ S2, S2 = S1.join t p i := ⟨_, rfl⟩
  have is2 : ∀ j, S2.A.is j = S.A.is j := fun j => by rw [hS2, Lst.join_is, is1]
  have n2 : n ≠ 0 → S2.A.is n = true := fun e => by rw [is2]; exact R.tk t _ h _ (hn1 e)
  have i2 : i ≠ 0 → S2.A.is i = true := fun _ => by rw [is2]; exact hi
  obtain ⟨S3, hS3⟩ : ∃ S3, S3 = S2.join t i n := ⟨_, rfl⟩
  have is3 : ∀ j, S3.A.is j = S.A.is j := fun j => by rw [hS3, Lst.join_is, is2]
  have hfin : S.laid t p i n = S3.setMany t (S.manyAt t + 1) := by
    unfold Lst.laid
    rw [hS3, hS2, hS1]
    simp only [Int.toNat_natCast]
  have tg3 : ∀ j, j ≠ 0 → S3.tg j = if j = i then (t : Int) + 1 else S.tg j := fun j hj => by
    rw [hS3, Lst.join_tg S2 i2 n2 j hj, hS2, Lst.join_tg S1 p1 i1 j hj]
    show (S1.A.at_ j).tag = _
    rw [at1]
    split <;> rfl
  have pv3 : ∀ j, j ≠ 0 → S3.pv j = if j = n then i else if j = i then p else S.pv j := fun j hj => by
    rw [hS3, Lst.join_pv S2 i2 n2 j hj, hS2, Lst.join_pv S1 p1 i1 j hj]
    show (if j = n then i else if j = i then p else (S1.A.at_ j).prev) = _
    rw [at1]
    by_cases e : j = i <;> simp [e]
    rfl
  have nx3 : ∀ j, j ≠ 0 → S3.nx j = if j = i then n else if j = p then i else S.nx j := fun j hj => by
    rw [hS3, Lst.join_nx S2 i2 n2 j hj, hS2, Lst.join_nx S1 p1 i1 j hj]
    show (if j = i then n else if j = p then i else (S1.A.at_ j).next) = _
    rw [at1]
    by_cases e : j = i <;> simp [e]
    rfl
  have wf3 : S3.A.wf := by
    have hi32 : I32 i := by unfold I32; have := R.small; omega
    have wp : I32 p := hp ▸ (R.i32h h ha).2
    have wn : I32 n := hn ▸ (R.i32h h hb).1
    have wf1 : S1.A.wf := by
      rw [hS1]
      have := R.few
      exact Arn.put_wf R.nodes _ ⟨by show 0 ≤ (t : Int) + 1; omega, by show (t : Int) + 1 ≤ 100; omega, wp, wn⟩
    rw [hS3]
    refine Lst.join_wf ?_ _ hi32 wn
    rw [hS2]
    exact Lst.join_wf wf1 _ wp hi32
  have ls3 : S3.ls = S.ls.set t ⟨if p = 0 then i else (aa ++ bb).headD 0, if n = 0 then i else (aa ++ bb).getLastD 0, (aa ++ bb).length⟩ := by
    have l1 : S1.ls = S.ls := by rw [hS1]; rfl
    have l2 := Lst.join_ls (S := S1) (t := t) (l := hd3 (aa ++ bb)) (by rw [l1]; exact R.head h) p i
    rw [← hS2, l1] at l2
    have hlt' : t < S.ls.length := by rw [R.ls]; simpa using hlt
    have l3 := Lst.join_ls (S := S2) (t := t) (l := ⟨if p = 0 then i else (aa ++ bb).headD 0, if i = 0 then p else (aa ++ bb).getLastD 0, (aa ++ bb).length⟩) (by rw [l2, List.getElem?_set_self hlt']; rfl) i n
    rw [← hS3, l2, List.set_set] at l3
    rw [l3]
    have hi0 : i ≠ 0 := by omega
    simp [hi0]
  have slots3 : S3.A.slots.length = S.A.slots.length := by
    have hj : ∀ (T : Lst) (a b : Int), (T.join t a b).A.slots.length = T.A.slots.length := fun T a b => by
      have h1 : (T.join1 t a b).A.slots.length = T.A.slots.length := by
        unfold Lst.join1
        split
        · rw [Lst.setFront_A]
        · exact Arn.put_len _ _ _
      unfold Lst.join
      rw [← h1]
      generalize T.join1 t a b = T1
      unfold Lst.join2
      split
      · rw [Lst.setBack_A]
      · exact Arn.put_len _ _ _
    rw [hS3, hj, hS2, hj, hS1]
    exact Arn.put_len _ _ _
  rw [hfin]
  have hA : (S3.setMany t (S.manyAt t + 1)).A = S3.A := Lst.setMany_A _ _ _
  have hlt' : t < S.ls.length := by rw [R.ls]; simpa using hlt
  have hm : S.manyAt t = (aa ++ bb).length := (Lst.manyAt_some (R.head h)).symm
  have hd : (aa ++ bb).Nodup := R.nd t _ h
  have hd2 : (aa ++ i :: bb).Nodup := by
    rw [List.nodup_append] at hd ⊢
    refine ⟨hd.1, List.nodup_cons.2 ⟨fun hx => hia _ (hb _ hx) rfl, hd.2.1⟩, fun x hx y hy => ?_⟩
    rcases List.mem_cons.1 hy with e | e
    · rw [e]; exact hia _ (ha _ hx)
    · exact hd.2.2 x hx y e
  refine ⟨?_, ?_, ?_, ?_, ?_, by rw [hA]; exact wf3, by simpa using R.few, by rw [hA, slots3]; exact R.small⟩
  · rw [Lst.setMany_ls (l := ⟨if p = 0 then i else (aa ++ bb).headD 0, if n = 0 then i else (aa ++ bb).getLastD 0, (aa ++ bb).length⟩) (by rw [ls3, List.getElem?_set_self hlt']), ls3, List.set_set, hm, R.ls, List.map_set]
    congr 1
    unfold hd3
    rw [headD_append', headD_append', getLastD_append', getLastD_append', getLastD_cons']
    congr 1
    · by_cases e : aa = []
      · subst e
        simp [hp, List.getLastD]
      · have : p ≠ 0 := fun e0 => by
          have := R.pos h (ha _ (hp ▸ getLastD_mem (n := 0) e))
          omega
        rw [if_neg this]
        cases aa with
        | nil => exact absurd rfl e
        | cons => rfl
    · by_cases e : bb = []
      · subst e
        simp [hn, List.getLastD]
      · have : n ≠ 0 := fun e0 => by
          have := R.pos h (hb _ (hn ▸ headD_mem (n := 0) e))
          omega
        rw [if_neg this]
        cases bb with
        | nil => exact absurd rfl e
        | cons x r => rw [getLastD_cons', getLastD_cons']
    · simp; omega
  · intro u xs hu
    have hlk : Lk S3.tg S3.pv S3.nx (u + 1) 0 xs 0 := by
      by_cases e : t = u
      · subst e
        rw [List.getElem?_set_self hlt] at hu
        obtain rfl : aa ++ i :: bb = xs := by simpa using hu
        obtain ⟨la, lb⟩ := Lk_append.1 (R.lk t _ h)
        rw [Lk_append]
        rw [List.nodup_append] at hd
        refine ⟨Lk_end la (fun x hx => ?_) (fun x hx hxl => ?_) (fun he => ?_) hd.1, ?_⟩
        · have hx0 := R.pos h (ha _ hx)
          rw [tg3 x (by omega), pv3 x (by omega), if_neg (hia _ (ha _ hx)), if_neg (hia _ (ha _ hx)), if_neg]
          · exact ⟨rfl, rfl⟩
          · intro e
            exact hd.2.2 x hx _ (hn ▸ headD_mem (n := 0) (l := bb) (fun e0 => by rw [e0] at hn; simp at hn; omega)) e
        · have hx0 := R.pos h (ha _ hx)
          rw [nx3 x (by omega), if_neg (hia _ (ha _ hx)), if_neg (hp ▸ hxl)]
        · have hx0 := R.pos h (ha _ (getLastD_mem (n := 0) he))
          rw [nx3 _ (by omega), if_neg (hia _ (ha _ (getLastD_mem he))), if_pos hp.symm]
          rfl
        · refine ⟨by rw [tg3 i (by omega), if_pos rfl], by rw [pv3 i (by omega), if_neg (fun e => hni' e.symm), if_pos rfl, hp], by rw [nx3 i (by omega), if_pos rfl, hn], ?_⟩
          refine Lk_begin lb (fun x hx => ?_) (fun x hx hxl => ?_) (fun he => ?_) hd.2.1
          · have hx0 := R.pos h (hb _ hx)
            rw [tg3 x (by omega), nx3 x (by omega), if_neg (hia _ (hb _ hx)), if_neg (hia _ (hb _ hx)), if_neg]
            · exact ⟨rfl, rfl⟩
            · intro e
              exact hd.2.2 _ (hp ▸ getLastD_mem (n := 0) (l := aa) (fun e0 => by rw [e0] at hp; simp [List.getLastD] at hp; omega)) x hx e.symm
          · have hx0 := R.pos h (hb _ hx)
            rw [pv3 x (by omega), if_neg (hn ▸ hxl), if_neg (hia _ (hb _ hx))]
          · have hx0 := R.pos h (hb _ (headD_mem (n := 0) he))
            rw [pv3 _ (by omega), if_pos hn.symm]
      · rw [List.getElem?_set_ne e] at hu
        refine Lk_congr (fun x hx => ?_) (R.lk u xs hu)
        have hx0 := R.pos hu hx
        have c1 : x ≠ i := fun e => ho u xs hu (e ▸ hx)
        have c2 : x ≠ p := fun e1 => e (R.one h hu (hp1 (by omega)) (e1 ▸ hx))
        have c3 : x ≠ n := fun e1 => e (R.one h hu (hn1 (by omega)) (e1 ▸ hx))
        rw [tg3 x (by omega), pv3 x (by omega), nx3 x (by omega), if_neg c1, if_neg c3, if_neg c1, if_neg c1, if_neg c2]
        exact ⟨rfl, rfl, rfl⟩
    exact Lk_congr (fun x _ => by simp only [Lst.tg, Lst.pv, Lst.nx, hA, and_self]) hlk
  · intro u xs hu
    by_cases e : t = u
    · subst e
      rw [List.getElem?_set_self hlt] at hu
      obtain rfl : aa ++ i :: bb = xs := by simpa using hu
      exact hd2
    · rw [List.getElem?_set_ne e] at hu
      exact R.nd u xs hu
  · intro u xs hu x hx
    rw [hA, is3]
    by_cases e : t = u
    · subst e
      rw [List.getElem?_set_self hlt] at hu
      obtain rfl : aa ++ i :: bb = xs := by simpa using hu
      rcases List.mem_append.1 hx with e1 | e1
      · exact R.tk t _ h x (ha _ e1)
      · rcases List.mem_cons.1 e1 with e2 | e2
        · rw [e2]; exact hi
        · exact R.tk t _ h x (hb _ e2)
    · rw [List.getElem?_set_ne e] at hu
      exact R.tk u xs hu x hx
  · intro j hj
    show ((S3.setMany t (S.manyAt t + 1)).A.at_ j).tag = 0
    rw [hA]
    by_cases ej : j = 0
    · subst ej
      unfold Arn.at_
      rw [Arn.is_zero]
      rfl
    · have hji : j ≠ i := fun e => hj t (aa ++ i :: bb) (List.getElem?_set_self hlt) (by simp [e])
      show S3.tg j = 0
      rw [tg3 j ej, if_neg hji]
      refine R.out j (fun u xs hu hx => ?_)
      by_cases e : t = u
      · subst e
        rw [h] at hu
        obtain rfl : aa ++ bb = xs := by simpa using hu
        refine hj t (aa ++ i :: bb) (List.getElem?_set_self hlt) ?_
        rcases List.mem_append.1 hx with e1 | e1
        · exact List.mem_append_left _ e1
        · exact List.mem_append_right _ (List.mem_cons_of_mem _ e1)
      · exact hj u xs (by rw [List.getElem?_set_ne e]; exact hu) hx

theorem Rep.erase {t : Nat} {aa bb : List Int} {i : Int} (h : X[t]? = some (aa ++ i :: bb)) : S.isIn i = true ∧ 1 ≤ S.manyAt (S.tag i).toNat ∧ S.tag i = t ∧ Rep (S.remove i) (X.set t (aa ++ bb)) := by
  have hlt : t < X.length := (List.getElem?_eq_some_iff.1 h).1
  have him : i ∈ aa ++ i :: bb := by simp
  have hi : S.A.is i = true := R.tk t _ h i him
  have hpi := R.pos h him
  have hti : S.tag i = t := by
    have := R.tag h him
    show S.tg i - 1 = t
    omega
  have hin : S.isIn i = true := by
    unfold Lst.isIn Lst.get
    rw [hti, if_pos (by omega), Int.toNat_natCast, R.head h]
    rfl
  have hm : S.manyAt t = (aa ++ i :: bb).length := (Lst.manyAt_some (R.head h)).symm
  refine ⟨hin, by rw [hti, Int.toNat_natCast, hm]; simp; omega, hti, ?_⟩
  have ha : ∀ x ∈ aa, x ∈ aa ++ i :: bb := fun x hx => List.mem_append_left _ hx
  have hb : ∀ x ∈ bb, x ∈ aa ++ i :: bb := fun x hx => List.mem_append_right _ (List.mem_cons_of_mem _ hx)
  have hd : (aa ++ i :: bb).Nodup := R.nd t _ h
  have hd' := hd
  rw [List.nodup_append] at hd
  obtain ⟨d1, d2, d3⟩ := hd
  obtain ⟨d4, d5⟩ := List.nodup_cons.1 d2
  have h0a := Rep.taken0 h ha
  have h0b := Rep.taken0 h hb
  have hia : ∀ x ∈ aa, x ≠ i := fun x hx => d3 x hx i (by simp)
  have hib : ∀ x ∈ bb, x ≠ i := fun x hx e => d4 (e ▸ hx)
  obtain ⟨la, lb⟩ := Lk_append.1 (R.lk t _ h)
  obtain ⟨q1, q2, q3, lb⟩ := lb
  obtain ⟨p, hp⟩ : ∃ p, p = aa.getLastD 0 := ⟨_, rfl⟩
  obtain ⟨n, hn⟩ : ∃ n, n = bb.headD 0 := ⟨_, rfl⟩
  have hp1 : p ≠ 0 → p ∈ aa ++ i :: bb := hp ▸ h0a.2
  have hn1 : n ≠ 0 → n ∈ aa ++ i :: bb := hn ▸ h0b.1
  have hpe : aa ≠ [] → p ∈ aa := fun e => hp ▸ getLastD_mem e
  have hne : bb ≠ [] → n ∈ bb := fun e => hn ▸ headD_mem e
  have hp0 : aa = [] → p = 0 := fun e => by rw [hp, e]; rfl
  have hn0 : bb = [] → n = 0 := fun e => by rw [hn, e]; rfl
  have hpi' : p ≠ i := fun e => by
    by_cases e0 : aa = []
    · have := hp0 e0; omega
    · exact hia _ (hpe e0) e
  have hni' : n ≠ i := fun e => by
    by_cases e0 : bb = []
    · have := hn0 e0; omega
    · exact hib _ (hne e0) e
  have p0 : p ≠ 0 → S.A.is p = true := fun e => R.tk t _ h _ (hp1 e)
  have n0 : n ≠ 0 → S.A.is n = true := fun e => R.tk t _ h _ (hn1 e)
  obtain ⟨S1, hS1⟩ : ∃ S1, S1 = S.join t p n := ⟨_, rfl⟩
  have is1 : ∀ j, S1.A.is j = S.A.is j := fun j => by rw [hS1, Lst.join_is]
  obtain ⟨S2, hS2⟩ : ∃ S2, S2 = S1.setMany t (S.manyAt t - 1) := ⟨_, rfl⟩
  have hA2 : S2.A = S1.A := by rw [hS2, Lst.setMany_A]
  obtain ⟨S3, hS3⟩ : ∃ S3, S3 = S2.zeroN i := ⟨_, rfl⟩
  have hfin : S.remove i = S3 := by
    unfold Lst.remove
    rw [if_pos hin]
    unfold Lst.gone
    rw [hS3, hS2, hS1, hti, Int.toNat_natCast]
    have e1 : (S.A.at_ i).prev = p := by rw [hp]; exact q2
    have e2 : (S.A.at_ i).next = n := by rw [hn]; exact q3
    rw [e1, e2]
  rw [hfin]
  have is3 : ∀ j, S3.A.is j = S.A.is j := fun j => by
    rw [hS3]
    show (S2.A.put i _).is j = _
    rw [Arn.put_is, hA2, is1]
  have at3 : ∀ j, S3.A.at_ j = if j = i then { S1.A.at_ i with tag := 0, prev := 0, next := 0 } else S1.A.at_ j := fun j => by
    rw [hS3]
    show (S2.A.put i _).at_ j = _
    rw [Arn.put_at, hA2, is1]
    simp [hi]
  have tg3 : ∀ j, j ≠ 0 → S3.tg j = if j = i then 0 else S.tg j := fun j hj => by
    show (S3.A.at_ j).tag = _
    rw [at3]
    split
    · rfl
    · show S1.tg j = _
      rw [hS1, Lst.join_tg S p0 n0 j hj]
  have pv3 : ∀ j, j ≠ 0 → S3.pv j = if j = i then 0 else if j = n then p else S.pv j := fun j hj => by
    show (S3.A.at_ j).prev = _
    rw [at3]
    split
    · rfl
    · show S1.pv j = _
      rw [hS1, Lst.join_pv S p0 n0 j hj]
  have nx3 : ∀ j, j ≠ 0 → S3.nx j = if j = i then 0 else if j = p then n else S.nx j := fun j hj => by
    show (S3.A.at_ j).next = _
    rw [at3]
    split
    · rfl
    · show S1.nx j = _
      rw [hS1, Lst.join_nx S p0 n0 j hj]
  have wp : I32 p := hp ▸ (R.i32h h ha).2
  have wn : I32 n := hn ▸ (R.i32h h hb).1
  have wf1 : S1.A.wf := hS1 ▸ Lst.join_wf R.nodes _ wp wn
  have wf3 : S3.A.wf := by
    rw [hS3]
    show (S2.A.put i _).wf
    rw [hA2]
    exact Arn.put_wf wf1 _ ⟨by show (0 : Int) ≤ 0; omega, by show (0 : Int) ≤ 100; omega, i32_zero, i32_zero⟩
  have hlt' : t < S.ls.length := by rw [R.ls]; simpa using hlt
  have l1 := Lst.join_ls (S := S) (t := t) (l := hd3 (aa ++ i :: bb)) (R.head h) p n
  rw [← hS1] at l1
  have l2 := Lst.setMany_ls (S := S1) (t := t) (l := ⟨if p = 0 then n else (aa ++ i :: bb).headD 0, if n = 0 then p else (aa ++ i :: bb).getLastD 0, (aa ++ i :: bb).length⟩) (by rw [l1, List.getElem?_set_self hlt']; rfl) (S.manyAt t - 1)
  rw [← hS2, l1, List.set_set] at l2
  have ls3 : S3.ls = S2.ls := by rw [hS3]; rfl
  have slots3 : S3.A.slots.length = S.A.slots.length := by
    have hj : ∀ (T : Lst) (a b : Int), (T.join t a b).A.slots.length = T.A.slots.length := fun T a b => by
      have h1 : (T.join1 t a b).A.slots.length = T.A.slots.length := by
        unfold Lst.join1
        split
        · rw [Lst.setFront_A]
        · exact Arn.put_len _ _ _
      unfold Lst.join
      rw [← h1]
      generalize T.join1 t a b = T1
      unfold Lst.join2
      split
      · rw [Lst.setBack_A]
      · exact Arn.put_len _ _ _
    rw [hS3]
    show (S2.A.put i _).slots.length = _
    rw [Arn.put_len, hA2, hS1, hj]
  have hd2 : (aa ++ bb).Nodup := by
    rw [List.nodup_append]
    exact ⟨d1, d5, fun x hx y hy => d3 x hx y (List.mem_cons_of_mem _ hy)⟩
  refine ⟨?_, ?_, ?_, ?_, ?_, wf3, by simpa using R.few, by rw [slots3]; exact R.small⟩
  · rw [ls3, l2, hm, R.ls, List.map_set]
    congr 1
    unfold hd3
    rw [headD_append', headD_append', getLastD_append', getLastD_append', getLastD_cons']
    congr 1
    · by_cases e : aa = []
      · rw [if_pos (hp0 e), e, hn]; rfl
      · have : p ≠ 0 := fun e0 => by
          have := R.pos h (ha _ (hpe e))
          omega
        rw [if_neg this]
        cases aa with
        | nil => exact absurd rfl e
        | cons => rfl
    · by_cases e : bb = []
      · rw [if_pos (hn0 e), e, hp]; rfl
      · have : n ≠ 0 := fun e0 => by
          have := R.pos h (hb _ (hne e))
          omega
        rw [if_neg this]
        cases bb with
        | nil => exact absurd rfl e
        | cons x r => rw [getLastD_cons', getLastD_cons']
    · simp
  · intro u xs hu
    by_cases e : t = u
    · subst e
      rw [List.getElem?_set_self hlt] at hu
      obtain rfl : aa ++ bb = xs := by simpa using hu
      rw [Lk_append]
      refine ⟨Lk_end la (fun x hx => ?_) (fun x hx hxl => ?_) (fun he => ?_) d1, Lk_begin lb (fun x hx => ?_) (fun x hx hxl => ?_) (fun he => ?_) d5⟩
      · have hx0 := R.pos h (ha _ hx)
        rw [tg3 x (by omega), pv3 x (by omega), if_neg (hia _ hx), if_neg (hia _ hx), if_neg]
        · exact ⟨rfl, rfl⟩
        · intro e
          by_cases e0 : bb = []
          · have := hn0 e0; omega
          · exact d3 x hx _ (List.mem_cons_of_mem _ (hne e0)) e
      · have hx0 := R.pos h (ha _ hx)
        rw [nx3 x (by omega), if_neg (hia _ hx), if_neg (hp ▸ hxl)]
      · have hx0 := R.pos h (ha _ (getLastD_mem (n := 0) he))
        rw [nx3 _ (by omega), if_neg (hia _ (getLastD_mem he)), if_pos hp.symm, hn]
      · have hx0 := R.pos h (hb _ hx)
        rw [tg3 x (by omega), nx3 x (by omega), if_neg (hib _ hx), if_neg (hib _ hx), if_neg]
        · exact ⟨rfl, rfl⟩
        · intro e
          by_cases e0 : aa = []
          · have := hp0 e0; omega
          · exact d3 _ (hpe e0) x (List.mem_cons_of_mem _ hx) e.symm
      · have hx0 := R.pos h (hb _ hx)
        rw [pv3 x (by omega), if_neg (hib _ hx), if_neg (hn ▸ hxl)]
      · have hx0 := R.pos h (hb _ (headD_mem (n := 0) he))
        rw [pv3 _ (by omega), if_neg (hib _ (headD_mem he)), if_pos hn.symm, hp]
    · rw [List.getElem?_set_ne e] at hu
      refine Lk_congr (fun x hx => ?_) (R.lk u xs hu)
      have hx0 := R.pos hu hx
      have c1 : x ≠ i := fun e1 => e (R.one h hu him (e1 ▸ hx))
      have c2 : x ≠ p := fun e1 => e (R.one h hu (hp1 (by omega)) (e1 ▸ hx))
      have c3 : x ≠ n := fun e1 => e (R.one h hu (hn1 (by omega)) (e1 ▸ hx))
      rw [tg3 x (by omega), pv3 x (by omega), nx3 x (by omega), if_neg c1, if_neg c1, if_neg c3, if_neg c1, if_neg c2]
      exact ⟨rfl, rfl, rfl⟩
  · intro u xs hu
    by_cases e : t = u
    · subst e
      rw [List.getElem?_set_self hlt] at hu
      obtain rfl : aa ++ bb = xs := by simpa using hu
      exact hd2
    · rw [List.getElem?_set_ne e] at hu
      exact R.nd u xs hu
  · intro u xs hu x hx
    rw [is3]
    by_cases e : t = u
    · subst e
      rw [List.getElem?_set_self hlt] at hu
      obtain rfl : aa ++ bb = xs := by simpa using hu
      rcases List.mem_append.1 hx with e1 | e1
      · exact R.tk t _ h x (ha _ e1)
      · exact R.tk t _ h x (hb _ e1)
    · rw [List.getElem?_set_ne e] at hu
      exact R.tk u xs hu x hx
  · intro j hj
    by_cases ej : j = 0
    · subst ej
      unfold Lst.tg Arn.at_
      rw [Arn.is_zero]
      rfl
    · rw [tg3 j ej]
      split
      · rfl
      · rename_i hji
        refine R.out j (fun u xs hu hx => ?_)
        by_cases e : t = u
        · subst e
          rw [h] at hu
          obtain rfl : aa ++ i :: bb = xs := by simpa using hu
          refine hj t (aa ++ bb) (List.getElem?_set_self hlt) ?_
          rcases List.mem_append.1 hx with e1 | e1
          · exact List.mem_append_left _ e1
          · rcases List.mem_cons.1 e1 with e2 | e2
            · exact absurd e2 hji
            · exact List.mem_append_right _ e2
        · exact hj u xs (by rw [List.getElem?_set_ne e]; exact hu) hx
end

end Go.Proofs.Ytfcfbfingnpnoaa
