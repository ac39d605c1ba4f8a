/-
  The plain law of lists: what is told of lists, and what an act makes of them.
-/
import Derived.Test.YtfcfbfingnpnoaaIlistQ
set_option linter.unusedVariables false
set_option linter.unusedSimpArgs false
namespace Go.Proofs.Ytfcfbfingnpnoaa
open Go.RowKit

def Xat (X : List (List Int)) (tag : Int) : List Int := if 0 ≤ tag then (X[tag.toNat]?).getD [] else []
/-- The place of a slot in a list. -/
def pl : List Int → Int → Int
  | [], _ => -1
  | x :: r, i => if x = i then 0 else if pl r i < 0 then -1 else pl r i + 1
theorem not_mem_cons' {x i : Int} {r : List Int} (h : i ∉ x :: r) : i ≠ x ∧ i ∉ r := ⟨fun e => h (by simp [e]), fun e => h (List.mem_cons_of_mem _ e)⟩
theorem pl_out {xs : List Int} {i : Int} (h : i ∉ xs) : pl xs i = -1 := by
  induction xs with
  | nil => rfl
  | cons x r ih =>
    obtain ⟨h1, h2⟩ := not_mem_cons' h
    unfold pl
    rw [if_neg (fun e => h1 e.symm), ih h2]
    rfl
theorem pl_in {aa bb : List Int} {i : Int} (h : i ∉ aa) : pl (aa ++ i :: bb) i = aa.length := by
  induction aa with
  | nil => simp [pl]
  | cons x r ih =>
    obtain ⟨h1, h2⟩ := not_mem_cons' h
    rw [List.cons_append]
    unfold pl
    rw [if_neg (fun e => h1 e.symm), ih h2, if_neg (by omega)]
    simp
/-- The list that has a slot. -/
def tl : List (List Int) → Int → Int
  | [], _ => -1
  | xs :: r, i => if i ∈ xs then 0 else if tl r i < 0 then -1 else tl r i + 1
theorem tl_out {X : List (List Int)} {i : Int} (h : ∀ (t : Nat) (xs : List Int), X[t]? = some xs → i ∉ xs) : tl X i = -1 := by
  induction X with
  | nil => rfl
  | cons xs r ih =>
    unfold tl
    rw [if_neg (h 0 xs rfl), ih (fun t ys hy => h (t + 1) ys hy)]
    rfl
theorem tl_in {X : List (List Int)} {i : Int} {t : Nat} {xs : List Int} (h : X[t]? = some xs) (hi : i ∈ xs) (hf : ∀ (u : Nat) (ys : List Int), u < t → X[u]? = some ys → i ∉ ys) : tl X i = t := by
  induction X generalizing t with
  | nil => simp at h
  | cons ys r ih =>
    unfold tl
    cases t with
    | zero =>
      obtain rfl : ys = xs := by simpa using h
      rw [if_pos hi]; rfl
    | succ t =>
      rw [if_neg (hf 0 ys (by omega) rfl), ih (t := t) (by simpa using h) (fun u zs hu hz => hf (u + 1) zs (by omega) (by simpa using hz)), if_neg (by omega)]
      simp

section
variable {S : Lst} {X : List (List Int)} (R : Rep S X)
include R
theorem Rep.len : S.ls.length = X.length := by rw [R.ls]; simp
theorem Rep.get (tag : Int) : S.get tag = if 0 ≤ tag then (X[tag.toNat]?).map hd3 else none := by
  unfold Lst.get
  rw [R.ls, List.getElem?_map]
theorem Rep.front (tag : Int) : S.front tag = (Xat X tag).headD 0 := by
  unfold Lst.front Xat
  rw [R.get]
  by_cases h : 0 ≤ tag
  · simp only [h, if_true]
    cases X[tag.toNat]? <;> rfl
  · simp [h]
theorem Rep.back (tag : Int) : S.back tag = (Xat X tag).getLastD 0 := by
  unfold Lst.back Xat
  rw [R.get]
  by_cases h : 0 ≤ tag
  · simp only [h, if_true]
    cases X[tag.toNat]? <;> rfl
  · simp [h]
theorem Rep.length (tag : Int) : S.len tag = (Xat X tag).length := by
  unfold Lst.len Xat
  rw [R.get]
  by_cases h : 0 ≤ tag
  · simp only [h, if_true]
    cases X[tag.toNat]? <;> rfl
  · simp [h]
theorem Rep.isSome (tag : Int) : (S.get tag).isSome = (decide (0 ≤ tag) && decide (tag < (X.length : Int))) := by
  rw [R.get]
  by_cases h : 0 ≤ tag
  · simp only [h, if_true, decide_true, Bool.true_and, Option.isSome_map]
    by_cases h2 : tag < (X.length : Int)
    · rw [List.getElem?_eq_getElem (by omega)]; simp [h2]
    · rw [List.getElem?_eq_none (by omega)]; simp [h2]
  · simp [h]
theorem Rep.tl_ (i : Int) : S.tag i = tl X i := by
  show S.tg i - 1 = _
  by_cases h : ∃ (t : Nat) (xs : List Int), X[t]? = some xs ∧ i ∈ xs
  · obtain ⟨t, xs, h1, h2⟩ := h
    rw [R.tag h1 h2, tl_in h1 h2 (fun u ys hu hy hi => by have := R.one h1 hy h2 hi; omega)]
    omega
  · have h' : ∀ (t : Nat) (xs : List Int), X[t]? = some xs → i ∉ xs := fun t xs h1 h2 => h ⟨t, xs, h1, h2⟩
    rw [R.out i h', tl_out h']
    rfl
theorem Rep.in_ {i : Int} (h : 0 ≤ tl X i) : ∃ (t : Nat) (aa bb : List Int), tl X i = t ∧ X[t]? = some (aa ++ i :: bb) ∧ i ∉ aa ∧ i ∉ bb := by
  by_cases hx : ∃ (t : Nat) (xs : List Int), X[t]? = some xs ∧ i ∈ xs
  · obtain ⟨t, xs, h1, h2⟩ := hx
    obtain ⟨aa, bb, rfl⟩ := List.append_of_mem h2
    have hd := R.nd t _ h1
    rw [List.nodup_append] at hd
    refine ⟨t, aa, bb, ?_, h1, fun hi => hd.2.2 i hi i (by simp) rfl, (List.nodup_cons.1 hd.2.1).1⟩
    exact tl_in h1 h2 (fun u ys hu hy hi => by have := R.one h1 hy h2 hi; omega)
  · have h' : ∀ (t : Nat) (xs : List Int), X[t]? = some xs → i ∉ xs := fun t xs h1 h2 => hx ⟨t, xs, h1, h2⟩
    rw [tl_out h'] at h
    omega
theorem Rep.out_ {i : Int} (h : tl X i < 0) : ∀ (t : Nat) (xs : List Int), X[t]? = some xs → i ∉ xs := by
  intro t xs h1 h2
  have := R.tl_ i
  have h3 := R.tag h1 h2
  have : S.tg i - 1 = tl X i := this
  omega
omit R in
theorem Rep.chain_from {t : Nat} : ∀ {p : Int} {xs : List Int}, Lk S.tg S.pv S.nx (t + 1) p xs 0 → (∀ x ∈ xs, 0 < x ∧ I32 x) → S.chain (xs.headD 0) xs
  | _, [], _, _ => rfl
  | p, x :: r, ⟨h1, h2, h3, h4⟩, hi => by
    have hx := hi x (List.mem_cons_self)
    refine ⟨rfl, by omega, hx.2, ?_⟩
    have ha : S.after x = r.headD 0 := by
      unfold Lst.after
      have h1' : S.tag x = (t : Int) := by
        show S.tg x - 1 = _
        omega
      rw [h1', if_neg (by omega)]
      exact h3
    rw [ha]
    exact Rep.chain_from h4 (fun y hy => hi y (List.mem_cons_of_mem _ hy))
theorem Rep.chain (tag : Int) : S.chain (S.front tag) (Xat X tag) := by
  rw [R.front]
  unfold Xat
  by_cases h : 0 ≤ tag
  · simp only [h, if_true]
    cases e : X[tag.toNat]? with
    | none => rfl
    | some xs => exact Rep.chain_from (R.lk _ xs e) (fun x hx => ⟨(R.pos e hx).1, R.i32 e hx⟩)
  · simp only [h, if_false]
    rfl
theorem Rep.wf (hm : ∀ (t : Nat) (xs : List Int), X[t]? = some xs → xs.length ≤ 1000000) : S.wf := by
  refine ⟨R.nodes, fun l hl => ?_⟩
  rw [R.ls] at hl
  obtain ⟨xs, hx, rfl⟩ := List.mem_map.1 hl
  obtain ⟨t, ht⟩ := List.getElem?_of_mem hx
  exact ⟨(R.i32h ht (l := xs) (fun _ h => h)).1, (R.i32h ht (l := xs) (fun _ h => h)).2, hm t xs ht⟩
theorem Rep.near {t : Nat} {aa bb : List Int} {i : Int} (h : X[t]? = some (aa ++ i :: bb)) : S.before i = aa.getLastD 0 ∧ S.after i = bb.headD 0 := by
  obtain ⟨la, q1, q2, q3, lb⟩ := Lk_append.1 (R.lk t _ h)
  have ht : S.tag i = (t : Int) := by
    show S.tg i - 1 = _
    omega
  unfold Lst.before Lst.after
  rw [ht, if_neg (by omega), if_neg (by omega)]
  exact ⟨q2, q3⟩
theorem Rep.near0 {i : Int} (h : tl X i < 0) : S.before i = 0 ∧ S.after i = 0 := by
  have ht : S.tag i = -1 := by
    have := R.out i (R.out_ h)
    show S.tg i - 1 = _
    omega
  unfold Lst.before Lst.after
  rw [ht]
  exact ⟨rfl, rfl⟩
end

/-- What an act makes of lists, and whether it is done. -/
def pushX (is : Int → Bool) (X : List (List Int)) (tag i : Int) (front : Bool) : List (List Int) × Bool :=
  if 0 ≤ tag ∧ tag < X.length ∧ is i = true ∧ tl X i < 0 then (X.set tag.toNat (if front then i :: Xat X tag else Xat X tag ++ [i]), true) else (X, false)
def remX (X : List (List Int)) (i : Int) : List (List Int) × Bool :=
  if tl X i < 0 then (X, false) else (X.set (tl X i).toNat ((Xat X (tl X i)).take (pl (Xat X (tl X i)) i).toNat ++ (Xat X (tl X i)).drop ((pl (Xat X (tl X i)) i).toNat + 1)), true)
def moveX (is : Int → Bool) (X : List (List Int)) (tag i : Int) : List (List Int) × Bool :=
  if 0 ≤ tag ∧ tag < X.length ∧ 0 ≤ tl X i then pushX is (remX X i).1 tag i true else (X, false)

/-- Lists at most so long. -/
def XLen (X : List (List Int)) (m : Nat) : Prop := ∀ xs ∈ X, xs.length ≤ m
theorem XLen.set {X : List (List Int)} {m : Nat} (h : XLen X m) {m' : Nat} (hm : m ≤ m') (t : Nat) {xs : List Int} (hx : xs.length ≤ m') : XLen (X.set t xs) m' := by
  intro ys hy
  rcases List.mem_or_eq_of_mem_set hy with h1 | h1
  · exact Nat.le_trans (h ys h1) hm
  · rw [h1]; exact hx
theorem XLen.at_ {X : List (List Int)} {m : Nat} (h : XLen X m) (tag : Int) : (Xat X tag).length ≤ m := by
  unfold Xat
  split
  · cases e : X[tag.toNat]? with
    | none => simp
    | some xs => exact h xs (List.mem_of_getElem? e)
  · simp
theorem Xat_get {X : List (List Int)} {tag : Int} (h : 0 ≤ tag ∧ tag < X.length) : X[tag.toNat]? = some (Xat X tag) := by
  unfold Xat
  rw [if_pos h.1, List.getElem?_eq_getElem (by omega)]
  rfl
theorem Xat_nat {X : List (List Int)} {t : Nat} {xs : List Int} (h : X[t]? = some xs) : Xat X t = xs := by
  unfold Xat
  rw [if_pos (by omega), Int.toNat_natCast, h]
  rfl
theorem pushX_len (is : Int → Bool) (X : List (List Int)) (tag i : Int) (f : Bool) : (pushX is X tag i f).1.length = X.length := by unfold pushX; split <;> simp
theorem remX_len (X : List (List Int)) (i : Int) : (remX X i).1.length = X.length := by unfold remX; split <;> simp
theorem moveX_len (is : Int → Bool) (X : List (List Int)) (tag i : Int) : (moveX is X tag i).1.length = X.length := by
  unfold moveX
  split
  · rw [pushX_len, remX_len]
  · rfl
theorem pushX_few {is : Int → Bool} {X : List (List Int)} {m : Nat} (h : XLen X m) (tag i : Int) (f : Bool) : XLen (pushX is X tag i f).1 (m + 1) := by
  unfold pushX
  split
  · refine h.set (by omega) _ ?_
    have := h.at_ tag
    cases f <;> simp <;> omega
  · exact fun xs hx => Nat.le_trans (h xs hx) (by omega)
theorem remX_few {X : List (List Int)} {m : Nat} (h : XLen X m) (i : Int) : XLen (remX X i).1 m := by
  unfold remX
  split
  · exact h
  · refine h.set (by omega) _ ?_
    have := h.at_ (tl X i)
    simp only [List.length_append, List.length_take, List.length_drop]
    by_cases hp : (Xat X (tl X i)).length = 0
    · omega
    · omega
theorem moveX_few {is : Int → Bool} {X : List (List Int)} {m : Nat} (h : XLen X m) (tag i : Int) : XLen (moveX is X tag i).1 (m + 1) := by
  unfold moveX
  split
  · exact pushX_few (remX_few h i) _ _ _
  · exact fun xs hx => Nat.le_trans (h xs hx) (by omega)
theorem remX_in {X : List (List Int)} {i : Int} {t : Nat} {aa bb : List Int} (ht : tl X i = t) (h : X[t]? = some (aa ++ i :: bb)) (ha : i ∉ aa) : remX X i = (X.set t (aa ++ bb), true) := by
  unfold remX
  rw [ht, if_neg (by omega), Xat_nat h, pl_in ha]
  simp only [Int.toNat_natCast]
  congr 2
  rw [List.take_left, List.drop_append]
  simp

section
variable {S : Lst} {X : List (List Int)} (R : Rep S X)
include R
theorem Rep.may (tag i : Int) : S.may tag i = decide (0 ≤ tag ∧ tag < X.length ∧ S.A.is i = true ∧ tl X i < 0) := by
  unfold Lst.may
  rw [R.isSome, R.tl_]
  have hneg : (tl X i == -1) = decide (tl X i < 0) := by
    by_cases h : tl X i < 0
    · have : tl X i = -1 := tl_out (R.out_ h)
      simp [this]
    · have : tl X i ≠ -1 := by omega
      simp [h, this]
  rw [hneg]
  cases S.A.is i <;> simp [Bool.and_assoc]
omit R in
theorem laid_is {S : Lst} (tag p i n : Int) (j : Int) : (S.laid tag p i n).A.is j = S.A.is j := by
  unfold Lst.laid
  rw [Lst.setMany_A, Lst.join_is, Lst.join_is]
  exact Arn.put_is _ _ _ _
theorem Rep.pushFront (tag i : Int) : (pushX S.A.is X tag i true).2 = S.may tag i ∧ Rep (S.lay tag 0 i (S.front tag)) (pushX S.A.is X tag i true).1 ∧ ∀ j, (S.lay tag 0 i (S.front tag)).A.is j = S.A.is j := by
  rw [R.may]
  unfold pushX Lst.lay
  rw [R.may]
  by_cases h : 0 ≤ tag ∧ tag < X.length ∧ S.A.is i = true ∧ tl X i < 0
  · simp only [h, and_self, decide_true, if_true, true_and]
    obtain ⟨n, rfl⟩ := Int.eq_ofNat_of_zero_le h.1
    have hx := Xat_get (X := X) ⟨h.1, h.2.1⟩
    rw [Int.toNat_natCast] at hx
    have := R.insert (t := n) (aa := []) (bb := Xat X n) hx h.2.2.1 (R.out_ h.2.2.2)
    rw [R.front, Int.toNat_natCast]
    exact ⟨this, fun j => laid_is _ _ _ _ _⟩
  · simp only [h, decide_false, if_false, true_and]
    exact ⟨R, fun _ => rfl⟩
theorem Rep.pushBack (tag i : Int) : (pushX S.A.is X tag i false).2 = S.may tag i ∧ Rep (S.lay tag (S.back tag) i 0) (pushX S.A.is X tag i false).1 ∧ ∀ j, (S.lay tag (S.back tag) i 0).A.is j = S.A.is j := by
  rw [R.may]
  unfold pushX Lst.lay
  rw [R.may]
  by_cases h : 0 ≤ tag ∧ tag < X.length ∧ S.A.is i = true ∧ tl X i < 0
  · simp only [h, and_self, decide_true, if_true, true_and]
    obtain ⟨n, rfl⟩ := Int.eq_ofNat_of_zero_le h.1
    have hx := Xat_get (X := X) ⟨h.1, h.2.1⟩
    rw [Int.toNat_natCast] at hx
    have := R.insert (t := n) (aa := Xat X n) (bb := []) (by rw [List.append_nil]; exact hx) h.2.2.1 (R.out_ h.2.2.2)
    rw [R.back, Int.toNat_natCast]
    exact ⟨this, fun j => laid_is _ _ _ _ _⟩
  · simp only [h, decide_false, if_false, true_and]
    exact ⟨R, fun _ => rfl⟩
omit R in
theorem gone_is {S : Lst} (i j : Int) : (S.remove i).A.is j = S.A.is j := by
  unfold Lst.remove
  split
  · unfold Lst.gone
    show (Arn.put _ i _).is j = _
    rw [Arn.put_is, Lst.setMany_A, Lst.join_is]
  · rfl
theorem Rep.remove (i : Int) : (remX X i).2 = S.isIn i ∧ Rep (S.remove i) (remX X i).1 ∧ (S.isIn i = true → 1 ≤ S.manyAt (S.tag i).toNat) ∧ S.isIn i = decide (0 ≤ tl X i) := by
  by_cases h : tl X i < 0
  · have hin : S.isIn i = false := by
      unfold Lst.isIn
      rw [R.isSome, R.tl_]
      simp; omega
    have hrem : S.remove i = S := by unfold Lst.remove; rw [hin]; rfl
    unfold remX
    rw [if_pos h, hin, hrem]
    exact ⟨rfl, R, fun h => (by cases h), by simp; omega⟩
  · obtain ⟨t, aa, bb, h1, h2, h3, h4⟩ := R.in_ (i := i) (by omega)
    obtain ⟨k1, k2, k3, k4⟩ := R.erase h2
    rw [remX_in h1 h2 h3, k1]
    exact ⟨rfl, k4, fun _ => k2, by simp; omega⟩
theorem Rep.move (tag i : Int) : (moveX S.A.is X tag i).2 = S.mayMove tag i ∧ Rep (S.moved tag i) (moveX S.A.is X tag i).1 ∧ ∀ j, (S.moved tag i).A.is j = S.A.is j := by
  obtain ⟨r1, r2, r3, r4⟩ := R.remove i
  have hp := r2.pushFront tag i
  have his : (S.remove i).A.is = S.A.is := funext fun j => gone_is i j
  rw [his] at hp
  unfold moveX Lst.mayMove Lst.moved
  rw [R.isSome, r4]
  by_cases h : 0 ≤ tag ∧ tag < X.length ∧ 0 ≤ tl X i
  · simp only [h, and_self, decide_true, if_true, Bool.and_self, Bool.true_and]
    exact hp
  · rw [if_neg h]
    have : (decide (0 ≤ tag) && decide (tag < (X.length : Int)) && decide (0 ≤ tl X i)) = false := by
      by_cases a : 0 ≤ tag <;> by_cases b : tag < (X.length : Int) <;> by_cases c : 0 ≤ tl X i <;> simp_all
    rw [this]
    exact ⟨rfl, R, fun _ => rfl⟩
end

end Go.Proofs.Ytfcfbfingnpnoaa
