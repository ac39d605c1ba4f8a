/-
  The plain law of lists: what the program's lists hold are lists, each slot in one at most.
-/
import Derived.Test.YtfcfbfingnpnoaaIlistN
set_option linter.unusedVariables false
set_option linter.unusedSimpArgs false
namespace Go.Proofs.Ytfcfbfingnpnoaa
open Go.RowKit

theorem list_set_same {α : Type} {l : List α} {i : Nat} {x : α} (h : l[i]? = some x) : l.set i x = l := by
  apply List.ext_getElem?
  intro j
  by_cases e : i = j
  · subst e
    rw [List.getElem?_set_self (List.getElem?_eq_some_iff.1 h).1, h]
  · rw [List.getElem?_set_ne e]
theorem Arn.put_is (A : Arn) (i : Int) (n : Nd) (j : Int) : (A.put i n).is j = A.is j := by
  unfold Arn.put
  split
  · rename_i h
    obtain ⟨h0, h1, h2⟩ := Arn.is_lt h
    unfold Arn.is Arn.slot
    by_cases hj : 0 < j
    · simp only [hj, decide_true, Bool.true_and]
      by_cases e : j.toNat = i.toNat
      · rw [e, List.getElem?_set_self (by omega), h2]
        have : (A.slot i).taken = true := by
          unfold Arn.is at h
          simp only [Bool.and_eq_true] at h
          exact h.2
        simp [this]
      · rw [List.getElem?_set_ne (by omega)]
    · simp [hj]
  · rfl
theorem Arn.put_at (A : Arn) (i : Int) (n : Nd) (j : Int) : (A.put i n).at_ j = if j = i ∧ A.is i = true then n else A.at_ j := by
  unfold Arn.at_
  rw [Arn.put_is]
  by_cases h : A.is i = true
  · obtain ⟨h0, h1, h2⟩ := Arn.is_lt h
    by_cases hj : j = i
    · subst hj
      simp only [h, if_true, and_self]
      unfold Arn.put Arn.slot
      simp only [h, if_true]
      rw [List.getElem?_set_self (by omega)]
      rfl
    · simp only [hj, false_and, if_false]
      split
      · rename_i h3
        obtain ⟨k0, k1, k2⟩ := Arn.is_lt h3
        unfold Arn.put Arn.slot
        simp only [h, if_true]
        rw [List.getElem?_set_ne (by omega)]
      · rfl
  · have hput : A.put i n = A := by unfold Arn.put; rw [if_neg h]
    rw [hput]
    simp [h]
theorem Arn.is_zero (A : Arn) : A.is 0 = false := by simp [Arn.is]
theorem Arn.put_wf {A : Arn} (h : A.wf) (i : Int) {n : Nd} (hn : n.wf) : (A.put i n).wf := by
  unfold Arn.put
  split
  · intro s hs
    rcases List.mem_or_eq_of_mem_set hs with h1 | h1
    · exact h s h1
    · rw [h1]; exact hn
  · exact h
theorem Arn.put_len (A : Arn) (i : Int) (n : Nd) : (A.put i n).slots.length = A.slots.length := by
  unfold Arn.put
  split
  · simp
  · rfl

def Lst.tg (S : Lst) (i : Int) : Int := (S.A.at_ i).tag
def Lst.pv (S : Lst) (i : Int) : Int := (S.A.at_ i).prev
def Lst.nx (S : Lst) (i : Int) : Int := (S.A.at_ i).next
section
variable (S : Lst)
theorem Lst.setFront_A (t : Nat) (x : Int) : (S.setFront t x).A = S.A := by unfold Lst.setFront; split <;> rfl
theorem Lst.setBack_A (t : Nat) (x : Int) : (S.setBack t x).A = S.A := by unfold Lst.setBack; split <;> rfl
theorem Lst.setMany_A (t x : Nat) : (S.setMany t x).A = S.A := by unfold Lst.setMany; split <;> rfl
theorem Lst.join1_is (t : Nat) (a b j : Int) : (S.join1 t a b).A.is j = S.A.is j := by
  unfold Lst.join1
  split
  · rw [Lst.setFront_A]
  · exact Arn.put_is _ _ _ _
theorem Lst.join2_is (t : Nat) (a b j : Int) : (S.join2 t a b).A.is j = S.A.is j := by
  unfold Lst.join2
  split
  · rw [Lst.setBack_A]
  · exact Arn.put_is _ _ _ _
theorem Lst.join_is (t : Nat) (a b j : Int) : (S.join t a b).A.is j = S.A.is j := by
  unfold Lst.join
  rw [Lst.join2_is, Lst.join1_is]
theorem Lst.join1_at (t : Nat) (a b j : Int) (hj : j ≠ 0) (ha : a ≠ 0 → S.A.is a = true) : (S.join1 t a b).A.at_ j = if j = a then { S.A.at_ j with next := b } else S.A.at_ j := by
  unfold Lst.join1
  split
  · rename_i h
    rw [Lst.setFront_A, if_neg (by omega)]
  · rename_i h
    show (S.A.put a _).at_ j = _
    rw [Arn.put_at]
    by_cases e : j = a
    · subst e
      simp [ha h]
    · simp [e]
theorem Lst.join2_at (t : Nat) (a b j : Int) (hj : j ≠ 0) (hb : b ≠ 0 → S.A.is b = true) : (S.join2 t a b).A.at_ j = if j = b then { S.A.at_ j with prev := a } else S.A.at_ j := by
  unfold Lst.join2
  split
  · rename_i h
    rw [Lst.setBack_A, if_neg (by omega)]
  · rename_i h
    show (S.A.put b _).at_ j = _
    rw [Arn.put_at]
    by_cases e : j = b
    · subst e
      simp [hb h]
    · simp [e]
variable {t : Nat} {a b : Int} (ha : a ≠ 0 → S.A.is a = true) (hb : b ≠ 0 → S.A.is b = true)
include ha hb
theorem Lst.join_at (j : Int) (hj : j ≠ 0) : (S.join t a b).A.at_ j = { S.A.at_ j with next := if j = a then b else S.nx j, prev := if j = b then a else S.pv j } := by
  unfold Lst.join
  rw [Lst.join2_at _ _ _ _ _ hj (by rw [Lst.join1_is]; exact hb), Lst.join1_at _ _ _ _ _ hj ha]
  by_cases e1 : j = a <;> by_cases e2 : j = b <;> simp [e1, e2, Lst.nx, Lst.pv] <;> (try subst e1) <;> (try subst e2) <;> simp_all
theorem Lst.join_tg (j : Int) (hj : j ≠ 0) : (S.join t a b).tg j = S.tg j := by unfold Lst.tg; rw [Lst.join_at S ha hb j hj]
theorem Lst.join_nx (j : Int) (hj : j ≠ 0) : (S.join t a b).nx j = if j = a then b else S.nx j := by
  show ((S.join t a b).A.at_ j).next = _
  rw [Lst.join_at S ha hb j hj]
theorem Lst.join_pv (j : Int) (hj : j ≠ 0) : (S.join t a b).pv j = if j = b then a else S.pv j := by
  show ((S.join t a b).A.at_ j).prev = _
  rw [Lst.join_at S ha hb j hj]
end
theorem Lst.join_wf {S : Lst} (h : S.A.wf) (t : Nat) {a b : Int} (ha : I32 a) (hb : I32 b) : (S.join t a b).A.wf := by
  have h1 : (S.join1 t a b).A.wf := by
    unfold Lst.join1
    split
    · rw [Lst.setFront_A]; exact h
    · exact Arn.put_wf h _ ⟨(Arn.at_wf h a).1, (Arn.at_wf h a).2.1, (Arn.at_wf h a).2.2.1, hb⟩
  unfold Lst.join
  generalize S.join1 t a b = T at h1
  unfold Lst.join2
  split
  · rw [Lst.setBack_A]; exact h1
  · exact Arn.put_wf h1 _ ⟨(Arn.at_wf h1 b).1, (Arn.at_wf h1 b).2.1, ha, (Arn.at_wf h1 b).2.2.2⟩
theorem Lst.join_ls {S : Lst} {t : Nat} {l : L3} (h : S.ls[t]? = some l) (a b : Int) : (S.join t a b).ls = S.ls.set t ⟨if a = 0 then b else l.front, if b = 0 then a else l.back, l.many⟩ := by
  have hlt : t < S.ls.length := (List.getElem?_eq_some_iff.1 h).1
  have h1 : (S.join1 t a b).ls = S.ls.set t ⟨if a = 0 then b else l.front, l.back, l.many⟩ := by
    unfold Lst.join1
    split
    · unfold Lst.setFront
      rw [h]
    · show S.ls = _
      exact (list_set_same h).symm
  have h2 : (S.join1 t a b).ls[t]? = some ⟨if a = 0 then b else l.front, l.back, l.many⟩ := by rw [h1, List.getElem?_set_self hlt]
  unfold Lst.join
  generalize S.join1 t a b = T at h1 h2
  unfold Lst.join2
  by_cases e : b = 0
  · simp only [e, if_true] at h1 h2 ⊢
    unfold Lst.setBack
    rw [h2]
    simp only [h1, List.set_set]
  · simp only [e, if_false] at h1 h2 ⊢
    exact h1
theorem Lst.setMany_ls {S : Lst} {t : Nat} {l : L3} (h : S.ls[t]? = some l) (x : Nat) : (S.setMany t x).ls = S.ls.set t { l with many := x } := by
  unfold Lst.setMany
  rw [h]

end Go.Proofs.Ytfcfbfingnpnoaa
