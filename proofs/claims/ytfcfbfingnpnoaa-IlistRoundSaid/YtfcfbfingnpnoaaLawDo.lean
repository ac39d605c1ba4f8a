/-
  Layer 4's statements: an act.
-/
import Derived.Test.YtfcfbfingnpnoaaBegin
set_option linter.unusedVariables false
set_option linter.unusedSimpArgs false
namespace Go.Proofs.Ytfcfbfingnpnoaa
open Go.RowKit

def actX (is : Int → Bool) (X : List (List Int)) (kind : Nat) (tag i : Int) : List (List Int) × Bool :=
  if kind % 4 = 0 then pushX is X tag i true else if kind % 4 = 1 then pushX is X tag i false else if kind % 4 = 2 then remX X i else moveX is X tag i
theorem actX_len (is : Int → Bool) (X : List (List Int)) (kind : Nat) (tag i : Int) : (actX is X kind tag i).1.length = X.length := by
  unfold actX
  split
  · exact pushX_len _ _ _ _ _
  · split
    · exact pushX_len _ _ _ _ _
    · split
      · exact remX_len _ _
      · exact moveX_len _ _ _ _
theorem actX_few {is : Int → Bool} {X : List (List Int)} {m : Nat} (h : XLen X m) (kind : Nat) (tag i : Int) : XLen (actX is X kind tag i).1 (m + 1) := by
  unfold actX
  split
  · exact pushX_few h _ _ _
  · split
    · exact pushX_few h _ _ _
    · split
      · exact fun xs hx => Nat.le_trans (remX_few h i xs hx) (by omega)
      · exact moveX_few h _ _
def DoPost (B gl ga gll : Nat) (S : Lst) (Y : List (List Int) × Bool) (w : World) (e : Ending) (w' : World) : Prop :=
  ∃ S', e = .returned (.bool Y.2) ∧ ListsAt w' B gl ga gll S' ∧ Rep S' Y.1 ∧ (∀ j, S'.A.is j = S.A.is j) ∧ KT B [62, 69] w w'
section
variable {w : World} {B gl ga gll : Nat} {S : Lst} {X : List (List Int)} {m : Nat} (h : ListsAt w B gl ga gll S) (hB : B ≤ w.heap.size) (R : Rep S X) (hm : XLen X m) (hm2 : m ≤ 1000) (tag i : Int) (hi : I32 i)
include h hB R hm hm2 hi
theorem op_PushFront : Calls Try.prog 17 #[.pointer (some ⟨gl, 0, none⟩), .int .i64 tag, .int .i32 i] w (DoPost B gl ga gll S (pushX S.A.is X tag i true) w) := by
  have hw := R.wf (fun t xs hx => Nat.le_trans (hm xs (List.mem_of_getElem? hx)) (by omega))
  obtain ⟨r1, r2, r3⟩ := R.pushFront tag i
  refine (ilist_PushFront h hB hw tag i hi).mono ?_
  rintro e w' ⟨rfl, h1, h2⟩
  exact ⟨_, by rw [r1], h1, r2, r3, h2⟩
theorem op_PushBack : Calls Try.prog 18 #[.pointer (some ⟨gl, 0, none⟩), .int .i64 tag, .int .i32 i] w (DoPost B gl ga gll S (pushX S.A.is X tag i false) w) := by
  have hw := R.wf (fun t xs hx => Nat.le_trans (hm xs (List.mem_of_getElem? hx)) (by omega))
  obtain ⟨r1, r2, r3⟩ := R.pushBack tag i
  refine (ilist_PushBack h hB hw tag i hi).mono ?_
  rintro e w' ⟨rfl, h1, h2⟩
  exact ⟨_, by rw [r1], h1, r2, r3, h2⟩
theorem op_Remove : Calls Try.prog 19 #[.pointer (some ⟨gl, 0, none⟩), .int .i32 i] w (DoPost B gl ga gll S (remX X i) w) := by
  have hw := R.wf (fun t xs hx => Nat.le_trans (hm xs (List.mem_of_getElem? hx)) (by omega))
  obtain ⟨r1, r2, r3, _⟩ := R.remove i
  refine (ilist_Remove h hB hw i hi r3).mono ?_
  rintro e w' ⟨rfl, h1, h2⟩
  exact ⟨_, by rw [r1], h1, r2, fun j => gone_is i j, h2⟩
theorem op_MoveFront : Calls Try.prog 20 #[.pointer (some ⟨gl, 0, none⟩), .int .i64 tag, .int .i32 i] w (DoPost B gl ga gll S (moveX S.A.is X tag i) w) := by
  have hw := R.wf (fun t xs hx => Nat.le_trans (hm xs (List.mem_of_getElem? hx)) (by omega))
  obtain ⟨q1, q2, q3, _⟩ := R.remove i
  obtain ⟨r1, r2, r3⟩ := R.move tag i
  have hw2 := q2.wf (fun t xs hx => Nat.le_trans (remX_few hm i xs (List.mem_of_getElem? hx)) (by omega))
  refine (ilist_MoveFront h hB hw tag i hi q3 hw2).mono ?_
  rintro e w' ⟨rfl, h1, h2⟩
  exact ⟨_, by rw [r1], h1, r2, r3, h2⟩
set_option maxRecDepth 100000 in
set_option maxHeartbeats 1600000 in
theorem law_do (kind : Nat) (hk : kind ≤ 255) : Calls Try.prog 25 #[.pointer (some ⟨gl, 0, none⟩), .agg #[.int .u8 kind, .int .i64 tag, .int .i32 i]] w (DoPost B gl ga gll S (actX S.A.is X kind tag i) w) := by
  have hkeep : ∀ W : World, Below w.heap.size w W → (∀ {Y : List (List Int) × Bool} {e w'}, DoPost B gl ga gll S Y W e w' → DoPost B gl ga gll S Y w e w') := fun W hb Y e w' ⟨S', a, b, c, d, f⟩ => ⟨S', a, b, c, d, (KT.of_below hb B _).trans f (Nat.le_refl _) (fun _ h => h)⟩
  have HK := hid hkeep
  have HO := hid (fun (W : World) (hb : Below w.heap.size w W) => op_PushFront (h.keep hb) (Nat.le_trans hB hb.size) R hm hm2 tag i hi)
  have HP := hid (fun (W : World) (hb : Below w.heap.size w W) => op_PushBack (h.keep hb) (Nat.le_trans hB hb.size) R hm hm2 tag i hi)
  have HQ := hid (fun (W : World) (hb : Below w.heap.size w W) => op_Remove (h.keep hb) (Nat.le_trans hB hb.size) R hm hm2 i hi)
  have HR := hid (fun (W : World) (hb : Below w.heap.size w W) => op_MoveFront (h.keep hb) (Nat.le_trans hB hb.size) R hm hm2 tag i hi)
  clear hkeep hi h hB R hm hm2
  have h4 : kind % 4 = 0 ∨ kind % 4 = 1 ∨ kind % 4 = 2 ∨ kind % 4 = 3 := by omega
  rcases h4 with h4 | h4 | h4 | h4
  · have e : actX S.A.is X kind tag i = pushX S.A.is X tag i true := by unfold actX; simp [h4]
    rw [e]
    clear e
    go_enter Try.func25, Try.ntmps25
    go_wp2_with (go_at_call 17; go_must (refine (HO.out _ (by with_reducible repeat (first | exact Below.refl _ _ | assumption | refine Below.drew ?_ | refine Below.alloc ?_ (by simp; try omega) _ | refine Below.setCell ?_ (by simp; try omega) _ | refine pw_drewN ?_ _))).mono ?_; rintro e w1 ⟨S1, rfl, h1⟩; have H1 := hid h1; clear h1))
    go_ret
    exact HK.out _ (by with_reducible repeat (first | exact Below.refl _ _ | assumption | refine Below.drew ?_ | refine Below.alloc ?_ (by simp; try omega) _ | refine Below.setCell ?_ (by simp; try omega) _ | refine pw_drewN ?_ _)) ⟨S1, rfl, H1.out⟩
  · have e : actX S.A.is X kind tag i = pushX S.A.is X tag i false := by unfold actX; simp [h4]
    rw [e]
    clear e
    go_enter Try.func25, Try.ntmps25
    go_wp2_with (go_at_call 18; go_must (refine (HP.out _ (by with_reducible repeat (first | exact Below.refl _ _ | assumption | refine Below.drew ?_ | refine Below.alloc ?_ (by simp; try omega) _ | refine Below.setCell ?_ (by simp; try omega) _ | refine pw_drewN ?_ _))).mono ?_; rintro e w1 ⟨S1, rfl, h1⟩; have H1 := hid h1; clear h1))
    go_ret
    exact HK.out _ (by with_reducible repeat (first | exact Below.refl _ _ | assumption | refine Below.drew ?_ | refine Below.alloc ?_ (by simp; try omega) _ | refine Below.setCell ?_ (by simp; try omega) _ | refine pw_drewN ?_ _)) ⟨S1, rfl, H1.out⟩
  · have e : actX S.A.is X kind tag i = remX X i := by unfold actX; simp [h4]
    rw [e]
    clear e
    go_enter Try.func25, Try.ntmps25
    go_wp2_with (go_at_call 19; go_must (refine (HQ.out _ (by with_reducible repeat (first | exact Below.refl _ _ | assumption | refine Below.drew ?_ | refine Below.alloc ?_ (by simp; try omega) _ | refine Below.setCell ?_ (by simp; try omega) _ | refine pw_drewN ?_ _))).mono ?_; rintro e w1 ⟨S1, rfl, h1⟩; have H1 := hid h1; clear h1))
    go_ret
    exact HK.out _ (by with_reducible repeat (first | exact Below.refl _ _ | assumption | refine Below.drew ?_ | refine Below.alloc ?_ (by simp; try omega) _ | refine Below.setCell ?_ (by simp; try omega) _ | refine pw_drewN ?_ _)) ⟨S1, rfl, H1.out⟩
  · have e : actX S.A.is X kind tag i = moveX S.A.is X tag i := by unfold actX; simp [h4]
    rw [e]
    clear e
    go_enter Try.func25, Try.ntmps25
    go_wp2_with (go_at_call 20; go_must (refine (HR.out _ (by with_reducible repeat (first | exact Below.refl _ _ | assumption | refine Below.drew ?_ | refine Below.alloc ?_ (by simp; try omega) _ | refine Below.setCell ?_ (by simp; try omega) _ | refine pw_drewN ?_ _))).mono ?_; rintro e w1 ⟨S1, rfl, h1⟩; have H1 := hid h1; clear h1))
    go_ret
    exact HK.out _ (by with_reducible repeat (first | exact Below.refl _ _ | assumption | refine Below.drew ?_ | refine Below.alloc ?_ (by simp; try omega) _ | refine Below.setCell ?_ (by simp; try omega) _ | refine pw_drewN ?_ _)) ⟨S1, rfl, H1.out⟩
end

end Go.Proofs.Ytfcfbfingnpnoaa
