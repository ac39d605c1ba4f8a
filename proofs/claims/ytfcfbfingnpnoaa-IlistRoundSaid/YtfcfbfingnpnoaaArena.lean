/-
  The arena in memory, and what its functions do there.
-/
import Derived.Test.YtfcfbfingnpnoaaProg
import Derived.Test.YtfcfbfingnpnoaaRow
import Derived.WalkKit
import Derived.WalkSpells
import Derived.WalkLawsBesides
import Derived.Deep.QuietTactic
import Derived.BigQuiet
import Derived.Outline
import Derived.RegionTactic
import Derived.ChangeAlike
set_option linter.unusedVariables false
set_option linter.unusedSimpArgs false
namespace Go.Proofs.Ytfcfbfingnpnoaa
open Go.RowKit

structure Nd where
  key : Int
  val : Int
  flag : Int
  tag : Int
  prev : Int
  next : Int
structure Slot where
  n : Nd
  taken : Bool
def Nd.zero : Nd := ⟨0, 0, 0, 0, 0, 0⟩
def Slot.zero : Slot := ⟨Nd.zero, false⟩
def Slot.cs (s : Slot) : List Value := [.int .u64 s.n.key, .int .u64 s.n.val, .int .i64 s.n.flag, .int .i64 s.n.tag, .int .i32 s.n.prev, .int .i32 s.n.next, .bool s.taken]
theorem Slot.cs_len (s : Slot) : s.cs.length = 7 := rfl
def flat (l : List Slot) : List Value := l.flatMap Slot.cs
theorem flat_nil : flat [] = [] := rfl
theorem flat_cons (s : Slot) (l : List Slot) : flat (s :: l) = s.cs ++ flat l := rfl
theorem flat_len (l : List Slot) : (flat l).length = l.length * 7 := by
  induction l with
  | nil => rfl
  | cons s l ih => rw [flat_cons, List.length_append, ih, Slot.cs_len, List.length_cons]; omega
theorem flat_append (l m : List Slot) : flat (l ++ m) = flat l ++ flat m := by simp [flat]
theorem flat_get {l : List Slot} {i : Nat} {s : Slot} (h : l[i]? = some s) (k : Nat) (hk : k < 7) : (flat l)[i * 7 + k]? = s.cs[k]? := by
  induction l generalizing i with
  | nil => simp at h
  | cons x l ih =>
    rw [flat_cons]
    cases i with
    | zero =>
      simp at h
      subst h
      rw [List.getElem?_append_left (by rw [Slot.cs_len]; omega)]
      congr 1
      omega
    | succ i =>
      rw [List.getElem?_append_right (by rw [Slot.cs_len]; omega), ← ih (by simpa using h)]
      congr 1
      rw [Slot.cs_len]
      omega
theorem flat_set {l : List Slot} {i : Nat} {s s' : Slot} (h : l[i]? = some s) (k : Nat) (hk : k < 7) (v : Value) (hs : s'.cs = s.cs.set k v) : (flat l).set (i * 7 + k) v = flat (l.set i s') := by
  induction l generalizing i with
  | nil => simp at h
  | cons x l ih =>
    cases i with
    | zero =>
      simp at h
      subst h
      rw [flat_cons, List.set_cons_zero, flat_cons, hs, List.set_append_left _ _ (by rw [Slot.cs_len]; omega)]
      congr 2
      omega
    | succ i =>
      rw [flat_cons, List.set_cons_succ, flat_cons, ← ih (by simpa using h), List.set_append_right _ _ (by rw [Slot.cs_len]; omega)]
      congr 2
      rw [Slot.cs_len]
      omega
theorem flat_setA {l : List Slot} {i : Nat} {s s' : Slot} (h : l[i]? = some s) (k : Nat) (hk : k < 7) (v : Value) (hs : s'.cs = s.cs.set k v) : (flat l).toArray.setIfInBounds (i * 7 + k) v = (flat (l.set i s')).toArray := by
  rw [← flat_set h k hk v hs]
  simp
theorem Blk.slotSet {w : World} {g : Nat} {T : TypeId} {l : List Slot} (hb : Blk w g (flat l).toArray T) {i : Nat} {s : Slot} (h : l[i]? = some s) (s' : Slot) (k : Nat) (hk : k < 7) (v : Value) (hs : s'.cs = s.cs.set k v) : Blk (w.setCell ⟨g, i * 7 + k, none⟩ v) g (flat (l.set i s')).toArray T :=
  (hb.set (i * 7 + k) v).cast (flat_setA h k hk v hs)

/-- An arena's state. -/
structure Arn where
  slots : List Slot
  freed : List Int
  next : Nat
  live : Nat
def Arn.slot (A : Arn) (i : Int) : Slot := (A.slots[i.toNat]?).getD Slot.zero
def Arn.is (A : Arn) (i : Int) : Bool := decide (0 < i) && (A.slot i).taken
def Arn.at_ (A : Arn) (i : Int) : Nd := if A.is i then (A.slot i).n else Nd.zero
def Arn.put (A : Arn) (i : Int) (n : Nd) : Arn := if A.is i then { A with slots := A.slots.set i.toNat ⟨n, true⟩ } else A
theorem Arn.is_lt {A : Arn} {i : Int} (h : A.is i = true) : 0 < i ∧ i < A.slots.length ∧ A.slots[i.toNat]? = some ⟨(A.slot i).n, true⟩ := by
  unfold Arn.is at h
  simp only [Bool.and_eq_true, decide_eq_true_eq] at h
  obtain ⟨h0, h1⟩ := h
  unfold Arn.slot at h1
  have hlt : i.toNat < A.slots.length := by
    rcases Nat.lt_or_ge i.toNat A.slots.length with h | h
    · exact h
    · rw [List.getElem?_eq_none h] at h1
      simp [Slot.zero] at h1
  refine ⟨h0, by omega, ?_⟩
  unfold Arn.slot
  rw [List.getElem?_eq_getElem hlt] at h1 ⊢
  simp at h1 ⊢
  rw [← h1]

structure ArenaAt (w : World) (B ga : Nat) (A : Arn) (gs : Nat) (fv : Value) : Prop where
  arena : Blk w ga #[.slice (some ⟨gs, 0, none⟩) A.slots.length A.slots.length, fv, .int .i64 A.next, .int .i64 A.live] 57
  slots : Blk w gs (flat A.slots).toArray 62
  freed : Row w B 21 1 fv A.freed.length (A.freed.map (Value.int .i32))
  ga_le : B ≤ ga
  gs_le : B ≤ gs
  small : A.slots.length ≤ 1000000
def ArenaIs (w : World) (B ga : Nat) (A : Arn) : Prop := ∃ gs fv, ArenaAt w B ga A gs fv

theorem ArenaAt.keep {w w' : World} {B ga : Nat} {A : Arn} {gs : Nat} {fv : Value} (h : ArenaAt w B ga A gs fv) (hb : Below w.heap.size w w') : ArenaAt w' B ga A gs fv :=
  ⟨h.arena.below hb h.arena.lt, h.slots.below hb h.slots.lt, h.freed.below hb, h.ga_le, h.gs_le, h.small⟩
theorem ArenaIs.keep {w w' : World} {B ga : Nat} {A : Arn} (h : ArenaIs w B ga A) (hb : Below w.heap.size w w') : ArenaIs w' B ga A := let ⟨gs, fv, h⟩ := h; ⟨gs, fv, h.keep hb⟩
theorem ArenaAt.kt {w w' : World} {B B' ga : Nat} {A : Arn} {gs : Nat} {fv : Value} (h : ArenaAt w B ga A gs fv) {Ts : List TypeId} (hb : KT B' Ts w w') (h1 : 57 ∉ Ts) (h2 : 62 ∉ Ts) (h3 : 21 ∉ Ts) : ArenaAt w' B ga A gs fv :=
  ⟨hb.blk h.arena h1, hb.blk h.slots h2, h.freed.kt hb h3, h.ga_le, h.gs_le, h.small⟩
theorem ArenaIs.kt {w w' : World} {B B' ga : Nat} {A : Arn} (h : ArenaIs w B ga A) {Ts : List TypeId} (hb : KT B' Ts w w') (h1 : 57 ∉ Ts) (h2 : 62 ∉ Ts) (h3 : 21 ∉ Ts) : ArenaIs w' B ga A := let ⟨gs, fv, h⟩ := h; ⟨gs, fv, h.kt hb h1 h2 h3⟩

section cells
variable {w : World} {B ga : Nat} {A : Arn} {gs : Nat} {fv : Value} (h : ArenaAt w B ga A gs fv)
include h
theorem ArenaAt.c0 : w.cell? ⟨ga, 0, none⟩ = some (.slice (some ⟨gs, 0, none⟩) A.slots.length A.slots.length) := h.arena.cell 0 rfl
theorem ArenaAt.c1 : w.cell? ⟨ga, 1, none⟩ = some fv := h.arena.cell 1 rfl
theorem ArenaAt.c2 : w.cell? ⟨ga, 2, none⟩ = some (.int .i64 A.next) := h.arena.cell 2 rfl
theorem ArenaAt.c3 : w.cell? ⟨ga, 3, none⟩ = some (.int .i64 A.live) := h.arena.cell 3 rfl
theorem ArenaAt.fa (i : Nat) : w.frozen? ⟨ga, i, none⟩ = false := h.arena.frozen i
theorem ArenaAt.fs (i : Nat) : w.frozen? ⟨gs, i, none⟩ = false := h.slots.frozen i
theorem ArenaAt.sc {i : Nat} {s : Slot} (hs : A.slots[i]? = some s) (k : Nat) (hk : k < 7) {v : Value} (hv : s.cs[k]? = some v) : w.cell? ⟨gs, i * 7 + k, none⟩ = some v :=
  h.slots.cell (i * 7 + k) (by rw [List.getElem?_toArray, flat_get hs k hk, hv])
theorem ArenaAt.ne : ga ≠ gs := h.arena.ne h.slots (by decide)
end cells

def I32 (i : Int) : Prop := -2147483648 ≤ i ∧ i ≤ 2147483647

set_option maxHeartbeats 400000 in
theorem arena_Is {w : World} {B ga : Nat} {A : Arn} (h : ArenaIs w B ga A) (i : Int) (hi : I32 i) : Calls Try.prog 49 #[.pointer (some ⟨ga, 0, none⟩), .int .i32 i] w fun e w' => e = .returned (.bool (A.is i)) ∧ w = w' := by
  obtain ⟨gs, fv, h⟩ := h
  obtain ⟨hi1, hi2⟩ := hi
  have h0 := h.c0
  have hsm := h.small
  by_cases h1 : 0 < i
  · by_cases h2 : i < A.slots.length
    · obtain ⟨n, rfl⟩ := Int.eq_ofNat_of_zero_le (Int.le_of_lt h1)
      have hlt : n < A.slots.length := by omega
      have hs : A.slots[n]? = some A.slots[n] := List.getElem?_eq_getElem hlt
      have h6 := h.sc hs 6 (by omega) rfl
      have e : A.is (n : Int) = A.slots[n].taken := by
        unfold Arn.is Arn.slot
        rw [decide_eq_true h1, Int.toNat_natCast, hs]
        rfl
      rw [e]
      clear e hs
      generalize A.slots[n].taken = b at *
      generalize A.slots.length = m at *
      go_enter Try.func49, Try.ntmps49
      go_wp2
      go_ret
      exact ⟨rfl, rfl⟩
    · have e : A.is i = false := by
        rw [← Bool.not_eq_true]
        intro hh
        exact h2 (Arn.is_lt hh).2.1
      rw [e]
      clear e
      generalize A.slots.length = m at *
      go_enter Try.func49, Try.ntmps49
      go_wp2
      go_ret
      exact ⟨rfl, rfl⟩
  · have e : A.is i = false := by simp [Arn.is, h1]
    rw [e]
    clear e
    go_enter Try.func49, Try.ntmps49
    go_wp2
    go_ret
    exact ⟨rfl, rfl⟩

set_option maxHeartbeats 400000 in
theorem arena_At {w : World} {B ga : Nat} {A : Arn} (hA : ArenaIs w B ga A) (i : Int) (hi : I32 i) : Calls Try.prog 31 #[.pointer (some ⟨ga, 0, none⟩), .int .i32 i] w fun e w' =>
    e = .returned (.agg #[.int .u64 (A.at_ i).key, .int .u64 (A.at_ i).val, .int .i64 (A.at_ i).flag, .int .i64 (A.at_ i).tag, .int .i32 (A.at_ i).prev, .int .i32 (A.at_ i).next]) ∧ Below w.heap.size w w' := by
  cases e : A.is i with
  | false =>
    have e2 : A.at_ i = Nd.zero := by simp [Arn.at_, e]
    rw [e2]
    clear e2
    unfold Nd.zero
    go_enter Try.func31, Try.ntmps31
    go_wp2_with (go_at_call 49; refine (arena_Is (hA.keep (by with_reducible repeat (first | exact Below.refl _ _ | assumption | refine Below.drew ?_ | refine Below.alloc ?_ (by simp; try omega) _ | refine Below.setCell ?_ (by simp; try omega) _ | refine pw_drewN ?_ _))) i hi).mono ?_; rw [e]; rintro e w' ⟨rfl, rfl⟩)
    go_wp2
    exact bodyPost_ret (v := .agg #[.int .u64 0, .int .u64 0, .int .i64 0, .int .i64 0, .int .i32 0, .int .i32 0]) (by simp [results, Try.results31, go_sem]) rfl ⟨rfl, (by with_reducible repeat (first | exact Below.refl _ _ | assumption | refine Below.drew ?_ | refine Below.alloc ?_ (by simp; try omega) _ | refine Below.setCell ?_ (by simp; try omega) _ | refine pw_drewN ?_ _))⟩
  | true =>
    have e2 : A.at_ i = (A.slot i).n := by simp [Arn.at_, e]
    obtain ⟨h1, h2, h3⟩ := Arn.is_lt e
    rw [e2]
    clear e2
    obtain ⟨n, rfl⟩ := Int.eq_ofNat_of_zero_le (Int.le_of_lt h1)
    rw [Int.toNat_natCast] at h3
    have hA' := hA
    obtain ⟨gs, fv, h⟩ := hA'
    have h0 := h.c0
    have hsm := h.small
    have k0 := h.sc h3 0 (by omega) rfl
    have k1 := h.sc h3 1 (by omega) rfl
    have k2 := h.sc h3 2 (by omega) rfl
    have k3 := h.sc h3 3 (by omega) rfl
    have k4 := h.sc h3 4 (by omega) rfl
    have k5 := h.sc h3 5 (by omega) rfl
    simp only [Nat.add_zero] at k0
    dsimp only at k0 k1 k2 k3 k4 k5
    have hlt := h.arena.lt
    have hlt2 := h.slots.lt
    clear h3
    have hIs := fun W (hb : Below w.heap.size w W) => arena_Is (hA.keep hb) (n : Int) hi
    rw [e] at hIs
    have HIs := hid hIs
    generalize (A.slot n).n = N at *
    obtain ⟨a0, a1, a2, a3, a4, a5⟩ := N
    dsimp only at k0 k1 k2 k3 k4 k5 ⊢
    generalize A.slots.length = m at *
    clear e hIs h hA
    go_enter Try.func31, Try.ntmps31
    go_wp2_with (go_at_call 49; refine (HIs.out _ (by with_reducible repeat (first | exact Below.refl _ _ | assumption | refine Below.drew ?_ | refine Below.alloc ?_ (by simp; try omega) _ | refine Below.setCell ?_ (by simp; try omega) _ | refine pw_drewN ?_ _))).mono ?_; rintro e w' ⟨rfl, rfl⟩)
    go_wp2
    exact bodyPost_ret (v := .agg #[.int .u64 a0, .int .u64 a1, .int .i64 a2, .int .i64 a3, .int .i32 a4, .int .i32 a5]) (by simp [results, Try.results31, go_sem]) rfl ⟨rfl, (by with_reducible repeat (first | exact Below.refl _ _ | assumption | refine Below.drew ?_ | refine Below.alloc ?_ (by simp; try omega) _ | refine Below.setCell ?_ (by simp; try omega) _ | refine pw_drewN ?_ _))⟩

theorem Arn.put_slots {A : Arn} {n : Nat} (e : A.is (n : Int) = true) (N : Nd) : A.put (n : Int) N = { A with slots := A.slots.set n ⟨N, true⟩ } := by
  unfold Arn.put
  rw [if_pos e, Int.toNat_natCast]

/-- Six stores into a slot. -/
theorem ArenaAt.put6 {w : World} {B ga : Nat} {A : Arn} {gs : Nat} {fv : Value} (h : ArenaAt w B ga A gs fv) {n : Nat} {N : Nd} {t : Bool} (hs : A.slots[n]? = some ⟨N, t⟩) (a0 a1 a2 a3 a4 a5 : Int) :
    ArenaAt ((((((w.setCell ⟨gs, n * 7, none⟩ (.int .u64 a0)).setCell ⟨gs, n * 7 + 1, none⟩ (.int .u64 a1)).setCell ⟨gs, n * 7 + 2, none⟩ (.int .i64 a2)).setCell ⟨gs, n * 7 + 3, none⟩ (.int .i64 a3)).setCell ⟨gs, n * 7 + 4, none⟩ (.int .i32 a4)).setCell ⟨gs, n * 7 + 5, none⟩ (.int .i32 a5)) B ga { A with slots := A.slots.set n ⟨⟨a0, a1, a2, a3, a4, a5⟩, t⟩ } gs fv ∧
    KT B [62] w ((((((w.setCell ⟨gs, n * 7, none⟩ (.int .u64 a0)).setCell ⟨gs, n * 7 + 1, none⟩ (.int .u64 a1)).setCell ⟨gs, n * 7 + 2, none⟩ (.int .i64 a2)).setCell ⟨gs, n * 7 + 3, none⟩ (.int .i64 a3)).setCell ⟨gs, n * 7 + 4, none⟩ (.int .i32 a4)).setCell ⟨gs, n * 7 + 5, none⟩ (.int .i32 a5)) := by
  have hlt : n < A.slots.length := (List.getElem?_eq_some_iff.1 hs).1
  have key : ∀ (w' : World) (l : List Slot) (s s' : Slot) (k : Nat) (v : Value), k < 7 → l.length = A.slots.length → l[n]? = some s → s'.cs = s.cs.set k v → Blk w' gs (flat l).toArray 62 → KT B [62] w w' →
      Blk (w'.setCell ⟨gs, n * 7 + k, none⟩ v) gs (flat (l.set n s')).toArray 62 ∧ KT B [62] w (w'.setCell ⟨gs, n * 7 + k, none⟩ v) ∧ (l.set n s')[n]? = some s' ∧ (l.set n s').length = A.slots.length := by
    intro w' l s s' k v hk hl hs hcs hb hkt
    refine ⟨hb.slotSet hs s' k hk v hcs, hkt.set hb (by simp) h.gs_le _ _, ?_, by simpa using hl⟩
    rw [List.getElem?_set_self (by omega)]
  obtain ⟨b1, q1, s1, l1⟩ := key w A.slots _ ⟨{ N with key := a0 }, t⟩ 0 (.int .u64 a0) (by omega) rfl hs rfl h.slots (KT.refl _ _ _)
  obtain ⟨b2, q2, s2, l2⟩ := key _ _ _ ⟨{ N with key := a0, val := a1 }, t⟩ 1 (.int .u64 a1) (by omega) l1 s1 rfl b1 q1
  obtain ⟨b3, q3, s3, l3⟩ := key _ _ _ ⟨{ N with key := a0, val := a1, flag := a2 }, t⟩ 2 (.int .i64 a2) (by omega) l2 s2 rfl b2 q2
  obtain ⟨b4, q4, s4, l4⟩ := key _ _ _ ⟨{ N with key := a0, val := a1, flag := a2, tag := a3 }, t⟩ 3 (.int .i64 a3) (by omega) l3 s3 rfl b3 q3
  obtain ⟨b5, q5, s5, l5⟩ := key _ _ _ ⟨{ N with key := a0, val := a1, flag := a2, tag := a3, prev := a4 }, t⟩ 4 (.int .i32 a4) (by omega) l4 s4 rfl b4 q4
  obtain ⟨b6, q6, s6, l6⟩ := key _ _ _ ⟨⟨a0, a1, a2, a3, a4, a5⟩, t⟩ 5 (.int .i32 a5) (by omega) l5 s5 rfl b5 q5
  simp only [List.set_set] at b6
  refine ⟨⟨?_, b6, ?_, h.ga_le, h.gs_le, by simpa using h.small⟩, q6⟩
  · have := q6.blk h.arena (by decide)
    simpa using this
  · exact h.freed.kt q6 (by decide)

set_option maxHeartbeats 800000 in
theorem arena_Set {w : World} {B ga : Nat} {A : Arn} (hA : ArenaIs w B ga A) (i : Int) (hi : I32 i) (a0 a1 a2 a3 a4 a5 : Int) : Calls Try.prog 36 #[.pointer (some ⟨ga, 0, none⟩), .int .i32 i, .agg #[.int .u64 a0, .int .u64 a1, .int .i64 a2, .int .i64 a3, .int .i32 a4, .int .i32 a5]] w fun e w' =>
    e = .returned (.bool (A.is i)) ∧ ArenaIs w' B ga (A.put i ⟨a0, a1, a2, a3, a4, a5⟩) ∧ KT B [62] w w' := by
  cases e : A.is i with
  | false =>
    have e2 : A.put i ⟨a0, a1, a2, a3, a4, a5⟩ = A := by simp [Arn.put, e]
    rw [e2]
    clear e2
    have hIs := fun W (hb : Below w.heap.size w W) => arena_Is (hA.keep hb) i hi
    rw [e] at hIs
    have HIs := hid hIs
    clear hIs e
    go_enter Try.func36, Try.ntmps36
    go_wp2_with (go_at_call 49; refine (HIs.out _ (by with_reducible repeat (first | exact Below.refl _ _ | assumption | refine Below.drew ?_ | refine Below.alloc ?_ (by simp; try omega) _ | refine Below.setCell ?_ (by simp; try omega) _ | refine pw_drewN ?_ _))).mono ?_; rintro e w' ⟨rfl, rfl⟩)
    go_wp2
    go_ret
    exact ⟨rfl, hA.keep (by with_reducible repeat (first | exact Below.refl _ _ | assumption | refine Below.drew ?_ | refine Below.alloc ?_ (by simp; try omega) _ | refine Below.setCell ?_ (by simp; try omega) _ | refine pw_drewN ?_ _)), KT.of_below (by with_reducible repeat (first | exact Below.refl _ _ | assumption | refine Below.drew ?_ | refine Below.alloc ?_ (by simp; try omega) _ | refine Below.setCell ?_ (by simp; try omega) _ | refine pw_drewN ?_ _)) _ _⟩
  | true =>
    obtain ⟨h1, h2, h3⟩ := Arn.is_lt e
    obtain ⟨n, rfl⟩ := Int.eq_ofNat_of_zero_le (Int.le_of_lt h1)
    rw [Arn.put_slots e]
    rw [Int.toNat_natCast] at h3
    have hA' := hA
    obtain ⟨gs, fv, h⟩ := hA'
    have h0 := h.c0
    have hsm := h.small
    have k0 := h.sc h3 0 (by omega) rfl
    have k1 := h.sc h3 1 (by omega) rfl
    have k2 := h.sc h3 2 (by omega) rfl
    have k3 := h.sc h3 3 (by omega) rfl
    have k4 := h.sc h3 4 (by omega) rfl
    have k5 := h.sc h3 5 (by omega) rfl
    simp only [Nat.add_zero] at k0
    dsimp only at k0 k1 k2 k3 k4 k5
    have hlt := h.arena.lt
    have hlt2 := h.slots.lt
    have hfz := h.fs
    have hne := h.ne
    have hIs := fun W (hb : Below w.heap.size w W) => arena_Is (hA.keep hb) (n : Int) hi
    rw [e] at hIs
    have HIs := hid hIs
    have HA := hid h
    have HB := hid h3
    have he : (A.slots.length : Int) = (A.slots.length : Nat) := rfl
    generalize hm : A.slots.length = m at *
    have Hm := hid hm
    clear e hIs h hA h3 hm he
    go_enter Try.func36, Try.ntmps36
    go_wp2_with (go_at_call 49; refine (HIs.out _ (by with_reducible repeat (first | exact Below.refl _ _ | assumption | refine Below.drew ?_ | refine Below.alloc ?_ (by simp; try omega) _ | refine Below.setCell ?_ (by simp; try omega) _ | refine pw_drewN ?_ _))).mono ?_; rintro e w' ⟨rfl, rfl⟩)
    go_region
    go_wp2
    go_ret
    obtain ⟨r1, r2⟩ := HA.out.put6 HB.out a0 a1 a2 a3 a4 a5
    exact ⟨rfl, ⟨gs, fv, (r1.keep (by with_reducible repeat (first | exact Below.refl _ _ | assumption | refine Below.drew ?_ | refine Below.alloc ?_ (by simp; try omega) _ | refine Below.setCell ?_ (by simp; try omega) _ | refine pw_drewN ?_ _)))⟩, (r2.alloc _).drew⟩

/-- .. and the mark. -/
theorem ArenaAt.put7 {w : World} {B ga : Nat} {A : Arn} {gs : Nat} {fv : Value} (h : ArenaAt w B ga A gs fv) {n : Nat} {N : Nd} {t : Bool} (hs : A.slots[n]? = some ⟨N, t⟩) (a0 a1 a2 a3 a4 a5 : Int) (t' : Bool) :
    ArenaAt (((((((w.setCell ⟨gs, n * 7, none⟩ (.int .u64 a0)).setCell ⟨gs, n * 7 + 1, none⟩ (.int .u64 a1)).setCell ⟨gs, n * 7 + 2, none⟩ (.int .i64 a2)).setCell ⟨gs, n * 7 + 3, none⟩ (.int .i64 a3)).setCell ⟨gs, n * 7 + 4, none⟩ (.int .i32 a4)).setCell ⟨gs, n * 7 + 5, none⟩ (.int .i32 a5)).setCell ⟨gs, n * 7 + 6, none⟩ (.bool t')) B ga { A with slots := A.slots.set n ⟨⟨a0, a1, a2, a3, a4, a5⟩, t'⟩ } gs fv ∧
    KT B [62] w (((((((w.setCell ⟨gs, n * 7, none⟩ (.int .u64 a0)).setCell ⟨gs, n * 7 + 1, none⟩ (.int .u64 a1)).setCell ⟨gs, n * 7 + 2, none⟩ (.int .i64 a2)).setCell ⟨gs, n * 7 + 3, none⟩ (.int .i64 a3)).setCell ⟨gs, n * 7 + 4, none⟩ (.int .i32 a4)).setCell ⟨gs, n * 7 + 5, none⟩ (.int .i32 a5)).setCell ⟨gs, n * 7 + 6, none⟩ (.bool t')) := by
  have hlt : n < A.slots.length := (List.getElem?_eq_some_iff.1 hs).1
  obtain ⟨r1, r2⟩ := h.put6 hs a0 a1 a2 a3 a4 a5
  have hs1 : (A.slots.set n ⟨⟨a0, a1, a2, a3, a4, a5⟩, t⟩)[n]? = some ⟨⟨a0, a1, a2, a3, a4, a5⟩, t⟩ := List.getElem?_set_self hlt
  have b7 := r1.slots.slotSet hs1 ⟨⟨a0, a1, a2, a3, a4, a5⟩, t'⟩ 6 (by omega) (.bool t') rfl
  have q7 := r2.set r1.slots (by simp) h.gs_le (n * 7 + 6) (.bool t')
  simp only [List.set_set] at b7
  refine ⟨⟨?_, b7, h.freed.kt q7 (by decide), h.ga_le, h.gs_le, by simpa using h.small⟩, q7⟩
  have := q7.blk h.arena (by decide)
  simpa using this
/-- A store into the arena's own struct. -/
theorem ArenaAt.setFreed {w : World} {B ga : Nat} {A : Arn} {gs : Nat} {fv : Value} (h : ArenaAt w B ga A gs fv) (fv' : Value) (xs : List Int) (hr : Row w B 21 1 fv' xs.length (xs.map (Value.int .i32))) :
    ArenaAt (w.setCell ⟨ga, 1, none⟩ fv') B ga { A with freed := xs } gs fv' ∧ KT B [57] w (w.setCell ⟨ga, 1, none⟩ fv') := by
  have q := (KT.refl B [57] w).set h.arena (by simp) h.ga_le 1 fv'
  exact ⟨⟨(h.arena.set 1 fv').cast rfl, q.blk h.slots (by decide), hr.kt q (by decide), h.ga_le, h.gs_le, h.small⟩, q⟩
theorem ArenaAt.setNext {w : World} {B ga : Nat} {A : Arn} {gs : Nat} {fv : Value} (h : ArenaAt w B ga A gs fv) (x : Nat) {k : Int} (hk : k = x) :
    ArenaAt (w.setCell ⟨ga, 2, none⟩ (.int .i64 k)) B ga { A with next := x } gs fv ∧ KT B [57] w (w.setCell ⟨ga, 2, none⟩ (.int .i64 k)) := by
  subst hk
  have q := (KT.refl B [57] w).set h.arena (by simp) h.ga_le 2 (.int .i64 x)
  exact ⟨⟨(h.arena.set 2 _).cast rfl, q.blk h.slots (by decide), h.freed.kt q (by decide), h.ga_le, h.gs_le, h.small⟩, q⟩
theorem ArenaAt.setLive {w : World} {B ga : Nat} {A : Arn} {gs : Nat} {fv : Value} (h : ArenaAt w B ga A gs fv) (x : Nat) {k : Int} (hk : k = x) :
    ArenaAt (w.setCell ⟨ga, 3, none⟩ (.int .i64 k)) B ga { A with live := x } gs fv ∧ KT B [57] w (w.setCell ⟨ga, 3, none⟩ (.int .i64 k)) := by
  subst hk
  have q := (KT.refl B [57] w).set h.arena (by simp) h.ga_le 3 (.int .i64 x)
  exact ⟨⟨(h.arena.set 3 _).cast rfl, q.blk h.slots (by decide), h.freed.kt q (by decide), h.ga_le, h.gs_le, h.small⟩, q⟩
/-- A shorter row, with no room behind it. -/
theorem Row.cut {w : World} {B : Nat} {e : TypeId} {sz n c g : Nat} {xs : List Value} (h : Row w B e sz (.slice (some ⟨g, 0, none⟩) n c) n xs) (m : Nat) (hm : m ≤ n) : Row w B e sz (.slice (some ⟨g, 0, none⟩) m m) m (xs.take (m * sz)) := by
  obtain ⟨hl, h⟩ := h
  have hle := Nat.mul_le_mul_right sz hm
  refine ⟨by rw [List.length_take, hl]; omega, .inr ?_⟩
  rcases h with ⟨h, _⟩ | ⟨g', cap, cur, hv, hg, hb, h1, h2, h3, h4⟩
  · cases h
  · simp only [Value.slice.injEq, Option.some.injEq, Addr.mk.injEq, and_true] at hv
    obtain ⟨rfl, _, rfl⟩ := hv
    have hcap := Nat.mul_le_mul_right sz (Nat.le_trans hm h1)
    refine ⟨g, m, cur, rfl, hg, hb, Nat.le_refl _, by omega, by omega, ?_⟩
    rw [← h4, List.take_take]
    congr 1
    omega

theorem Try.info_slot : (Try.prog.info? 62).map (fun i => (i.zero, i.size, i.bytes)) = some (some (.agg #[.int .u64 0, .int .u64 0, .int .i64 0, .int .i64 0, .int .i32 0, .int .i32 0, .bool false]), 7, 48) := by kernel_rfl
theorem Try.info_i32 : (Try.prog.info? 21).map (fun i => (i.zero, i.size, i.bytes)) = some (some (.int .i32 0), 1, 4) := by kernel_rfl
theorem flat_zeros (n : Nat) : (List.replicate n (Value.agg #[.int .u64 0, .int .u64 0, .int .i64 0, .int .i64 0, .int .i32 0, .int .i32 0, .bool false]).cells.toList).flatten = flat (List.replicate n Slot.zero) := by
  induction n with
  | zero => rfl
  | succ n ih => rw [List.replicate_succ, List.flatten_cons, ih, List.replicate_succ, flat_cons]; rfl

def Arn.new (r : Nat) : Arn := { slots := List.replicate (1 + r) Slot.zero, freed := [], next := 1, live := 0 }
set_option maxHeartbeats 400000 in
theorem arena_New {w : World} (B : Nat) (hB : B ≤ w.heap.size) (r : Nat) (h1 : 1 ≤ r) (h2 : r ≤ 100) : Calls Try.prog 8 #[.int .i64 r] w fun e w' =>
    ∃ ga, e = .returned (.pointer (some ⟨ga, 0, none⟩)) ∧ ArenaIs w' B ga (Arn.new r) ∧ Below w.heap.size w w' ∧ w.heap.size ≤ ga := by
  obtain ⟨i0, hi, hz0, hz1, hz2⟩ := info_parts Try.info_slot
  go_enter Try.func8, Try.ntmps8
  go_wp2_with (at_make; refine wpList_make_blk _ rfl _ _ 55 rfl 62 i0 _ 7 48 Try.underlying55 hi hz0 hz1 hz2 rfl (by decide) .i64 .i64 _ _ (1 + r) rfl rfl (by omega) (by omega) (by omega) (by omega) ?_)
  go_ret
  rw [show (List.replicate (1 + r) [Value.int .u64 0, .int .u64 0, .int .i64 0, .int .i64 0, .int .i32 0, .int .i32 0, .bool false]).flatten = flat (List.replicate (1 + r) Slot.zero) from flat_zeros (1 + r)]
  refine ⟨w.heap.size + 1, rfl, ⟨w.heap.size, .slice none 0 0, ?_, ?_, Row.nil _ _ _ _, by omega, hB, ?_⟩, (by with_reducible repeat (first | exact Below.refl _ _ | assumption | refine Below.drew ?_ | refine Below.alloc ?_ (by simp; try omega) _ | refine Below.setCell ?_ (by simp; try omega) _ | refine pw_drewN ?_ _)), by omega⟩
  · refine (Blk.new' _ _ _ _ (by simp)).cast ?_
    simp [Arn.new]
  · exact (Blk.new w _ _).alloc _
  · simp [Arn.new]; omega

theorem zeros_get (n i : Nat) (h : i < n) : (List.replicate n Slot.zero)[i]? = some Slot.zero := by
  rw [List.getElem?_replicate]
  simp [h]

set_option maxRecDepth 100000 in
set_option maxHeartbeats 800000 in
theorem arena_grow {w : World} {B ga : Nat} {A : Arn} (hA : ArenaIs w B ga A) (hB : B ≤ w.heap.size) (hn : 2 * A.slots.length ≤ 1000000) (hpos : 0 < A.slots.length) : Calls Try.prog 28 #[.pointer (some ⟨ga, 0, none⟩)] w fun e w' =>
    e = .returned (.tuple #[]) ∧ ArenaIs w' B ga { A with slots := A.slots ++ List.replicate A.slots.length Slot.zero } ∧ KT B [57] w w' := by
  obtain ⟨i0, hi, hz0, hz1, hz2⟩ := info_parts Try.info_slot
  obtain ⟨gs, fv, h⟩ := hA
  have h0 := h.c0
  have hlt := h.arena.lt
  have hlt2 := h.slots.lt
  have hfa := h.fa
  have HA := hid h
  generalize hm : A.slots.length = m at *
  have Hm := hid hm
  have Hsz := hid (flat_len A.slots)
  rw [hm] at Hsz
  have Hc : ∀ j v, (flat A.slots)[j]? = some v → ∀ o, (w.alloc o).cell? ((⟨gs, 0, none⟩ : Addr).add j) = some v := fun j v hv o => by
    have : (⟨gs, 0, none⟩ : Addr).add j = ⟨gs, j, none⟩ := by unfold Addr.add; split <;> simp_all
    rw [this]
    exact (h.slots.alloc o).cell j (by rw [List.getElem?_toArray, hv])
  have HC := hid Hc
  have hcells := flat_zeros (2 * m)
  have HCells := hid hcells
  have hnew := hid (flat_len (List.replicate (2 * m) Slot.zero))
  have H1 : ∀ l : List Slot, ∀ v ∈ flat l, v.oneCell' = true := by
    intro l v hv
    simp only [flat, List.mem_flatMap] at hv
    obtain ⟨s, _, hs⟩ := hv
    simp only [Slot.cs, List.mem_cons, List.not_mem_nil, or_false] at hs
    rcases hs with rfl | rfl | rfl | rfl | rfl | rfl | rfl <;> rfl
  have HO := hid H1
  clear h hm Hc hcells H1
  go_enter Try.func28, Try.ntmps28
  go_wp2_with (first | (at_make; refine wpList_make_blk _ rfl _ _ 55 rfl 62 i0 _ 7 48 Try.underlying55 hi hz0 hz1 hz2 rfl (by decide) .i64 .i64 _ _ (2 * m) rfl rfl (by omega) (by omega) (by omega) (by omega) ?_; rw [HCells.out]) | (refine wpList_copy_any _ rfl (.tmp 10) (.tmp 14) 55 55 rfl 62 7 Try.underlying55 (by rw [hi]; simp [hz1]) w.heap.size 0 (2 * m) (2 * m) ⟨gs, 0, none⟩ m m rfl rfl _ _ (Blk.new w _ _) (flat A.slots) ?c1 ?c2 ?c3 ?c4 ?k; case' k => go_must (intro w1 hb1 ho1 hs1; have HB1 := hid hb1; have HO1 := hid ho1; have HS1 := hid hs1; clear hb1 ho1 hs1; have HB2 := hid (HO1.out.below (B := w.heap.size) (by simp) (Nat.le_refl _)); have HB3 := hid ((((Below.refl _ w).alloc (Nat.le_refl _) (.cells (flat (List.replicate (2 * m) Slot.zero)).toArray 62)).trans HB2.out)); have HAW := hid (HA.out.keep HB3.out); have hlt' := HAW.out.arena.lt; have hfa' := HAW.out.fa; have h0' := HAW.out.c0; rw [Hm.out] at h0'; clear h0 hfa)))
  case c1 => rw [Hsz.out]; congr 1; exact (Nat.min_eq_left (by omega)).symm
  case c2 => exact fun j v hv => HC.out j v hv _
  case c3 => simp only [List.size_toArray]; rw [hnew.out, Hsz.out, List.length_replicate]; omega
  case c4 => exact HO.out _
  have hd : (flat (List.replicate (2 * m) Slot.zero)).drop (0 + (flat A.slots).length) = flat (List.replicate m Slot.zero) := by
    rw [show 2 * m = m + m by omega, ← List.replicate_append_replicate, flat_append, List.drop_left']
    rw [flat_len, List.length_replicate, Hsz.out]
    omega
  have hblk := HB1.out
  simp only [List.take_zero, List.nil_append, hd, ← flat_append] at hblk
  go_end0
  have hkt := ((KT.refl B [57] w).alloc (.cells (flat (List.replicate (2 * m) Slot.zero)).toArray 62)).only HO1.out (Blk.new w _ _) (.inl (Nat.le_refl _))
  have hneq : ga ≠ w.heap.size := Nat.ne_of_lt hlt
  have hne2 : w.heap.size ≠ ga := Ne.symm hneq
  have q := hkt.set HAW.out.arena (by simp) HAW.out.ga_le 0 (.slice (some ⟨w.heap.size, 0, none⟩) (2 * m) (2 * m))
  refine ⟨rfl, ⟨w.heap.size, fv, ?_, ?_, ?_, HA.out.ga_le, hB, ?_⟩, q⟩
  · refine (HAW.out.arena.set 0 _).cast ?_
    have := Hm.out
    simp
    omega
  · exact hblk.oth hne2 _
  · refine HAW.out.freed.keep fun g c hg hb => hb.oth ?_ _
    rintro rfl
    have := (hb.inj HAW.out.arena).2
    revert this
    decide
  · have := Hm.out
    simp
    omega

theorem drop_last_map {fs : List Int} {x : Int} : ((fs ++ [x]).map (Value.int .i32)).take (fs.length * 1) = fs.map (Value.int .i32) := by
  rw [Nat.mul_one, List.map_append, List.take_left']
  simp

set_option maxHeartbeats 800000 in
theorem arena_Alloc_freed {w : World} {B ga : Nat} {A : Arn} (hA : ArenaIs w B ga A) (fs : List Int) (x : Int) (hf : A.freed = fs ++ [x]) (hx : 0 < x ∧ x < A.slots.length) (hl : A.live ≤ 1000000) (hfl : fs.length ≤ 1000000) :
    Calls Try.prog 9 #[.pointer (some ⟨ga, 0, none⟩)] w fun e w' =>
    e = .returned (.int .i32 x) ∧ ArenaIs w' B ga { A with slots := A.slots.set x.toNat ⟨Nd.zero, true⟩, freed := fs, live := A.live + 1 } ∧ KT B [57, 62] w w' := by
  obtain ⟨hx0, hx1⟩ := hx
  obtain ⟨n, rfl⟩ := Int.eq_ofNat_of_zero_le (Int.le_of_lt hx0)
  rw [Int.toNat_natCast]
  obtain ⟨gs, fv, h⟩ := hA
  have hr := h.freed
  rw [hf] at hr
  obtain ⟨gf, cap, cur, rfl, hgf, hbf, hfc, hcm, hcs, hcx⟩ := hr.at_pos (by simp)
  have hcutr := hr.cut fs.length (by simp)
  rw [drop_last_map] at hcutr
  have hcell := row_cell hbf hcx fs.length (v := .int .i32 (n : Int)) (by simp)
  obtain ⟨⟨N, tk⟩, hs⟩ : ∃ s, A.slots[n]? = some s := ⟨_, List.getElem?_eq_getElem (by omega)⟩
  have k0 := h.sc hs 0 (by omega) rfl
  have k1 := h.sc hs 1 (by omega) rfl
  have k2 := h.sc hs 2 (by omega) rfl
  have k3 := h.sc hs 3 (by omega) rfl
  have k4 := h.sc hs 4 (by omega) rfl
  have k5 := h.sc hs 5 (by omega) rfl
  have k6 := h.sc hs 6 (by omega) rfl
  simp only [Nat.add_zero] at k0
  dsimp only at k0 k1 k2 k3 k4 k5 k6
  obtain ⟨b0, b1, b2, b3, b4, b5⟩ := N
  dsimp only at k0 k1 k2 k3 k4 k5
  have h0 := h.c0
  have h1 := h.c1
  have h2 := h.c2
  have h3 := h.c3
  have hfa := h.fa
  have hfs := h.fs
  have hne := h.ne
  have hsm := h.small
  have HA := hid h
  have HS := hid hs
  have HR := hid hcutr
  have hlen : (fs ++ [(n : Int)]).length = fs.length + 1 := by simp
  rw [hlen] at h1 hfc
  have hlv := hl
  clear hcutr hcx hbf hr hs h hf hlen hl hcm hcs
  generalize hm : A.slots.length = m at *
  generalize hq : fs.length = q at *
  generalize hlv2 : A.live = lv at *
  generalize hnx : A.next = nx at *
  have HM := hid hm
  have HQ := hid hq
  have HL := hid hlv2
  have HN := hid hnx
  clear hm hq hlv2 hnx
  go_enter Try.func9, Try.ntmps9
  go_wp2
  go_ret
  have hr := HR.out
  obtain rfl := HM.out
  obtain rfl := HQ.out
  obtain rfl := HL.out
  obtain rfl := HN.out
  obtain ⟨r1, q1⟩ := HA.out.setFreed (.slice (some ⟨gf, 0, none⟩) fs.length fs.length) fs hr
  obtain ⟨r2, q2⟩ := r1.put7 (n := n) HS.out 0 0 0 0 0 0 true
  obtain ⟨r3, q3⟩ := r2.setLive (A.live + 1) (k := (A.live : Int) + 1) (by omega)
  exact ⟨rfl, ⟨gs, _, r3⟩, ((q1.mono (Nat.le_refl _) (by simp)).trans q2 (Nat.le_refl _) (by simp)).trans q3 (Nat.le_refl _) (by simp)⟩

set_option maxHeartbeats 800000 in
theorem arena_Alloc_next {w : World} {B ga : Nat} {A : Arn} (hA : ArenaIs w B ga A) (hf : A.freed = []) (hx1 : A.next < A.slots.length) (hl : A.live ≤ 1000000) :
    Calls Try.prog 9 #[.pointer (some ⟨ga, 0, none⟩)] w fun e w' =>
    e = .returned (.int .i32 A.next) ∧ ArenaIs w' B ga { A with slots := A.slots.set A.next ⟨Nd.zero, true⟩, next := A.next + 1, live := A.live + 1 } ∧ KT B [57, 62] w w' := by
  obtain ⟨gs, fv, h⟩ := hA
  have hr := h.freed
  rw [hf] at hr
  obtain ⟨AF, cap, rfl, _, _⟩ := hr.slice
  clear hr
  obtain ⟨⟨N, tk⟩, hs⟩ : ∃ s, A.slots[A.next]? = some s := ⟨_, List.getElem?_eq_getElem (by omega)⟩
  have k0 := h.sc hs 0 (by omega) rfl
  have k1 := h.sc hs 1 (by omega) rfl
  have k2 := h.sc hs 2 (by omega) rfl
  have k3 := h.sc hs 3 (by omega) rfl
  have k4 := h.sc hs 4 (by omega) rfl
  have k5 := h.sc hs 5 (by omega) rfl
  have k6 := h.sc hs 6 (by omega) rfl
  simp only [Nat.add_zero] at k0
  dsimp only at k0 k1 k2 k3 k4 k5 k6
  obtain ⟨b0, b1, b2, b3, b4, b5⟩ := N
  dsimp only at k0 k1 k2 k3 k4 k5
  have h0 := h.c0
  have h1 := h.c1
  have h2 := h.c2
  have h3 := h.c3
  have hfa := h.fa
  have hfs := h.fs
  have hne := h.ne
  have hsm := h.small
  have HA := hid h
  have HS := hid hs
  rw [List.length_nil] at h1
  clear hs h hf
  generalize hm : A.slots.length = m at *
  generalize hlv2 : A.live = lv at *
  generalize hnx : A.next = n at *
  have HM := hid hm
  have HL := hid hlv2
  have HN := hid hnx
  clear hm hlv2 hnx
  go_enter Try.func9, Try.ntmps9
  go_wp2
  go_region
  go_wp2
  go_ret
  obtain rfl := HM.out
  obtain rfl := HL.out
  obtain rfl := HN.out
  obtain ⟨r1, q1⟩ := HA.out.setNext (A.next + 1) (k := (A.next : Int) + 1) (by omega)
  obtain ⟨r2, q2⟩ := r1.put7 (n := A.next) HS.out 0 0 0 0 0 0 true
  obtain ⟨r3, q3⟩ := r2.setLive (A.live + 1) (k := (A.live : Int) + 1) (by omega)
  exact ⟨rfl, ⟨gs, _, r3.keep (by with_reducible repeat (first | exact Below.refl _ _ | assumption | refine Below.drew ?_ | refine Below.alloc ?_ (by simp; try omega) _ | refine Below.setCell ?_ (by simp; try omega) _ | refine pw_drewN ?_ _))⟩, (((q1.mono (Nat.le_refl _) (by simp)).trans q2 (Nat.le_refl _) (by simp)).trans q3 (Nat.le_refl _) (by simp)).drew⟩

set_option maxHeartbeats 800000 in
theorem arena_Alloc_grow {w : World} {B ga : Nat} {A : Arn} (hA : ArenaIs w B ga A) (hB : B ≤ w.heap.size) (hf : A.freed = []) (hx1 : A.next = A.slots.length) (hx2 : 0 < A.next) (hl : A.live ≤ 1000000) (hn : 2 * A.slots.length ≤ 1000000) :
    Calls Try.prog 9 #[.pointer (some ⟨ga, 0, none⟩)] w fun e w' =>
    e = .returned (.int .i32 A.next) ∧ ArenaIs w' B ga { A with slots := (A.slots ++ List.replicate A.slots.length Slot.zero).set A.next ⟨Nd.zero, true⟩, next := A.next + 1, live := A.live + 1 } ∧ KT B [57, 62] w w' := by
  have hgrow := fun W (hb : Below w.heap.size w W) => arena_grow (w := W) (hA.keep hb) (Nat.le_trans hB hb.size) hn (by omega)
  have HG := hid hgrow
  obtain ⟨gs, fv, h⟩ := hA
  have hr := h.freed
  rw [hf] at hr
  obtain ⟨AF, cap, rfl, _, _⟩ := hr.slice
  clear hr hgrow
  have h0 := h.c0
  have h1 := h.c1
  have h2 := h.c2
  rw [List.length_nil] at h1
  rw [← hx1] at h0
  have hz : (A.slots ++ List.replicate A.slots.length Slot.zero)[A.next]? = some Slot.zero := by
    rw [hx1, List.getElem?_append_right (Nat.le_refl _), Nat.sub_self]
    exact zeros_get _ _ (by omega)
  have hll : (A.slots ++ List.replicate A.slots.length Slot.zero).length = A.next + A.next := by simp; omega
  have HZ := hid hz
  have HLL := hid hll
  have hb : A.next ≤ 500000 := by omega
  clear h hf hn hx1 hz hll
  generalize hnx : A.next = n at *
  generalize hlv : A.live = lv at *
  have HN := hid hnx
  have HL := hid hlv
  clear hnx hlv
  go_enter Try.func9, Try.ntmps9
  go_wp2
  go_region
  go_wp2_with (go_at_call 28; refine (HG.out _ (by with_reducible repeat (first | exact Below.refl _ _ | assumption | refine Below.drew ?_ | refine Below.alloc ?_ (by simp; try omega) _ | refine Below.setCell ?_ (by simp; try omega) _ | refine pw_drewN ?_ _))).mono ?_; go_must (rintro e w1 ⟨rfl, hA1, hk1⟩; obtain ⟨gs1, fv1, g⟩ := hA1; have HK := hid hk1; have HA := hid g; have c0 := g.c0; have c1 := g.c1; have c2 := g.c2; have c3 := g.c3; have hfa := g.fa; have hfs := g.fs; have hne := g.ne; have k0 := g.sc HZ.out 0 (by omega) rfl; have k1 := g.sc HZ.out 1 (by omega) rfl; have k2 := g.sc HZ.out 2 (by omega) rfl; have k3 := g.sc HZ.out 3 (by omega) rfl; have k4 := g.sc HZ.out 4 (by omega) rfl; have k5 := g.sc HZ.out 5 (by omega) rfl; have k6 := g.sc HZ.out 6 (by omega) rfl; simp only [Nat.add_zero] at k0; dsimp only [Slot.zero, Nd.zero] at k0 k1 k2 k3 k4 k5 k6 c1 c2 c3; rw [HLL.out] at c0; clear g hk1 h0 h1 h2))
  go_ret
  obtain rfl := HN.out
  obtain rfl := HL.out
  have hA1 := HA.out
  obtain ⟨r1, q1⟩ := hA1.setNext (A.next + 1) (k := (A.next : Int) + 1) (by omega)
  obtain ⟨r2, q2⟩ := r1.put7 (n := A.next) HZ.out 0 0 0 0 0 0 true
  obtain ⟨r3, q3⟩ := r2.setLive (A.live + 1) (k := (A.live : Int) + 1) (by omega)
  exact ⟨rfl, ⟨gs1, _, r3⟩, (((((KT.refl B [57, 62] w).drew).trans HK.out (Nat.le_refl _) (by simp)).trans q1 (Nat.le_refl _) (by simp)).trans q2 (Nat.le_refl _) (by simp)).trans q3 (Nat.le_refl _) (by simp)⟩

end Go.Proofs.Ytfcfbfingnpnoaa
