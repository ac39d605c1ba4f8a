/-
  Lists of slots in memory, and what their functions do there.
-/
import Derived.Test.YtfcfbfingnpnoaaArenaF
set_option linter.unusedVariables false
set_option linter.unusedSimpArgs false
namespace Go.Proofs.Ytfcfbfingnpnoaa
open Go.RowKit

structure L3 where
  front : Int
  back : Int
  many : Nat
def L3.zero : L3 := ⟨0, 0, 0⟩
def L3.cs (s : L3) : List Value := [.int .i32 s.front, .int .i32 s.back, .int .i64 s.many]
theorem L3.cs_len (s : L3) : s.cs.length = 3 := rfl
def flat3 (l : List L3) : List Value := l.flatMap L3.cs
theorem flat3_cons (s : L3) (l : List L3) : flat3 (s :: l) = s.cs ++ flat3 l := rfl
theorem flat3_len (l : List L3) : (flat3 l).length = l.length * 3 := by
  induction l with
  | nil => rfl
  | cons s l ih => rw [flat3_cons, List.length_append, ih, L3.cs_len, List.length_cons]; omega
theorem flat3_get {l : List L3} {i : Nat} {s : L3} (h : l[i]? = some s) (k : Nat) (hk : k < 3) : (flat3 l)[i * 3 + k]? = s.cs[k]? := by
  induction l generalizing i with
  | nil => simp at h
  | cons x l ih =>
    rw [flat3_cons]
    cases i with
    | zero =>
      simp at h
      subst h
      rw [List.getElem?_append_left (by rw [L3.cs_len]; omega)]
      congr 1
      omega
    | succ i =>
      rw [List.getElem?_append_right (by rw [L3.cs_len]; omega), ← ih (by simpa using h)]
      congr 1
      rw [L3.cs_len]
      omega
theorem flat3_set {l : List L3} {i : Nat} {s s' : L3} (h : l[i]? = some s) (k : Nat) (hk : k < 3) (v : Value) (hs : s'.cs = s.cs.set k v) : (flat3 l).set (i * 3 + k) v = flat3 (l.set i s') := by
  induction l generalizing i with
  | nil => simp at h
  | cons x l ih =>
    cases i with
    | zero =>
      simp at h
      subst h
      rw [flat3_cons, List.set_cons_zero, flat3_cons, hs, List.set_append_left _ _ (by rw [L3.cs_len]; omega)]
      congr 2
      omega
    | succ i =>
      rw [flat3_cons, List.set_cons_succ, flat3_cons, ← ih (by simpa using h), List.set_append_right _ _ (by rw [L3.cs_len]; omega)]
      congr 2
      rw [L3.cs_len]
      omega
theorem Blk.l3Set {w : World} {g : Nat} {T : TypeId} {l : List L3} (hb : Blk w g (flat3 l).toArray T) {i : Nat} {s : L3} (h : l[i]? = some s) (s' : L3) (k : Nat) (hk : k < 3) (v : Value) (hs : s'.cs = s.cs.set k v) : Blk (w.setCell ⟨g, i * 3 + k, none⟩ v) g (flat3 (l.set i s')).toArray T := by
  refine (hb.set (i * 3 + k) v).cast ?_
  rw [← flat3_set h k hk v hs]
  simp

/-- Lists of an arena's slots. -/
structure Lst where
  A : Arn
  ls : List L3
def Lst.get (S : Lst) (tag : Int) : Option L3 := if 0 ≤ tag then S.ls[tag.toNat]? else none
def Lst.tag (S : Lst) (i : Int) : Int := (S.A.at_ i).tag - 1
def Lst.front (S : Lst) (tag : Int) : Int := match S.get tag with | some l => l.front | none => 0
def Lst.back (S : Lst) (tag : Int) : Int := match S.get tag with | some l => l.back | none => 0
def Lst.len (S : Lst) (tag : Int) : Nat := match S.get tag with | some l => l.many | none => 0

structure ListsAt (w : World) (B gl ga gll : Nat) (S : Lst) : Prop where
  lists : Blk w gl #[.pointer (some ⟨ga, 0, none⟩), .slice (some ⟨gll, 0, none⟩) S.ls.length S.ls.length] 65
  heads : Blk w gll (flat3 S.ls).toArray 69
  arena : ArenaIs w B ga S.A
  gl_le : B ≤ gl
  gll_le : B ≤ gll
  few : S.ls.length ≤ 8
theorem ListsAt.keep {w w' : World} {B gl ga gll : Nat} {S : Lst} (h : ListsAt w B gl ga gll S) (hb : Below w.heap.size w w') : ListsAt w' B gl ga gll S :=
  ⟨h.lists.below hb h.lists.lt, h.heads.below hb h.heads.lt, h.arena.keep hb, h.gl_le, h.gll_le, h.few⟩
section cells
variable {w : World} {B gl ga gll : Nat} {S : Lst} (h : ListsAt w B gl ga gll S)
include h
theorem ListsAt.c0 : w.cell? ⟨gl, 0, none⟩ = some (.pointer (some ⟨ga, 0, none⟩)) := h.lists.cell 0 rfl
theorem ListsAt.c1 : w.cell? ⟨gl, 1, none⟩ = some (.slice (some ⟨gll, 0, none⟩) S.ls.length S.ls.length) := h.lists.cell 1 rfl
theorem ListsAt.hc {i : Nat} {s : L3} (hs : S.ls[i]? = some s) (k : Nat) (hk : k < 3) {v : Value} (hv : s.cs[k]? = some v) : w.cell? ⟨gll, i * 3 + k, none⟩ = some v :=
  h.heads.cell (i * 3 + k) (by rw [List.getElem?_toArray, flat3_get hs k hk, hv])
end cells

/-- The pointer that list answers. -/
def Lst.ptr (S : Lst) (gll : Nat) (tag : Int) : Value := match S.get tag with | some _ => .pointer (some ⟨gll, tag.toNat * 3, none⟩) | none => .pointer none
theorem Lst.get_some {S : Lst} {tag : Int} {l : L3} (h : S.get tag = some l) : 0 ≤ tag ∧ tag < S.ls.length ∧ S.ls[tag.toNat]? = some l := by
  unfold Lst.get at h
  split at h
  · rename_i h0
    have := (List.getElem?_eq_some_iff.1 h).1
    exact ⟨h0, by omega, h⟩
  · cases h
theorem Lst.get_none {S : Lst} {tag : Int} (h : S.get tag = none) : tag < 0 ∨ (S.ls.length : Int) ≤ tag := by
  unfold Lst.get at h
  split at h
  · rename_i h0
    have := List.getElem?_eq_none_iff.1 h
    omega
  · omega

set_option maxRecDepth 100000 in
set_option maxHeartbeats 400000 in
theorem ilist_list {w : World} {B gl ga gll : Nat} {S : Lst} (h : ListsAt w B gl ga gll S) (tag : Int) :
    Calls Try.prog 29 #[.pointer (some ⟨gl, 0, none⟩), .int .i64 tag] w fun e w' => e = .returned (S.ptr gll tag) ∧ w = w' := by
  have h1 := h.c1
  have hf := h.few
  cases e : S.get tag with
  | some l =>
    obtain ⟨t0, t1, _⟩ := Lst.get_some e
    have e2 : S.ptr gll tag = .pointer (some ⟨gll, tag.toNat * 3, none⟩) := by simp [Lst.ptr, e]
    rw [e2]
    clear e e2 h
    obtain ⟨n, rfl⟩ := Int.eq_ofNat_of_zero_le t0
    rw [Int.toNat_natCast]
    generalize S.ls.length = m at *
    go_enter Try.func29, Try.ntmps29
    go_wp2
    go_ret
    exact ⟨rfl, rfl⟩
  | none =>
    have t0 := Lst.get_none e
    have e2 : S.ptr gll tag = .pointer none := by simp [Lst.ptr, e]
    rw [e2]
    clear e e2 h
    generalize S.ls.length = m at *
    rcases t0 with t0 | t0
    · go_enter Try.func29, Try.ntmps29
      go_wp2
      go_ret
      exact ⟨rfl, rfl⟩
    · have t1 : ¬ tag < 0 := by omega
      go_enter Try.func29, Try.ntmps29
      go_wp2
      go_ret
      exact ⟨rfl, rfl⟩
theorem ilist_list_nil {w : World} (tag : Int) :
    Calls Try.prog 29 #[.pointer none, .int .i64 tag] w fun e w' => e = .returned (.pointer none) ∧ w = w' := by
  go_enter Try.func29, Try.ntmps29
  go_wp2
  go_ret
  exact ⟨rfl, rfl⟩

set_option maxRecDepth 100000 in
set_option maxHeartbeats 400000 in
theorem ilist_Len {w : World} {B gl ga gll : Nat} {S : Lst} (h : ListsAt w B gl ga gll S) (tag : Int) :
    Calls Try.prog 13 #[.pointer (some ⟨gl, 0, none⟩), .int .i64 tag] w fun e w' => e = .returned (.int .i64 (S.len tag)) ∧ w = w' := by
  have hL := ilist_list h tag
  cases e : S.get tag with
  | some l =>
    have e3 : S.len tag = l.many := by simp [Lst.len, e]
    obtain ⟨t0, t1, t2⟩ := Lst.get_some e
    obtain ⟨n, rfl⟩ := Int.eq_ofNat_of_zero_le t0
    rw [Int.toNat_natCast] at t2
    have e2 : S.ptr gll n = .pointer (some ⟨gll, n * 3, none⟩) := by simp [Lst.ptr, e]
    rw [e2] at hL
    rw [e3]
    have k0 := h.hc t2 2 (by omega) rfl
    try simp only [Nat.add_zero] at k0
    have HL := hid hL
    clear e e2 e3 hL t2 h
    go_enter Try.func13, Try.ntmps13
    go_wp2_with (go_at_call 29; refine HL.out.mono ?_; go_must (rintro e w' ⟨rfl, rfl⟩))
    go_ret
    exact ⟨rfl, rfl⟩
  | none =>
    have e2 : S.ptr gll tag = .pointer none := by simp [Lst.ptr, e]
    have e3 : S.len tag = 0 := by simp [Lst.len, e]
    rw [e2] at hL
    rw [e3]
    have HL := hid hL
    clear e e2 e3 hL h
    go_enter Try.func13, Try.ntmps13
    go_wp2_with (go_at_call 29; refine HL.out.mono ?_; go_must (rintro e w' ⟨rfl, rfl⟩))
    go_ret
    exact ⟨rfl, rfl⟩
theorem ilist_Len_nil {w : World} (tag : Int) :
    Calls Try.prog 13 #[.pointer none, .int .i64 tag] w fun e w' => e = .returned (.int .i64 0) ∧ w = w' := by
  go_enter Try.func13, Try.ntmps13
  go_wp2_with (go_at_call 29; refine (ilist_list_nil tag).mono ?_; go_must (rintro e w' ⟨rfl, rfl⟩))
  go_ret
  exact ⟨rfl, rfl⟩

set_option maxRecDepth 100000 in
set_option maxHeartbeats 400000 in
theorem ilist_Front {w : World} {B gl ga gll : Nat} {S : Lst} (h : ListsAt w B gl ga gll S) (tag : Int) :
    Calls Try.prog 14 #[.pointer (some ⟨gl, 0, none⟩), .int .i64 tag] w fun e w' => e = .returned (.int .i32 (S.front tag)) ∧ w = w' := by
  have hL := ilist_list h tag
  cases e : S.get tag with
  | some l =>
    have e3 : S.front tag = l.front := by simp [Lst.front, e]
    obtain ⟨t0, t1, t2⟩ := Lst.get_some e
    obtain ⟨n, rfl⟩ := Int.eq_ofNat_of_zero_le t0
    rw [Int.toNat_natCast] at t2
    have e2 : S.ptr gll n = .pointer (some ⟨gll, n * 3, none⟩) := by simp [Lst.ptr, e]
    rw [e2] at hL
    rw [e3]
    have k0 := h.hc t2 0 (by omega) rfl
    try simp only [Nat.add_zero] at k0
    have HL := hid hL
    clear e e2 e3 hL t2 h
    go_enter Try.func14, Try.ntmps14
    go_wp2_with (go_at_call 29; refine HL.out.mono ?_; go_must (rintro e w' ⟨rfl, rfl⟩))
    go_ret
    exact ⟨rfl, rfl⟩
  | none =>
    have e2 : S.ptr gll tag = .pointer none := by simp [Lst.ptr, e]
    have e3 : S.front tag = 0 := by simp [Lst.front, e]
    rw [e2] at hL
    rw [e3]
    have HL := hid hL
    clear e e2 e3 hL h
    go_enter Try.func14, Try.ntmps14
    go_wp2_with (go_at_call 29; refine HL.out.mono ?_; go_must (rintro e w' ⟨rfl, rfl⟩))
    go_ret
    exact ⟨rfl, rfl⟩
theorem ilist_Front_nil {w : World} (tag : Int) :
    Calls Try.prog 14 #[.pointer none, .int .i64 tag] w fun e w' => e = .returned (.int .i32 0) ∧ w = w' := by
  go_enter Try.func14, Try.ntmps14
  go_wp2_with (go_at_call 29; refine (ilist_list_nil tag).mono ?_; go_must (rintro e w' ⟨rfl, rfl⟩))
  go_ret
  exact ⟨rfl, rfl⟩

set_option maxRecDepth 100000 in
set_option maxHeartbeats 400000 in
theorem ilist_Back {w : World} {B gl ga gll : Nat} {S : Lst} (h : ListsAt w B gl ga gll S) (tag : Int) :
    Calls Try.prog 21 #[.pointer (some ⟨gl, 0, none⟩), .int .i64 tag] w fun e w' => e = .returned (.int .i32 (S.back tag)) ∧ w = w' := by
  have hL := ilist_list h tag
  cases e : S.get tag with
  | some l =>
    have e3 : S.back tag = l.back := by simp [Lst.back, e]
    obtain ⟨t0, t1, t2⟩ := Lst.get_some e
    obtain ⟨n, rfl⟩ := Int.eq_ofNat_of_zero_le t0
    rw [Int.toNat_natCast] at t2
    have e2 : S.ptr gll n = .pointer (some ⟨gll, n * 3, none⟩) := by simp [Lst.ptr, e]
    rw [e2] at hL
    rw [e3]
    have k0 := h.hc t2 1 (by omega) rfl
    try simp only [Nat.add_zero] at k0
    have HL := hid hL
    clear e e2 e3 hL t2 h
    go_enter Try.func21, Try.ntmps21
    go_wp2_with (go_at_call 29; refine HL.out.mono ?_; go_must (rintro e w' ⟨rfl, rfl⟩))
    go_ret
    exact ⟨rfl, rfl⟩
  | none =>
    have e2 : S.ptr gll tag = .pointer none := by simp [Lst.ptr, e]
    have e3 : S.back tag = 0 := by simp [Lst.back, e]
    rw [e2] at hL
    rw [e3]
    have HL := hid hL
    clear e e2 e3 hL h
    go_enter Try.func21, Try.ntmps21
    go_wp2_with (go_at_call 29; refine HL.out.mono ?_; go_must (rintro e w' ⟨rfl, rfl⟩))
    go_ret
    exact ⟨rfl, rfl⟩
theorem ilist_Back_nil {w : World} (tag : Int) :
    Calls Try.prog 21 #[.pointer none, .int .i64 tag] w fun e w' => e = .returned (.int .i32 0) ∧ w = w' := by
  go_enter Try.func21, Try.ntmps21
  go_wp2_with (go_at_call 29; refine (ilist_list_nil tag).mono ?_; go_must (rintro e w' ⟨rfl, rfl⟩))
  go_ret
  exact ⟨rfl, rfl⟩


theorem field_nd3 (a0 a1 a2 a3 a4 a5 : Int) (w : World) : (Instr.field 60 (.agg #[.int .u64 a0, .int .u64 a1, .int .i64 a2, .int .i64 a3, .int .i32 a4, .int .i32 a5]) 3).run Try.prog w = .ok (.int .i64 a3) w := by kernel_rfl
theorem field_nd4 (a0 a1 a2 a3 a4 a5 : Int) (w : World) : (Instr.field 60 (.agg #[.int .u64 a0, .int .u64 a1, .int .i64 a2, .int .i64 a3, .int .i32 a4, .int .i32 a5]) 4).run Try.prog w = .ok (.int .i32 a4) w := by kernel_rfl
theorem field_nd5 (a0 a1 a2 a3 a4 a5 : Int) (w : World) : (Instr.field 60 (.agg #[.int .u64 a0, .int .u64 a1, .int .i64 a2, .int .i64 a3, .int .i32 a4, .int .i32 a5]) 5).run Try.prog w = .ok (.int .i32 a5) w := by kernel_rfl
theorem field_nd0 (a0 a1 a2 a3 a4 a5 : Int) (w : World) : (Instr.field 60 (.agg #[.int .u64 a0, .int .u64 a1, .int .i64 a2, .int .i64 a3, .int .i32 a4, .int .i32 a5]) 0).run Try.prog w = .ok (.int .u64 a0) w := by kernel_rfl
theorem field_nd1 (a0 a1 a2 a3 a4 a5 : Int) (w : World) : (Instr.field 60 (.agg #[.int .u64 a0, .int .u64 a1, .int .i64 a2, .int .i64 a3, .int .i32 a4, .int .i32 a5]) 1).run Try.prog w = .ok (.int .u64 a1) w := by kernel_rfl
theorem field_nd2 (a0 a1 a2 a3 a4 a5 : Int) (w : World) : (Instr.field 60 (.agg #[.int .u64 a0, .int .u64 a1, .int .i64 a2, .int .i64 a3, .int .i32 a4, .int .i32 a5]) 2).run Try.prog w = .ok (.int .i64 a2) w := by kernel_rfl
attribute [local go_sem] field_nd0 field_nd1 field_nd2 field_nd3 field_nd4 field_nd5

def Nd.wf (n : Nd) : Prop := 0 ≤ n.tag ∧ n.tag ≤ 100 ∧ I32 n.prev ∧ I32 n.next
def Arn.wf (A : Arn) : Prop := ∀ s ∈ A.slots, s.n.wf
theorem Nd.zero_wf : Nd.zero.wf := by simp [Nd.wf, Nd.zero, I32]
theorem Arn.at_wf {A : Arn} (h : A.wf) (i : Int) : (A.at_ i).wf := by
  unfold Arn.at_
  split
  · rename_i h1
    obtain ⟨_, _, h2⟩ := Arn.is_lt h1
    exact h ⟨(A.slot i).n, true⟩ (List.mem_of_getElem? h2)
  · exact Nd.zero_wf

set_option maxRecDepth 100000 in
set_option maxHeartbeats 400000 in
theorem ilist_Tag {w : World} {B gl ga gll : Nat} {S : Lst} (h : ListsAt w B gl ga gll S) (hw : S.A.wf) (i : Int) (hi : I32 i) :
    Calls Try.prog 16 #[.pointer (some ⟨gl, 0, none⟩), .int .i32 i] w fun e w' => e = .returned (.int .i64 (S.tag i)) ∧ Below w.heap.size w w' := by
  obtain ⟨t0, t1, _, _⟩ := Arn.at_wf hw i
  have hAt := fun W (hb : Below w.heap.size w W) => arena_At (h.keep hb).arena i hi
  have h0 := h.c0
  unfold Lst.tag
  have HT := hid hAt
  clear hAt h hw
  generalize hN : S.A.at_ i = N at *
  obtain ⟨a0, a1, a2, a3, a4, a5⟩ := N
  clear hN
  dsimp only at t0 t1 ⊢
  go_enter Try.func16, Try.ntmps16
  go_wp2_with (go_at_call 31; refine (HT.out _ (by with_reducible repeat (first | exact Below.refl _ _ | assumption | refine Below.drew ?_ | refine Below.alloc ?_ (by simp; try omega) _ | refine Below.setCell ?_ (by simp; try omega) _ | refine pw_drewN ?_ _))).mono ?_; go_must (rintro e w1 ⟨rfl, hb⟩))
  go_ret
  exact ⟨rfl, hb⟩
theorem ilist_Tag_nil {w : World} (i : Int) :
    Calls Try.prog 16 #[.pointer none, .int .i32 i] w fun e w' => e = .returned (.int .i64 (-1)) ∧ w = w' := by
  go_enter Try.func16, Try.ntmps16
  go_wp2
  go_ret
  exact ⟨rfl, rfl⟩

def Lst.after (S : Lst) (i : Int) : Int := if S.tag i = -1 then 0 else (S.A.at_ i).next
def Lst.before (S : Lst) (i : Int) : Int := if S.tag i = -1 then 0 else (S.A.at_ i).prev
set_option maxRecDepth 100000 in
set_option maxHeartbeats 400000 in
theorem ilist_After {w : World} {B gl ga gll : Nat} {S : Lst} (h : ListsAt w B gl ga gll S) (hw : S.A.wf) (i : Int) (hi : I32 i) :
    Calls Try.prog 22 #[.pointer (some ⟨gl, 0, none⟩), .int .i32 i] w fun e w' => e = .returned (.int .i32 (S.after i)) ∧ Below w.heap.size w w' := by
  have hTag := ilist_Tag h hw i hi
  have hAt := fun W (hb : Below w.heap.size w W) => arena_At (h.keep hb).arena i hi
  have hc := fun W (hb : Below w.heap.size w W) => (h.keep hb).c0
  have h0 := h.c0
  by_cases e : S.tag i = -1
  · have e2 : S.after i = 0 := by simp [Lst.after, e]
    rw [e2]
    rw [e] at hTag
    have HT := hid hTag
    clear hTag hAt hc h hw e e2
    go_enter Try.func22, Try.ntmps22
    go_wp2_with (go_at_call 16; refine HT.out.mono ?_; go_must (rintro e w1 ⟨rfl, hb⟩))
    go_ret
    exact ⟨rfl, hb⟩
  · have e2 : S.after i = (S.A.at_ i).next := by simp [Lst.after, e]
    have e3 : (S.tag i == -1) = false := by simp [e]
    rw [e2]
    have HT := hid hTag
    have HA := hid hAt
    have HC := hid hc
    generalize S.tag i = t at *
    generalize hN : S.A.at_ i = N at *
    obtain ⟨a0, a1, a2, a3, a4, a5⟩ := N
    clear hTag hAt hc h hw e e2 hN
    dsimp only
    go_enter Try.func22, Try.ntmps22
    go_wp2_with (first | (go_at_call 16; refine HT.out.mono ?_; go_must (rintro e w1 ⟨rfl, hb⟩; have h0' := HC.out _ hb)) | (go_at_call 31; refine (HA.out _ hb).mono ?_; go_must (rintro e w2 ⟨rfl, hb2⟩)))
    go_ret
    exact ⟨rfl, hb.trans (hb2.mono hb.size)⟩

set_option maxRecDepth 100000 in
set_option maxHeartbeats 400000 in
theorem ilist_Before {w : World} {B gl ga gll : Nat} {S : Lst} (h : ListsAt w B gl ga gll S) (hw : S.A.wf) (i : Int) (hi : I32 i) :
    Calls Try.prog 23 #[.pointer (some ⟨gl, 0, none⟩), .int .i32 i] w fun e w' => e = .returned (.int .i32 (S.before i)) ∧ Below w.heap.size w w' := by
  have hTag := ilist_Tag h hw i hi
  have hAt := fun W (hb : Below w.heap.size w W) => arena_At (h.keep hb).arena i hi
  have hc := fun W (hb : Below w.heap.size w W) => (h.keep hb).c0
  have h0 := h.c0
  by_cases e : S.tag i = -1
  · have e2 : S.before i = 0 := by simp [Lst.before, e]
    rw [e2]
    rw [e] at hTag
    have HT := hid hTag
    clear hTag hAt hc h hw e e2
    go_enter Try.func23, Try.ntmps23
    go_wp2_with (go_at_call 16; refine HT.out.mono ?_; go_must (rintro e w1 ⟨rfl, hb⟩))
    go_ret
    exact ⟨rfl, hb⟩
  · have e2 : S.before i = (S.A.at_ i).prev := by simp [Lst.before, e]
    have e3 : (S.tag i == -1) = false := by simp [e]
    rw [e2]
    have HT := hid hTag
    have HA := hid hAt
    have HC := hid hc
    generalize S.tag i = t at *
    generalize hN : S.A.at_ i = N at *
    obtain ⟨a0, a1, a2, a3, a4, a5⟩ := N
    clear hTag hAt hc h hw e e2 hN
    dsimp only
    go_enter Try.func23, Try.ntmps23
    go_wp2_with (first | (go_at_call 16; refine HT.out.mono ?_; go_must (rintro e w1 ⟨rfl, hb⟩; have h0' := HC.out _ hb)) | (go_at_call 31; refine (HA.out _ hb).mono ?_; go_must (rintro e w2 ⟨rfl, hb2⟩)))
    go_ret
    exact ⟨rfl, hb.trans (hb2.mono hb.size)⟩


end Go.Proofs.Ytfcfbfingnpnoaa
