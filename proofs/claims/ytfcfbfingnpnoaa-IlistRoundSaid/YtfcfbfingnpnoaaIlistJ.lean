/-
  Lists: two slots become neighbours; a slot is laid into a list, and taken out.
-/
import Derived.Test.YtfcfbfingnpnoaaIlistW
set_option linter.unusedVariables false
set_option linter.unusedSimpArgs false
namespace Go.Proofs.Ytfcfbfingnpnoaa
open Go.RowKit
attribute [local go_sem] field_nd0 field_nd1 field_nd2 field_nd3 field_nd4 field_nd5

def Lst.setNext (S : Lst) (a x : Int) : Lst := { S with A := S.A.put a { S.A.at_ a with next := x } }
def Lst.setPrev (S : Lst) (b x : Int) : Lst := { S with A := S.A.put b { S.A.at_ b with prev := x } }
def Lst.setFront (S : Lst) (t : Nat) (x : Int) : Lst := match S.ls[t]? with | some l => { S with ls := S.ls.set t { l with front := x } } | none => S
def Lst.setBack (S : Lst) (t : Nat) (x : Int) : Lst := match S.ls[t]? with | some l => { S with ls := S.ls.set t { l with back := x } } | none => S
def Lst.setMany (S : Lst) (t : Nat) (x : Nat) : Lst := match S.ls[t]? with | some l => { S with ls := S.ls.set t { l with many := x } } | none => S
def Lst.join1 (S : Lst) (t : Nat) (a b : Int) : Lst := if a = 0 then S.setFront t b else S.setNext a b
def Lst.join2 (S : Lst) (t : Nat) (a b : Int) : Lst := if b = 0 then S.setBack t a else S.setPrev b a
def Lst.join (S : Lst) (t : Nat) (a b : Int) : Lst := (S.join1 t a b).join2 t a b
theorem Lst.len_setFront (S : Lst) (t : Nat) (x : Int) : (S.setFront t x).ls.length = S.ls.length := by unfold Lst.setFront; split <;> simp
theorem Lst.len_setBack (S : Lst) (t : Nat) (x : Int) : (S.setBack t x).ls.length = S.ls.length := by unfold Lst.setBack; split <;> simp
theorem Lst.len_setMany (S : Lst) (t : Nat) (x : Nat) : (S.setMany t x).ls.length = S.ls.length := by unfold Lst.setMany; split <;> simp
theorem Lst.len_join1 (S : Lst) (t : Nat) (a b : Int) : (S.join1 t a b).ls.length = S.ls.length := by unfold Lst.join1; split; exact S.len_setFront t b; rfl
theorem Lst.len_join2 (S : Lst) (t : Nat) (a b : Int) : (S.join2 t a b).ls.length = S.ls.length := by unfold Lst.join2; split; exact S.len_setBack t a; rfl
theorem Lst.len_join (S : Lst) (t : Nat) (a b : Int) : (S.join t a b).ls.length = S.ls.length := by unfold Lst.join; rw [Lst.len_join2, Lst.len_join1]

section
variable {w : World} {B gl ga gll : Nat} {S : Lst} (h : ListsAt w B gl ga gll S) {t : Nat} {l : L3} (hl : S.ls[t]? = some l)
include h hl
theorem ListsAt.headSet (k : Nat) (hk : k < 3) (v : Value) (l' : L3) (hv : l'.cs = l.cs.set k v) :
    ListsAt (w.setCell ⟨gll, t * 3 + k, none⟩ v) B gl ga gll { S with ls := S.ls.set t l' } ∧ KT B [69] w (w.setCell ⟨gll, t * 3 + k, none⟩ v) := by
  have q := (KT.refl B [69] w).set h.heads (by simp) h.gll_le (t * 3 + k) v
  refine ⟨⟨?_, h.heads.l3Set hl l' k hk v hv, h.arena.kt q (by decide) (by decide) (by decide), h.gl_le, h.gll_le, by simpa using h.few⟩, q⟩
  have := q.blk h.lists (by decide)
  simpa using this
theorem ListsAt.front_ (x : Int) : ListsAt (w.setCell ⟨gll, t * 3, none⟩ (.int .i32 x)) B gl ga gll (S.setFront t x) ∧ KT B [69] w (w.setCell ⟨gll, t * 3, none⟩ (.int .i32 x)) := by
  have e : S.setFront t x = { S with ls := S.ls.set t { l with front := x } } := by simp [Lst.setFront, hl]
  rw [e]
  exact h.headSet hl 0 (by omega) (.int .i32 x) { l with front := x } rfl
theorem ListsAt.back_ (x : Int) : ListsAt (w.setCell ⟨gll, t * 3 + 1, none⟩ (.int .i32 x)) B gl ga gll (S.setBack t x) ∧ KT B [69] w (w.setCell ⟨gll, t * 3 + 1, none⟩ (.int .i32 x)) := by
  have e : S.setBack t x = { S with ls := S.ls.set t { l with back := x } } := by simp [Lst.setBack, hl]
  rw [e]
  exact h.headSet hl 1 (by omega) (.int .i32 x) { l with back := x } rfl
theorem ListsAt.many_ (x : Nat) {k : Int} (hx : k = x) : ListsAt (w.setCell ⟨gll, t * 3 + 2, none⟩ (.int .i64 k)) B gl ga gll (S.setMany t x) ∧ KT B [69] w (w.setCell ⟨gll, t * 3 + 2, none⟩ (.int .i64 k)) := by
  subst hx
  have e : S.setMany t x = { S with ls := S.ls.set t { l with many := x } } := by simp [Lst.setMany, hl]
  rw [e]
  exact h.headSet hl 2 (by omega) (.int .i64 x) { l with many := x } rfl
end

/-- Two new boxes: what they hold; what lay is as it lay. -/
theorem boxes2 (w : World) (u v : Value) (T T' : TypeId) (n : Nat) (hn : n = w.heap.size) : Blk ((w.alloc (.cells #[u] T)).alloc (.cells #[v] T')) n #[u] T ∧ Blk ((w.alloc (.cells #[u] T)).alloc (.cells #[v] T')) (n + 1) #[v] T' ∧ Below w.heap.size w ((w.alloc (.cells #[u] T)).alloc (.cells #[v] T')) := by
  subst hn
  exact ⟨(Blk.new w _ _).alloc _, Blk.new' _ _ _ _ (by simp), ((Below.refl _ w).alloc (Nat.le_refl _) _).alloc (by simp) _⟩

section
variable {w : World} {B gl ga gll : Nat} {S : Lst} (h : ListsAt w B gl ga gll S) (hB : B ≤ w.heap.size) (t : Nat) (ht : t < S.ls.length) (a b : Int) (ha : I32 a) (hb : I32 b)
include h hB ht ha hb
omit hB ha hb in
set_option maxRecDepth 100000 in
set_option maxHeartbeats 800000 in
theorem ilist_join_00 (ea : a = 0) (eb : b = 0) :
    Calls Try.prog 33 #[.pointer (some ⟨gl, 0, none⟩), .pointer (some ⟨gll, t * 3, none⟩), .int .i32 a, .int .i32 b] w fun e w' =>
      e = .returned (.tuple #[]) ∧ ListsAt w' B gl ga gll (S.join t a b) ∧ KT B [62, 69] w w' := by
  obtain ⟨l, hl⟩ : ∃ l, S.ls[t]? = some l := ⟨_, List.getElem?_eq_getElem ht⟩
  have e1 : S.join t a b = (S.setFront t b).setBack t a := by simp [Lst.join, Lst.join1, Lst.join2, ea, eb]
  rw [e1]
  have hr := h.front_ hl b
  obtain ⟨l2, hl2⟩ : ∃ l, (S.setFront t b).ls[t]? = some l := ⟨_, List.getElem?_eq_getElem (by rw [Lst.len_setFront]; exact ht)⟩
  have hr2 := hr.1.back_ hl2 a
  have k0 := h.hc hl 0 (by omega) rfl
  have k1 := h.hc hl 1 (by omega) rfl
  simp only [Nat.add_zero] at k0
  have hfz := h.heads.frozen
  have hlt := h.heads.lt
  have ha0 : (a == 0) = true := by simp [ea]
  have hb0 : (b == 0) = true := by simp [eb]
  have HR := hid hr
  have HR2 := hid hr2
  clear e1 hr hr2 hl hl2 h ea eb
  go_enter Try.func33, Try.ntmps33
  go_wp2
  go_end0
  exact ⟨rfl, HR2.out.1.keep (by with_reducible repeat (first | exact Below.refl _ _ | assumption | refine Below.drew ?_ | refine Below.alloc ?_ (by simp; try omega) _ | refine Below.setCell ?_ (by simp; try omega) _ | refine pw_drewN ?_ _)), ((((HR.out.2.mono (Nat.le_refl _) (by simp)).trans HR2.out.2 (Nat.le_refl _) (by simp)).alloc _).alloc _)⟩

omit ha in
set_option maxRecDepth 100000 in
set_option maxHeartbeats 800000 in
theorem ilist_join_01 (ea : a = 0) (eb : b ≠ 0) :
    Calls Try.prog 33 #[.pointer (some ⟨gl, 0, none⟩), .pointer (some ⟨gll, t * 3, none⟩), .int .i32 a, .int .i32 b] w fun e w' =>
      e = .returned (.tuple #[]) ∧ ListsAt w' B gl ga gll (S.join t a b) ∧ KT B [62, 69] w w' := by
  obtain ⟨l, hl⟩ : ∃ l, S.ls[t]? = some l := ⟨_, List.getElem?_eq_getElem ht⟩
  have e1 : S.join t a b = (S.setFront t b).setPrev b a := by simp [Lst.join, Lst.join1, Lst.join2, ea, eb]
  rw [e1]
  have hr := h.front_ hl b
  have k0 := h.hc hl 0 (by omega) rfl
  simp only [Nat.add_zero] at k0
  have hfz := h.heads.frozen
  have hlt := h.heads.lt
  have ha0 : (a == 0) = true := by simp [ea]
  have hb0 : (b == 0) = false := by simp [eb]
  have hbx := boxes2 (w.setCell ⟨gll, t * 3, none⟩ (.int .i32 b)) (.int .i32 a) (.int .i32 b) 21 21 w.heap.size (by simp)
  have hcall := with_prev (hr.1.keep hbx.2.2) (by simp; omega) b hb a (hbx.1.cell 0 rfl)
  have hq : KT B [62, 69] w (((w.setCell ⟨gll, t * 3, none⟩ (.int .i32 b)).alloc (.cells #[.int .i32 a] 21)).alloc (.cells #[.int .i32 b] 21)) := ((hr.2.mono (Nat.le_refl _) (by simp)).alloc _).alloc _
  have HR := hid hcall
  have HQ := hid hq
  clear e1 hr hl h ea eb hbx hcall hq
  go_enter Try.func33, Try.ntmps33
  go_wp2_with (go_at_call 34; go_must (refine HR.out.mono ?_; rintro e w1 ⟨rfl, h1, q1⟩))
  go_end0
  exact ⟨rfl, h1, HQ.out.trans q1 (Nat.le_refl _) (by simp)⟩

omit hb in
set_option maxRecDepth 100000 in
set_option maxHeartbeats 800000 in
theorem ilist_join_10 (ea : a ≠ 0) (eb : b = 0) :
    Calls Try.prog 33 #[.pointer (some ⟨gl, 0, none⟩), .pointer (some ⟨gll, t * 3, none⟩), .int .i32 a, .int .i32 b] w fun e w' =>
      e = .returned (.tuple #[]) ∧ ListsAt w' B gl ga gll (S.join t a b) ∧ KT B [62, 69] w w' := by
  obtain ⟨l, hl⟩ : ∃ l, S.ls[t]? = some l := ⟨_, List.getElem?_eq_getElem ht⟩
  have e1 : S.join t a b = (S.setNext a b).setBack t a := by simp [Lst.join, Lst.join1, Lst.join2, ea, eb]
  rw [e1]
  have ha0 : (a == 0) = false := by simp [ea]
  have hb0 : (b == 0) = true := by simp [eb]
  have hbx := boxes2 w (.int .i32 a) (.int .i32 b) 21 21 w.heap.size (by simp)
  have hcall := with_next (h.keep hbx.2.2) (by simp; omega) a ha b (hbx.2.1.cell 0 rfl)
  have hq : KT B [62, 69] w ((w.alloc (.cells #[.int .i32 a] 21)).alloc (.cells #[.int .i32 b] 21)) := KT.of_below hbx.2.2 _ _
  have hk : ∀ W, KT B [62] ((w.alloc (.cells #[.int .i32 a] 21)).alloc (.cells #[.int .i32 b] 21)) W → W.cell? ⟨w.heap.size, 0, none⟩ = some (.int .i32 a) ∧ W.cell? ⟨w.heap.size + 1, 0, none⟩ = some (.int .i32 b) := fun W hW => ⟨(hW.blk hbx.1 (by decide)).cell 0 rfl, (hW.blk hbx.2.1 (by decide)).cell 0 rfl⟩
  have HR := hid hcall
  have HQ := hid hq
  have HK := hid hk
  have hl' : (S.setNext a b).ls[t]? = some l := hl
  have HL := hid hl'
  clear e1 hl h ea eb hbx hcall hq hk hl'
  go_enter Try.func33, Try.ntmps33
  go_wp2_with (go_at_call 34; go_must (refine HR.out.mono ?_; rintro e w1 ⟨rfl, h1, q1⟩; obtain ⟨k1, k2⟩ := HK.out _ q1; have HS := hid h1; have HQ1 := hid q1; have k3 := h1.hc HL.out 1 (by omega) rfl; have hfz := h1.heads.frozen; clear h1 q1))
  go_end0
  obtain ⟨r1, r2⟩ := HS.out.back_ HL.out a
  exact ⟨rfl, r1, (HQ.out.trans HQ1.out (Nat.le_refl _) (by simp)).trans r2 (Nat.le_refl _) (by simp)⟩

omit ht in
set_option maxRecDepth 100000 in
set_option maxHeartbeats 800000 in
theorem ilist_join_11 (ea : a ≠ 0) (eb : b ≠ 0) :
    Calls Try.prog 33 #[.pointer (some ⟨gl, 0, none⟩), .pointer (some ⟨gll, t * 3, none⟩), .int .i32 a, .int .i32 b] w fun e w' =>
      e = .returned (.tuple #[]) ∧ ListsAt w' B gl ga gll (S.join t a b) ∧ KT B [62, 69] w w' := by
  have e1 : S.join t a b = (S.setNext a b).setPrev b a := by simp [Lst.join, Lst.join1, Lst.join2, ea, eb]
  rw [e1]
  have ha0 : (a == 0) = false := by simp [ea]
  have hb0 : (b == 0) = false := by simp [eb]
  have hbx := boxes2 w (.int .i32 a) (.int .i32 b) 21 21 w.heap.size (by simp)
  have hcall := with_next (h.keep hbx.2.2) (by simp; omega) a ha b (hbx.2.1.cell 0 rfl)
  have hq : KT B [62, 69] w ((w.alloc (.cells #[.int .i32 a] 21)).alloc (.cells #[.int .i32 b] 21)) := KT.of_below hbx.2.2 _ _
  have hk : ∀ W, KT B [62] ((w.alloc (.cells #[.int .i32 a] 21)).alloc (.cells #[.int .i32 b] 21)) W → W.cell? ⟨w.heap.size, 0, none⟩ = some (.int .i32 a) ∧ W.cell? ⟨w.heap.size + 1, 0, none⟩ = some (.int .i32 b) ∧ B ≤ W.heap.size := fun W hW => ⟨(hW.blk hbx.1 (by decide)).cell 0 rfl, (hW.blk hbx.2.1 (by decide)).cell 0 rfl, by have := hW.size; simp at this; omega⟩
  have HR := hid hcall
  have HQ := hid hq
  have HK := hid hk
  have HIB := hid hb
  clear e1 h ea eb hbx hcall hq hk hb
  go_enter Try.func33, Try.ntmps33
  go_wp2_with fail
  go_must (refine HR.out.mono ?_)
  rintro e w1 ⟨rfl, h1, q1⟩
  obtain ⟨k1, k2, hBw⟩ := HK.out _ q1
  have HS := hid (with_prev h1 hBw b HIB.out a k1)
  have HQ1 := hid q1
  clear h1 q1
  go_wp2_with fail
  go_must (refine HS.out.mono ?_)
  rintro e w2 ⟨rfl, h2, q2⟩
  go_wp2
  go_end0
  exact ⟨rfl, h2, (HQ.out.trans HQ1.out (Nat.le_refl _) (by simp)).trans q2 (Nat.le_refl _) (by simp)⟩

theorem ilist_join :
    Calls Try.prog 33 #[.pointer (some ⟨gl, 0, none⟩), .pointer (some ⟨gll, t * 3, none⟩), .int .i32 a, .int .i32 b] w fun e w' =>
      e = .returned (.tuple #[]) ∧ ListsAt w' B gl ga gll (S.join t a b) ∧ KT B [62, 69] w w' := by
  by_cases ea : a = 0
  · by_cases eb : b = 0
    · exact ilist_join_00 h t ht a b ea eb
    · exact ilist_join_01 h hB t ht a b hb ea eb
  · by_cases eb : b = 0
    · exact ilist_join_10 h hB t ht a b ha ea eb
    · exact ilist_join_11 h hB t a b ha hb ea eb
end

end Go.Proofs.Ytfcfbfingnpnoaa
