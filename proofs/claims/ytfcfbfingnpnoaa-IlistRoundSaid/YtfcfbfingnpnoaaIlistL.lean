/-
  Lists: a slot is laid into a list.
-/
import Derived.Test.YtfcfbfingnpnoaaIlistJ
set_option linter.unusedVariables false
set_option linter.unusedSimpArgs false
namespace Go.Proofs.Ytfcfbfingnpnoaa
open Go.RowKit
attribute [local go_sem] field_nd0 field_nd1 field_nd2 field_nd3 field_nd4 field_nd5

def Lst.manyAt (S : Lst) (t : Nat) : Nat := match S.ls[t]? with | some l => l.many | none => 0
theorem Lst.manyAt_setFront (S : Lst) (t u : Nat) (x : Int) : (S.setFront t x).manyAt u = S.manyAt u := by
  unfold Lst.setFront
  cases h : S.ls[t]? with
  | none => rfl
  | some l =>
    unfold Lst.manyAt
    simp only [List.getElem?_set]
    have hlt := (List.getElem?_eq_some_iff.1 h).1
    by_cases e : t = u
    · subst e
      simp only [hlt, if_true, h]
    · simp [e]
theorem Lst.manyAt_setBack (S : Lst) (t u : Nat) (x : Int) : (S.setBack t x).manyAt u = S.manyAt u := by
  unfold Lst.setBack
  cases h : S.ls[t]? with
  | none => rfl
  | some l =>
    unfold Lst.manyAt
    simp only [List.getElem?_set]
    have hlt := (List.getElem?_eq_some_iff.1 h).1
    by_cases e : t = u
    · subst e
      simp only [hlt, if_true, h]
    · simp [e]
theorem Lst.manyAt_join (S : Lst) (t u : Nat) (a b : Int) : (S.join t a b).manyAt u = S.manyAt u := by
  have h1 : (S.join1 t a b).manyAt u = S.manyAt u := by
    unfold Lst.join1
    split
    · exact S.manyAt_setFront t u b
    · rfl
  unfold Lst.join Lst.join2
  split
  · rw [Lst.manyAt_setBack, h1]
  · exact h1
theorem Lst.manyAt_some {S : Lst} {t : Nat} {l : L3} (h : S.ls[t]? = some l) : l.many = S.manyAt t := by simp [Lst.manyAt, h]

def Lst.layN (S : Lst) (tag prev i next : Int) : Lst := { S with A := S.A.put i { S.A.at_ i with tag := tag + 1, prev := prev, next := next } }
def Lst.laid (S : Lst) (tag prev i next : Int) : Lst := ((((S.layN tag prev i next).join tag.toNat prev i).join tag.toNat i next).setMany tag.toNat (S.manyAt tag.toNat + 1))
def Lst.may (S : Lst) (tag i : Int) : Bool := (S.get tag).isSome && S.A.is i && (S.tag i == -1)
def Lst.lay (S : Lst) (tag prev i next : Int) : Lst := if S.may tag i then S.laid tag prev i next else S

/-- Three new boxes. -/
theorem boxes3 (w : World) (u v x : Value) (T T' T2 : TypeId) (n : Nat) (hn : n = w.heap.size) :
    Blk (((w.alloc (.cells #[u] T)).alloc (.cells #[v] T')).alloc (.cells #[x] T2)) n #[u] T ∧ Blk (((w.alloc (.cells #[u] T)).alloc (.cells #[v] T')).alloc (.cells #[x] T2)) (n + 1) #[v] T' ∧ Blk (((w.alloc (.cells #[u] T)).alloc (.cells #[v] T')).alloc (.cells #[x] T2)) (n + 1 + 1) #[x] T2 ∧ Below w.heap.size w (((w.alloc (.cells #[u] T)).alloc (.cells #[v] T')).alloc (.cells #[x] T2)) := by
  subst hn
  exact ⟨((Blk.new w _ _).alloc _).alloc _, (Blk.new' _ _ _ _ (by simp)).alloc _, Blk.new' _ _ _ _ (by simp), (((Below.refl _ w).alloc (Nat.le_refl _) _).alloc (by simp) _).alloc (by simp; omega) _⟩

section
variable {w : World} {B gl ga gll : Nat} {S : Lst} (h : ListsAt w B gl ga gll S) (hB : B ≤ w.heap.size) (hw : S.A.wf) (tag prev i next : Int) (hi : I32 i)
include h hw hi
set_option maxRecDepth 100000 in
set_option maxHeartbeats 800000 in
omit hw hi in
theorem ilist_lay_none (e : S.get tag = none) :
    Calls Try.prog 32 #[.pointer (some ⟨gl, 0, none⟩), .int .i64 tag, .int .i32 prev, .int .i32 i, .int .i32 next] w fun e w' => e = .returned (.bool false) ∧ Below w.heap.size w w' := by
  have hbx := boxes3 w (.int .i64 tag) (.int .i32 prev) (.int .i32 next) 3 21 21 w.heap.size rfl
  have hL := ilist_list (h.keep hbx.2.2.2) tag
  have e2 : S.ptr gll tag = .pointer none := by simp [Lst.ptr, e]
  rw [e2] at hL
  have HL := hid hL
  clear e e2 hL h hbx
  go_enter Try.func32, Try.ntmps32
  go_wp2_with (go_at_call 29; go_must (refine HL.out.mono ?_; rintro e w' ⟨rfl, rfl⟩))
  go_ret
  exact ⟨rfl, (by with_reducible repeat (first | exact Below.refl _ _ | assumption | refine Below.drew ?_ | refine Below.alloc ?_ (by simp; try omega) _ | refine Below.setCell ?_ (by simp; try omega) _ | refine pw_drewN ?_ _))⟩

set_option maxRecDepth 100000 in
set_option maxHeartbeats 800000 in
omit hw in
theorem ilist_lay_free {l : L3} (e : S.get tag = some l) (e1 : S.A.is i = false) :
    Calls Try.prog 32 #[.pointer (some ⟨gl, 0, none⟩), .int .i64 tag, .int .i32 prev, .int .i32 i, .int .i32 next] w fun e w' => e = .returned (.bool false) ∧ Below w.heap.size w w' := by
  have hbx := boxes3 w (.int .i64 tag) (.int .i32 prev) (.int .i32 next) 3 21 21 w.heap.size rfl
  have hL := ilist_list (h.keep hbx.2.2.2) tag
  have hIs := arena_Is (h.keep hbx.2.2.2).arena i hi
  have e2 : S.ptr gll tag = .pointer (some ⟨gll, tag.toNat * 3, none⟩) := by simp [Lst.ptr, e]
  rw [e2] at hL
  rw [e1] at hIs
  have h0 := (h.keep hbx.2.2.2).c0
  have HL := hid hL
  have HI := hid hIs
  clear e e1 e2 hL h hbx hIs
  go_enter Try.func32, Try.ntmps32
  go_wp2_with (first | (go_at_call 29; go_must (refine HL.out.mono ?_; rintro e w' ⟨rfl, rfl⟩)) | (go_at_call 49; go_must (refine HI.out.mono ?_; rintro e w' ⟨rfl, rfl⟩)))
  go_ret
  exact ⟨rfl, (by with_reducible repeat (first | exact Below.refl _ _ | assumption | refine Below.drew ?_ | refine Below.alloc ?_ (by simp; try omega) _ | refine Below.setCell ?_ (by simp; try omega) _ | refine pw_drewN ?_ _))⟩

set_option maxRecDepth 100000 in
set_option maxHeartbeats 800000 in
theorem ilist_lay_in {l : L3} (e : S.get tag = some l) (e1 : S.A.is i = true) (e3 : S.tag i ≠ -1) :
    Calls Try.prog 32 #[.pointer (some ⟨gl, 0, none⟩), .int .i64 tag, .int .i32 prev, .int .i32 i, .int .i32 next] w fun e w' => e = .returned (.bool false) ∧ Below w.heap.size w w' := by
  have hbx := boxes3 w (.int .i64 tag) (.int .i32 prev) (.int .i32 next) 3 21 21 w.heap.size rfl
  have hL := ilist_list (h.keep hbx.2.2.2) tag
  have hIs := arena_Is (h.keep hbx.2.2.2).arena i hi
  have hTag := ilist_Tag (h.keep hbx.2.2.2) hw i hi
  have e2 : S.ptr gll tag = .pointer (some ⟨gll, tag.toNat * 3, none⟩) := by simp [Lst.ptr, e]
  rw [e2] at hL
  rw [e1] at hIs
  have h0 := (h.keep hbx.2.2.2).c0
  have e4 : (S.tag i != -1) = true := by simp [e3]
  have HL := hid hL
  have HI := hid hIs
  have HT := hid hTag
  generalize S.tag i = tg at *
  clear e e1 e2 e3 hL h hbx hIs hTag hw
  go_enter Try.func32, Try.ntmps32
  go_wp2_with (first | (go_at_call 29; go_must (refine HL.out.mono ?_; rintro e w' ⟨rfl, rfl⟩)) | (go_at_call 49; go_must (refine HI.out.mono ?_; rintro e w' ⟨rfl, rfl⟩)) | (go_at_call 16; go_must (refine HT.out.mono ?_; rintro e w1 ⟨rfl, hb⟩)))
  go_ret
  exact ⟨rfl, (by exact ((by with_reducible repeat (first | exact Below.refl _ _ | assumption | refine Below.drew ?_ | refine Below.alloc ?_ (by simp; try omega) _ | refine Below.setCell ?_ (by simp; try omega) _ | refine pw_drewN ?_ _)) : Below w.heap.size w (((w.alloc (.cells #[.int .i64 tag] 3)).alloc (.cells #[.int .i32 prev] 21)).alloc (.cells #[.int .i32 next] 21))).trans (hb.mono (by simp; omega)))⟩
end

section
variable {w : World} {B gl ga gll : Nat} {S : Lst} (h : ListsAt w B gl ga gll S) (hB : B ≤ w.heap.size) (hw : S.A.wf) (tag prev i next : Int) (hi : I32 i) (hp : I32 prev) (hn : I32 next)
include h hB hw hi hp hn
set_option maxRecDepth 100000 in
set_option maxHeartbeats 1600000 in
theorem ilist_lay_done {l : L3} (e : S.get tag = some l) (e1 : S.A.is i = true) (e3 : S.tag i = -1) (hm : S.manyAt tag.toNat ≤ 1000000) :
    Calls Try.prog 32 #[.pointer (some ⟨gl, 0, none⟩), .int .i64 tag, .int .i32 prev, .int .i32 i, .int .i32 next] w fun e w' => e = .returned (.bool true) ∧ ListsAt w' B gl ga gll (S.laid tag prev i next) ∧ KT B [62, 69] w w' := by
  obtain ⟨t0, t1, t2⟩ := Lst.get_some e
  have hf := h.few
  have hbx := boxes3 w (.int .i64 tag) (.int .i32 prev) (.int .i32 next) 3 21 21 w.heap.size rfl
  have hL := ilist_list (h.keep hbx.2.2.2) tag
  have hIs := arena_Is (h.keep hbx.2.2.2).arena i hi
  have hTag := ilist_Tag (h.keep hbx.2.2.2) hw i hi
  rw [e3] at hTag
  have e2 : S.ptr gll tag = .pointer (some ⟨gll, tag.toNat * 3, none⟩) := by simp [Lst.ptr, e]
  rw [e2] at hL
  rw [e1] at hIs
  have h0 := (h.keep hbx.2.2.2).c0
  have HL := hid hL
  have HI := hid hIs
  have HT := hid hTag
  have HB1 := hid hbx.1
  have HB2 := hid hbx.2.1
  have HB3 := hid hbx.2.2.1
  have HB4 := hid hbx.2.2.2
  have HH := hid h
  have HM := hid hm
  have HP := hid hp
  have HN := hid hn
  have HI2 := hid hi
  have HBB := hid hB
  have htag : 0 ≤ tag ∧ tag ≤ 100 := by omega
  have HTG := hid htag
  have HLT := hid (show tag.toNat < S.ls.length by omega)
  clear e e1 e2 e3 hL h hbx hIs hTag hw hm t2 t1 hf htag hp hn hi hB
  unfold Lst.laid
  go_enter Try.func32, Try.ntmps32
  go_wp2_with (first | (go_at_call 29; go_must (refine HL.out.mono ?_; rintro e w' ⟨rfl, rfl⟩)) | (go_at_call 49; go_must (refine HI.out.mono ?_; rintro e w' ⟨rfl, rfl⟩)) | (go_at_call 16; go_must (refine HT.out.mono ?_; rintro e w1 ⟨rfl, hb⟩)))
  have hbw : Below w.heap.size w w1 := HB4.out.trans (hb.mono (by simp; omega))
  have hsz := hb.size
  simp only [World.size_alloc] at hsz
  have hb1 := HB1.out.below hb HB1.out.lt
  have hb2 := HB2.out.below hb HB2.out.lt
  have hb3 := HB3.out.below hb HB3.out.lt
  have HWL := hid (with_lay (HH.out.keep hbw) (Nat.le_trans HBB.out hbw.size) i HI2.out tag prev next HTG.out (hb1.cell 0 rfl) (hb2.cell 0 rfl) (hb3.cell 0 rfl))
  have Hb2 := hid hb2
  have Hb3 := hid hb3
  have HK1 := hid (KT.of_below hbw B [62, 69])
  have HS1 := hid (Nat.le_trans HBB.out hbw.size)
  clear hbw hb1 hb2 hb3 hb h0 hsz
  go_must (refine HWL.out.mono ?_)
  rintro e w2 ⟨rfl, h2, k2⟩
  have hbp := (k2.blk Hb2.out (by decide))
  have c2 := hbp.cell 0 rfl
  have HJ1 := hid (ilist_join h2 (Nat.le_trans HS1.out k2.size) tag.toNat HLT.out prev i HP.out HI2.out)
  have Hb3' := hid (k2.blk Hb3.out (by decide))
  have HK2 := hid k2
  have HS2 := hid (Nat.le_trans HS1.out k2.size)
  clear h2 k2 hbp
  go_wp2_with fail
  go_must (refine HJ1.out.mono ?_)
  rintro e w3 ⟨rfl, h3, k3⟩
  have c3 := (k3.blk Hb3'.out (by decide)).cell 0 rfl
  have HJ2 := hid (ilist_join h3 (Nat.le_trans HS2.out k3.size) tag.toNat (by rw [Lst.len_join]; exact HLT.out) i next HI2.out HN.out)
  have HK3 := hid k3
  clear h3 k3 c2
  go_wp2_with fail
  go_must (refine HJ2.out.mono ?_)
  rintro e w4 ⟨rfl, h4, k4⟩
  obtain ⟨l4, hl4⟩ : ∃ l, (((S.layN tag prev i next).join tag.toNat prev i).join tag.toNat i next).ls[tag.toNat]? = some l := ⟨_, List.getElem?_eq_getElem (by rw [Lst.len_join, Lst.len_join]; exact HLT.out)⟩
  have hmany : l4.many = S.manyAt tag.toNat := by
    rw [Lst.manyAt_some hl4, Lst.manyAt_join, Lst.manyAt_join]
    rfl
  have c4 := h4.hc hl4 2 (by omega) rfl
  rw [hmany] at c4
  have hbound := HM.out
  have hfz := h4.heads.frozen
  have HF := hid (h4.many_ hl4 (S.manyAt tag.toNat + 1) (k := (S.manyAt tag.toNat : Int) + 1) (by omega))
  have HK4 := hid k4
  clear h4 k4 c3 hmany hl4
  generalize hmm : S.manyAt tag.toNat = many at *
  have HMM := hid hmm
  clear hmm
  go_wp2
  go_ret
  obtain rfl := HMM.out
  exact ⟨rfl, HF.out.1, ((((HK1.out.trans HK2.out (Nat.le_refl _) (by simp)).trans HK3.out (Nat.le_refl _) (by simp)).trans HK4.out (Nat.le_refl _) (by simp)).trans HF.out.2 (Nat.le_refl _) (by simp))⟩
end

theorem ilist_lay {w : World} {B gl ga gll : Nat} {S : Lst} (h : ListsAt w B gl ga gll S) (hB : B ≤ w.heap.size) (hw : S.A.wf) (tag prev i next : Int) (hi : I32 i) (hp : I32 prev) (hn : I32 next) (hm : ∀ t, S.manyAt t ≤ 1000000) :
    Calls Try.prog 32 #[.pointer (some ⟨gl, 0, none⟩), .int .i64 tag, .int .i32 prev, .int .i32 i, .int .i32 next] w fun e w' => e = .returned (.bool (S.may tag i)) ∧ ListsAt w' B gl ga gll (S.lay tag prev i next) ∧ KT B [62, 69] w w' := by
  unfold Lst.lay
  cases e : S.get tag with
  | none =>
    have e1 : S.may tag i = false := by simp [Lst.may, e]
    rw [e1]
    exact (ilist_lay_none h tag prev i next e).mono fun _ _ ⟨h1, h2⟩ => ⟨h1, h.keep h2, KT.of_below h2 _ _⟩
  | some l =>
    cases e1 : S.A.is i with
    | false =>
      have e2 : S.may tag i = false := by simp [Lst.may, e1]
      rw [e2]
      exact (ilist_lay_free h tag prev i next hi e e1).mono fun _ _ ⟨h1, h2⟩ => ⟨h1, h.keep h2, KT.of_below h2 _ _⟩
    | true =>
      by_cases e3 : S.tag i = -1
      · have e2 : S.may tag i = true := by simp [Lst.may, e, e1, e3]
        rw [e2]
        exact ilist_lay_done h hB hw tag prev i next hi hp hn e e1 e3 (hm _)
      · have e2 : S.may tag i = false := by simp [Lst.may, e3]
        rw [e2]
        exact (ilist_lay_in h hw tag prev i next hi e e1 e3).mono fun _ _ ⟨h1, h2⟩ => ⟨h1, h.keep h2, KT.of_below h2 _ _⟩

end Go.Proofs.Ytfcfbfingnpnoaa
