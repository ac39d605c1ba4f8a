/-
  Blocks of memory: what a block holds behind stores, new blocks and draws; frames by block and by element type. No program in sight.
-/
import Derived.WalkKit
import Derived.OneCell
import Derived.Deep.Draws
set_option linter.unusedVariables false
set_option linter.unusedSimpArgs false
namespace Go.Proofs.Ytfcfbfingnpnoaa
open Go.RowKit

theorem hid {p : Prop} (h : p) : Hid p := h

theorem pw_drewN {B : Nat} {w W : World} (h : Below B w W) (n : Nat) : Below B w (W.drewN n) := ⟨h.os, h.tape, h.output, h.size, h.block⟩

theorem pw_drew {B : Nat} {w W : World} (h : Below B w W) : Below B w W.drew := ⟨h.os, h.tape, h.output, h.size, h.block⟩
theorem cell_old {w W : World} (hb : Below w.heap.size w W) {a : Addr} {v : Value} (hc : w.cell? a = some v) : W.cell? a = some v := (hb.cell (World.block_lt_of_cell? w a hc)).trans hc

/-- Block b is the row c, of element type T; it may be written. -/
def Blk (w : World) (b : Nat) (c : Array Value) (T : TypeId) : Prop := w.heap[b]? = some (.cells c T (0, 0))

theorem Blk.cell {w : World} {b : Nat} {c : Array Value} {T : TypeId} (h : Blk w b c T) (i : Nat) {v : Value} (hv : c[i]? = some v) : w.cell? ⟨b, i, none⟩ = some v := by
  unfold Blk at h
  simp [World.cell?, h, hv]
theorem Blk.frozen {w : World} {b : Nat} {c : Array Value} {T : TypeId} (h : Blk w b c T) (i : Nat) : w.frozen? ⟨b, i, none⟩ = false := by
  unfold Blk at h
  simp [World.frozen?, h]
theorem Blk.lt {w : World} {b : Nat} {c : Array Value} {T : TypeId} (h : Blk w b c T) : b < w.heap.size := lt_of_block h
theorem Blk.inj {w : World} {b : Nat} {c c' : Array Value} {T T' : TypeId} (h : Blk w b c T) (h' : Blk w b c' T') : c = c' ∧ T = T' := by
  unfold Blk at h h'
  rw [h] at h'
  injection h' with h'
  injection h' with h1 h2
  exact ⟨h1, h2⟩
theorem Blk.ne {w : World} {b b' : Nat} {c c' : Array Value} {T T' : TypeId} (h : Blk w b c T) (h' : Blk w b' c' T') (hT : T ≠ T') : b ≠ b' := by
  rintro rfl
  exact hT (h.inj h').2
theorem Blk.cast {w : World} {b : Nat} {c c' : Array Value} {T : TypeId} (h : Blk w b c T) (e : c = c') : Blk w b c' T := e ▸ h
theorem Blk.set {w : World} {b : Nat} {c : Array Value} {T : TypeId} (h : Blk w b c T) (i : Nat) (v : Value) : Blk (w.setCell ⟨b, i, none⟩ v) b (c.setIfInBounds i v) T := by
  have hlt := h.lt
  unfold Blk at h ⊢
  have h' : w.heap[b] = .cells c T (0, 0) := by simpa [Array.getElem?_eq_getElem hlt] using h
  show (w.heap.modify b _)[b]? = _
  rw [Array.getElem?_eq_getElem (by simpa using hlt), Array.getElem_modify_self, h']
  rfl
theorem Blk.oth {w : World} {b : Nat} {c : Array Value} {T : TypeId} (h : Blk w b c T) {a : Addr} (hne : b ≠ a.block) (v : Value) : Blk (w.setCell a v) b c T := by
  unfold Blk at h ⊢
  rw [Below.heap_setCell _ _ _ _ hne]
  exact h
theorem Blk.alloc {w : World} {b : Nat} {c : Array Value} {T : TypeId} (h : Blk w b c T) (o : Obj) : Blk (w.alloc o) b c T := by
  have hlt := h.lt
  unfold Blk at h ⊢
  rw [Below.heap_alloc _ _ _ hlt]
  exact h
theorem Blk.drew {w : World} {b : Nat} {c : Array Value} {T : TypeId} (h : Blk w b c T) : Blk w.drew b c T := h
theorem Blk.drewN {w : World} {b : Nat} {c : Array Value} {T : TypeId} (h : Blk w b c T) (n : Nat) : Blk (w.drewN n) b c T := h
theorem Blk.new (w : World) (c : Array Value) (T : TypeId) : Blk (w.alloc (.cells c T)) w.heap.size c T := by
  show (w.heap.push _)[w.heap.size]? = _
  simp
theorem Blk.new' (w : World) (c : Array Value) (T : TypeId) (n : Nat) (hn : n = w.heap.size) : Blk (w.alloc (.cells c T)) n c T := hn ▸ Blk.new w c T
theorem Blk.below {w w' : World} {b B : Nat} {c : Array Value} {T : TypeId} (h : Blk w b c T) (hb : Below B w w') (hB : b < B) : Blk w' b c T := (hb.block b hB).trans h

/-- What may turn: blocks in S alone. -/
structure Kp (S : Nat → Prop) (w w' : World) : Prop where
  os : w'.os = w.os
  tape : w'.tape = w.tape
  output : w'.output = w.output
  size : w.heap.size ≤ w'.heap.size
  block : ∀ k, k < w.heap.size → ¬ S k → w'.heap[k]? = w.heap[k]?
theorem Kp.refl (S : Nat → Prop) (w : World) : Kp S w w := ⟨rfl, rfl, rfl, Nat.le_refl _, fun _ _ _ => rfl⟩
theorem Kp.trans {S S' : Nat → Prop} {a b c : World} (h : Kp S a b) (k : Kp S' b c) (hS : ∀ i, i < a.heap.size → S' i → S i) : Kp S a c :=
  ⟨k.os.trans h.os, k.tape.trans h.tape, k.output.trans h.output, Nat.le_trans h.size k.size, fun i hi hn =>
    (k.block i (Nat.lt_of_lt_of_le hi h.size) (fun e => hn (hS i hi e))).trans (h.block i hi hn)⟩
theorem Kp.mono {S S' : Nat → Prop} {a b : World} (h : Kp S a b) (hS : ∀ i, i < a.heap.size → S i → S' i) : Kp S' a b :=
  ⟨h.os, h.tape, h.output, h.size, fun i hi hn => h.block i hi (fun e => hn (hS i hi e))⟩
theorem Kp.alloc {S : Nat → Prop} {a w : World} (h : Kp S a w) (o : Obj) : Kp S a (w.alloc o) :=
  ⟨h.os, h.tape, h.output, Nat.le_trans h.size (by simp), fun i hi hn => (Below.heap_alloc _ _ _ (Nat.lt_of_lt_of_le hi h.size)).trans (h.block i hi hn)⟩
theorem Kp.setCell {S : Nat → Prop} {a w : World} (h : Kp S a w) {p : Addr} (hp : p.block < a.heap.size → S p.block) (v : Value) : Kp S a (w.setCell p v) :=
  ⟨h.os, h.tape, h.output, by simpa using h.size, fun i hi hn => (Below.heap_setCell _ _ _ _ (fun e => hn (by rw [e]; exact hp (e ▸ hi)))).trans (h.block i hi hn)⟩
theorem Kp.drew {S : Nat → Prop} {a w : World} (h : Kp S a w) : Kp S a w.drew := ⟨h.os, h.tape, h.output, h.size, h.block⟩
theorem Kp.drewN {S : Nat → Prop} {a w : World} (h : Kp S a w) (n : Nat) : Kp S a (w.drewN n) := ⟨h.os, h.tape, h.output, h.size, h.block⟩
theorem Kp.blk {S : Nat → Prop} {w w' : World} (h : Kp S w w') {b : Nat} {c : Array Value} {T : TypeId} (hb : Blk w b c T) (hn : ¬ S b) : Blk w' b c T := (h.block b hb.lt hn).trans hb
theorem Kp.below {S : Nat → Prop} {w w' : World} (h : Kp S w w') {B : Nat} (hB : B ≤ w.heap.size) (hS : ∀ k, S k → B ≤ k) : Below B w w' :=
  ⟨h.os, h.tape, h.output, h.size, fun k hk => h.block k (Nat.lt_of_lt_of_le hk hB) (fun e => absurd (hS k e) (Nat.not_le.2 hk))⟩
theorem Kp.of_below {w w' : World} {B : Nat} (h : Below B w w') (S : Nat → Prop) (hS : ∀ k, k < w.heap.size → B ≤ k → S k) : Kp S w w' :=
  ⟨h.os, h.tape, h.output, h.size, fun k hk hn => h.block k (by rcases Nat.lt_or_ge k B with h' | h'; exact h'; exact absurd (hS k hk h') hn)⟩
theorem Kp.grown {S : Nat → Prop} {a w w' : World} {row : Option Nat} (h : Kp S a w) (hg : w.grownBy w' row) (hr : ∀ k, row = some k → k < a.heap.size → S k) : Kp S a w' :=
  ⟨hg.os.trans h.os, hg.tape.trans h.tape, hg.output.trans h.output, Nat.le_trans h.size hg.size, fun i hi hn =>
    (hg.block i (Nat.lt_of_lt_of_le hi h.size) (fun e => hn (hr i e.symm hi))).trans (h.block i hi hn)⟩

/-- Blocks of the element types Ts, of the world's own, from B on. -/
def OfT (B : Nat) (Ts : List TypeId) (w : World) (k : Nat) : Prop := B ≤ k ∧ ∃ c T, Blk w k c T ∧ T ∈ Ts
theorem Blk.ofT {w : World} {b B : Nat} {c : Array Value} {T : TypeId} (h : Blk w b c T) (hB : B ≤ b) {Ts : List TypeId} (hT : T ∈ Ts) : OfT B Ts w b := ⟨hB, c, T, h, hT⟩
theorem Blk.notT {w : World} {b B : Nat} {c : Array Value} {T : TypeId} (h : Blk w b c T) {Ts : List TypeId} (hT : T ∉ Ts) : ¬ OfT B Ts w b := by
  rintro ⟨_, c', T', h', hT'⟩
  exact hT ((h.inj h').2 ▸ hT')
/-- Between two worlds only blocks of the types Ts, from B on, have turned; and none has changed its type. -/
structure KT (B : Nat) (Ts : List TypeId) (w w' : World) : Prop where
  kp : Kp (OfT B Ts w) w w'
  typed : ∀ k c T, k < w.heap.size → Blk w' k c T → ∃ c', Blk w k c' T
theorem KT.refl (B : Nat) (Ts : List TypeId) (w : World) : KT B Ts w w := ⟨Kp.refl _ w, fun _ c _ _ h => ⟨c, h⟩⟩
theorem KT.blk {B : Nat} {Ts : List TypeId} {w w' : World} (h : KT B Ts w w') {b : Nat} {c : Array Value} {T : TypeId} (hb : Blk w b c T) (hT : T ∉ Ts) : Blk w' b c T := h.kp.blk hb (hb.notT hT)
theorem KT.below {B : Nat} {Ts : List TypeId} {w w' : World} (h : KT B Ts w w') (hB : B ≤ w.heap.size) : Below B w w' := h.kp.below hB (fun _ h => h.1)
theorem KT.size {B : Nat} {Ts : List TypeId} {w w' : World} (h : KT B Ts w w') : w.heap.size ≤ w'.heap.size := h.kp.size
theorem KT.trans {B B' : Nat} {Ts Ts' : List TypeId} {a b c : World} (h : KT B Ts a b) (k : KT B' Ts' b c) (hB : B ≤ B') (hT : ∀ t, t ∈ Ts' → t ∈ Ts) : KT B Ts a c :=
  ⟨h.kp.trans k.kp (fun i hi hs => by
      obtain ⟨hb, c1, T, h1, h2⟩ := hs
      obtain ⟨c2, h3⟩ := h.typed i c1 T hi h1
      exact ⟨Nat.le_trans hB hb, c2, T, h3, hT T h2⟩),
    fun i c1 T hi h1 => by
      obtain ⟨c2, h2⟩ := k.typed i c1 T (Nat.lt_of_lt_of_le hi h.size) h1
      exact h.typed i c2 T hi h2⟩
theorem KT.mono {B B' : Nat} {Ts Ts' : List TypeId} {a b : World} (h : KT B Ts a b) (hB : B' ≤ B) (hT : ∀ t, t ∈ Ts → t ∈ Ts') : KT B' Ts' a b :=
  (KT.refl B' Ts' a).trans h hB hT
theorem KT.alloc {B : Nat} {Ts : List TypeId} {a w : World} (h : KT B Ts a w) (o : Obj) : KT B Ts a (w.alloc o) :=
  ⟨h.kp.alloc o, fun i c T hi hb => h.typed i c T hi (by
    unfold Blk at hb ⊢
    rw [Below.heap_alloc _ _ _ (Nat.lt_of_lt_of_le hi h.size)] at hb
    exact hb)⟩
theorem KT.drew {B : Nat} {Ts : List TypeId} {a w : World} (h : KT B Ts a w) : KT B Ts a w.drew := ⟨h.kp.drew, h.typed⟩
theorem KT.drewN {B : Nat} {Ts : List TypeId} {a w : World} (h : KT B Ts a w) (n : Nat) : KT B Ts a (w.drewN n) := ⟨h.kp.drewN n, h.typed⟩
theorem blk_of_setCell {w : World} {p : Addr} {v : Value} {k : Nat} {c : Array Value} {T : TypeId} (h : Blk (w.setCell p v) k c T) : ∃ c', Blk w k c' T := by
  unfold Blk at h
  simp only [World.setCell, Array.getElem?_modify] at h
  by_cases hk : p.block = k
  · rw [if_pos hk] at h
    cases hh : w.heap[k]? with
    | none => rw [hh] at h; simp at h
    | some o =>
      rw [hh] at h
      cases o <;> simp at h
      obtain ⟨_, h2, h3⟩ := h
      exact ⟨_, by unfold Blk; rw [hh, h2, h3]⟩
  · rw [if_neg hk] at h
    exact ⟨c, h⟩
/-- A store into a block of one of the types, or into a block that wasn't there. -/
theorem KT.set {B : Nat} {Ts : List TypeId} {a w : World} (h : KT B Ts a w) {b : Nat} {c : Array Value} {T : TypeId} (hb : Blk w b c T) (hT : T ∈ Ts) (hB : B ≤ b) (i : Nat) (v : Value) : KT B Ts a (w.setCell ⟨b, i, none⟩ v) :=
  ⟨h.kp.setCell (fun hlt => by
      obtain ⟨c2, h2⟩ := h.typed b c T hlt hb
      exact ⟨hB, c2, T, h2, hT⟩) v,
    fun i c T hi hb => by
      obtain ⟨c', h'⟩ := blk_of_setCell hb
      exact h.typed i c' T hi h'⟩
theorem KT.setNew {B : Nat} {Ts : List TypeId} {a w : World} (h : KT B Ts a w) {b : Nat} (hb : a.heap.size ≤ b) (i : Nat) (v : Value) : KT B Ts a (w.setCell ⟨b, i, none⟩ v) :=
  ⟨h.kp.setCell (fun hlt => absurd hlt (Nat.not_lt.2 hb)) v,
    fun i c T hi hb => by
      obtain ⟨c', h'⟩ := blk_of_setCell hb
      exact h.typed i c' T hi h'⟩

end Go.Proofs.Ytfcfbfingnpnoaa
