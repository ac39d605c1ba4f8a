/-
  The reference of layer 3: what its functions read, and hand back.
-/
import Derived.Test.YtfcfbfingnpnoaaIlistX
set_option linter.unusedVariables false
set_option linter.unusedSimpArgs false
namespace Go.Proofs.Ytfcfbfingnpnoaa
open Go.RowKit

section
variable {P : Program}
theorem run_append_nil (w : World) (t ty e : TypeId) (i : TypeInfo) (ht : P.underlying t = some (.slice e)) (hi : P.info? e = some i) (hi0 : 0 < i.size) (g n cap : Nat) (hn : n ≤ cap) :
    (Builtin.append_ #[t, t] ty #[.slice (some ⟨g, 0, none⟩) n cap, .slice none 0 0]).run P w = .ok (.slice (some ⟨g, 0, none⟩) n cap) w := by
  simp [Builtin.append_, run_underlying ht, sizeOf, typeInfo, hi, Builtin.lenOf, hn, Builtin.firstCells, storeCells]

/-- append of a row that may be nil, to a row of the call's own that has no nil. -/
theorem wpList_append_row (w : World) {ops : Array Oper} {rest : List Oper} {o : Oper} {a : Act} {Q : Exit → Act → World → Prop} (hgd : o.guard = none) (s x : Operand) (t : TypeId)
    (ho : o.op = .call { callee := .builtin .append, args := #[s, x], argTypes := #[t, t] })
    (e : TypeId) (i : TypeInfo) (z : Value) (size bytes : Nat) (ht : P.underlying t = some (.slice e)) (hi : P.info? e = some i) (hz : i.zero = some z)
    (hsize : i.size = size) (hby : i.bytes = bytes) (hzs : z.cells.size = size) (hsz : 0 < size) (B : Nat)
    (g n cap : Nat) (xs : List Value) (hs : a.eval s = .slice (some ⟨g, 0, none⟩) n cap) (hrow : Row w B e size (.slice (some ⟨g, 0, none⟩) n cap) n xs)
    (y : Value) (m B2 : Nat) (news : List Value) (hx : a.eval x = y) (hrow2 : Row w B2 e size y m news) (h1 : ∀ u ∈ news, u.oneCell' = true)
    (h63 : n + m ≤ maxLen) (hbytes : (n + m) * bytes ≤ 140737488355328) (hbase : B ≤ w.heap.size)
    (h : ∀ A' c' w', Row w' B e size (.slice A' (n + m) c') (n + m) (xs ++ news) → KT B [e] w w' → wpList P ops Q rest (a.put o.dst (.slice A' (n + m) c')) w') : wpList P ops Q (o :: rest) a w := by
  rcases hrow2.2 with ⟨rfl, rfl⟩ | ⟨g2, cap2, cur2, rfl, hB2, hb2, hm2, hmx2, hsz2, hx2⟩
  · have hnews : news = [] := List.eq_nil_of_length_eq_zero (by simpa using hrow2.1)
    subst hnews
    have hn : n ≤ cap := by
      obtain ⟨A, c, h1, h2, _⟩ := hrow.slice
      injection h1 with _ _ h3
      omega
    refine wpList_plain hgd fun K hK => ?_
    have hrun := run_append_nil (P := P) w t o.type e i ht hi (by omega) g n cap hn
    unfold Oper.wp
    simp [execOp, ho, resolve, invoke, builtin, hs, hx, hrun, Result.andThen]
    exact hK _ _ (by simpa using h (some ⟨g, 0, none⟩) cap w (by simpa using hrow) (KT.refl _ _ _))
  · have hnews : ∀ j u, news[j]? = some u → w.cell? ((⟨g2, 0, none⟩ : Addr).add j) = some u := fun j u hu => by
      have : (⟨g2, 0, none⟩ : Addr).add j = ⟨g2, j, none⟩ := by unfold Addr.add; split <;> simp_all
      rw [this]
      exact row_cell hb2 hx2 j hu
    refine wpList_append_any w hgd s x t ho e i z size bytes ht hi hz hsize hby hzs hsz B _ n xs hs hrow ⟨g2, 0, none⟩ m cap2 news hx hrow2.1 hnews h1 h63 hbytes hbase ?_
    intro A' c' w' r1 r2 r3 r4 r5
    exact h A' c' w' r1 r3
end

theorem mem_snoc {fs : List Int} {k : Nat} (i : Int) (hk : k < fs.length) : (i ∈ fs.take (k + 1)) ↔ i ∈ fs.take k ∨ fs[k] = i := by
  rw [List.take_succ_eq_append_getElem hk, List.mem_append]
  simp [eq_comm]
section
variable {w : World} {fv : Value} {fs : List Int} (hr : Row w 0 21 1 fv fs.length (fs.map (Value.int .i32))) (hlen : fs.length ≤ 1000000)
include hr hlen
set_option maxRecDepth 100000 in
set_option maxHeartbeats 800000 in
theorem ref3_has (i : Int) : Calls Try.prog 56 #[fv, .int .i32 i] w fun e w' => e = .returned (.bool (decide (i ∈ fs))) ∧ w = w' := by
  rcases hr.2 with ⟨rfl, h0⟩ | ⟨g, cap, cur, rfl, hB, hb, hm, hmx, hsz, hx⟩
  · have hfs : fs = [] := List.eq_nil_of_length_eq_zero h0
    subst hfs
    clear hr h0 hlen
    go_enter Try.func56, Try.ntmps56
    go_wp2
    go_loop [5] (fun t => t = .int .i64 0) (fun _ => 0)
    case atStart => rfl
    case round =>
      obtain rfl := hrel
      go_wp2
      go_ret
      exact ⟨rfl, rfl⟩
  · have hc : ∀ (k : Nat) (y : Int), fs[k]? = some y → w.cell? ⟨g, k, none⟩ = some (.int .i32 y) := fun k y hk => row_cell hb hx k (by simp [hk])
    have HC := hid hc
    have hend : fs.take fs.length = fs := List.take_length
    have HE := hid hend
    clear hr hc hx hsz hb hB hend
    generalize hn : fs.length = n at *
    have HN := hid hn
    clear hn
    have hsnoc := fun (k : Nat) (hk : k < fs.length) => mem_snoc (fs := fs) i hk
    have HS := hid hsnoc
    clear hsnoc
    go_enter Try.func56, Try.ntmps56
    go_wp2
    go_loop [5] (fun t => ∃ k : Nat, k ≤ n ∧ t = .int .i64 k ∧ i ∉ fs.take k) (fun t => n - (intOf t).toNat)
    case atStart => exact ⟨0, Nat.zero_le _, rfl, by simp⟩
    case round =>
      obtain ⟨k, hk, rfl, hno⟩ := hrel
      have HNO := hid hno
      clear hno
      by_cases hlt : k < n
      · have hlt' : k < fs.length := by rw [HN.out]; exact hlt
        have hck := HC.out k _ (List.getElem?_eq_getElem hlt')
        have hs := HS.out k hlt'
        obtain ⟨y, hy⟩ : ∃ y, y = fs[k] := ⟨_, rfl⟩
        rw [← hy] at hck hs
        have HY := hid hy
        have HSK := hid hs
        clear hy hs
        by_cases he : y = i
        · subst he
          go_wp2
          go_ret
          have hmem : y ∈ fs := by rw [HY.out]; exact List.getElem_mem hlt'
          exact ⟨by rw [decide_eq_true hmem]; rfl, rfl⟩
        · go_wp2
          go_round
          case rel => exact ⟨k + 1, by omega, by go_num, fun h => ((HSK.out.1 h).elim (fun h => HNO.out h) (fun h => he h))⟩
          case measure => simp [intOf]; omega
      · go_wp2
        go_ret
        have hkn : k = n := by omega
        have hno2 := HNO.out
        rw [hkn, HE.out] at hno2
        exact ⟨by rw [decide_eq_false hno2]; rfl, rfl⟩
end


/-- What a reference's arena says of a slot. -/
def isR (ever : Int) (fs : List Int) (i : Int) : Bool := decide (0 < i) && decide (i ≤ ever) && decide (i ∉ fs)
section
variable {w : World} {x0 ever : Int} {A2 A3 : Option Addr} {c2 n3 c3 : Nat} {fs : List Int} (hr : Row w 0 21 1 (.slice A2 fs.length c2) fs.length (fs.map (Value.int .i32))) (hlen : fs.length ≤ 1000000)
include hr hlen
set_option maxRecDepth 100000 in
set_option maxHeartbeats 800000 in
theorem ref3_Is (i : Int) (hi : I32 i) (hev : ever ≤ 1000000) : Calls Try.prog 53 #[.agg #[.int .i64 x0, .int .i64 ever, .slice A2 fs.length c2, .slice A3 n3 c3], .int .i32 i] w fun e w' =>
    e = .returned (.bool (isR ever fs i)) ∧ Below w.heap.size w w' := by
  have HR := hid (fun (W : World) (hb : Below w.heap.size w W) => ref3_has (hr.below hb) hlen i)
  unfold I32 at hi
  clear hr
  generalize fs.length = n at *
  by_cases h1 : 0 < i
  · by_cases h2 : i ≤ ever
    · have h3 : isR ever fs i = decide (i ∉ fs) := by simp [isR, h1, h2]
      rw [h3]
      clear h3
      go_enter Try.func53, Try.ntmps53
      go_wp2_with (go_at_call 56; go_must (refine (HR.out _ (by with_reducible repeat (first | exact Below.refl _ _ | assumption | refine Below.drew ?_ | refine Below.alloc ?_ (by simp; try omega) _ | refine Below.setCell ?_ (by simp; try omega) _ | refine pw_drewN ?_ _))).mono ?_; rintro e w1 ⟨rfl, rfl⟩))
      go_ret
      exact ⟨by simp, (by with_reducible repeat (first | exact Below.refl _ _ | assumption | refine Below.drew ?_ | refine Below.alloc ?_ (by simp; try omega) _ | refine Below.setCell ?_ (by simp; try omega) _ | refine pw_drewN ?_ _))⟩
    · have h3 : isR ever fs i = false := by simp [isR, h2]
      rw [h3]
      clear h3
      go_enter Try.func53, Try.ntmps53
      go_wp2
      go_ret
      exact ⟨rfl, (by with_reducible repeat (first | exact Below.refl _ _ | assumption | refine Below.drew ?_ | refine Below.alloc ?_ (by simp; try omega) _ | refine Below.setCell ?_ (by simp; try omega) _ | refine pw_drewN ?_ _))⟩
  · have h3 : isR ever fs i = false := by simp [isR, h1]
    rw [h3]
    clear h3
    go_enter Try.func53, Try.ntmps53
    go_wp2
    go_ret
    exact ⟨rfl, (by with_reducible repeat (first | exact Below.refl _ _ | assumption | refine Below.drew ?_ | refine Below.alloc ?_ (by simp; try omega) _ | refine Below.setCell ?_ (by simp; try omega) _ | refine pw_drewN ?_ _))⟩
end

end Go.Proofs.Ytfcfbfingnpnoaa
