/-
  All of a list are gone through from both ends alike, and each is in that list.
-/
import Derived.Test.YtfcfbfingnpnoaaLawDo
set_option linter.unusedVariables false
set_option linter.unusedSimpArgs false
namespace Go.Proofs.Ytfcfbfingnpnoaa
open Go.RowKit

theorem bgF_tag (i : Int) : (bgF.at_ i).tag = 0 := by
  unfold Arn.at_
  split
  · rename_i h
    obtain ⟨h0, h1, h2⟩ := Arn.is_lt h
    have hall : ∀ s ∈ bgF.slots, s.n.tag = 0 := by decide
    have := hall _ (List.mem_of_getElem? h2)
    exact this
  · rfl
theorem bgF_wf : bgF.wf := by
  have : ∀ s ∈ bgF.slots, s.n.wfB = true := by decide
  intro s hs
  have := this s hs
  unfold Nd.wfB at this
  simp only [Bool.and_eq_true, decide_eq_true_eq] at this
  exact ⟨this.1.1.1, this.1.1.2, i32_of this.1.2, i32_of this.2⟩
theorem rep_new (t : Int) : Rep (Lst.new bgF t) (List.replicate (many4 t) []) := by
  have hx : ∀ (u : Nat) (xs : List Int), (List.replicate (many4 t) ([] : List Int))[u]? = some xs → xs = [] := fun u xs h => (List.mem_replicate.1 (List.mem_of_getElem? h)).2
  refine ⟨?_, fun u xs h => ?_, fun u xs h => ?_, fun u xs h i hi => ?_, fun i _ => bgF_tag i, bgF_wf, ?_, by show bgF.slots.length ≤ 1000000; decide⟩
  · rw [List.map_replicate]
    rfl
  · rw [hx u xs h]; trivial
  · rw [hx u xs h]; exact List.nodup_nil
  · rw [hx u xs h] at hi; simp at hi
  · rw [List.length_replicate]; unfold many4; omega
theorem xlen_new (n m : Nat) : XLen (List.replicate n []) m := fun xs hx => by rw [(List.mem_replicate.1 hx).2]; simp

def nth (xs : List Int) (q : Nat) : Int := xs.getD q 0
def endOf (xs : List Int) : Int := xs.getLastD 0
theorem getLastD_take (xs : List Int) (q : Nat) (hq : q < xs.length) : endOf (xs.take (q + 1)) = nth xs q := by
  unfold endOf nth
  rw [List.take_succ_eq_append_getElem hq, getLastD_append']
  simp [List.getLastD, List.getD, hq]
theorem Rep.walk {S : Lst} {X : List (List Int)} (R : Rep S X) {j : Nat} {xs : List Int} (hxs : xs = Xat X (j : Int)) {q : Nat} (hq : q < xs.length) :
    S.tag (nth xs q) = j ∧ I32 (nth xs q) ∧ S.before (nth xs q) = endOf (xs.take q) := by
  have hX : X[j]? = some xs := by
    cases e : X[j]? with
    | none =>
      rw [hxs] at hq
      unfold Xat at hq
      rw [if_pos (by omega), Int.toNat_natCast, e] at hq
      simp at hq
    | some ys => rw [hxs, Xat_nat e]
  have hd : nth xs q = xs[q] := by simp [nth, List.getD, hq]
  have hsplit : xs = xs.take q ++ xs[q] :: xs.drop (q + 1) := by
    rw [← List.drop_eq_getElem_cons hq, List.take_append_drop]
  rw [hd]
  have hm : xs[q] ∈ xs := List.getElem_mem hq
  refine ⟨?_, R.i32 hX hm, ?_⟩
  · have := R.tag hX hm
    show S.tg _ - 1 = _
    omega
  · have hX2 := hX
    rw [hsplit] at hX2
    have := (R.near (i := xs[q]) hX2).1
    rw [this]
    rfl
theorem addr_next (x : Addr) (m j : Nat) (hj : 0 < j) : x.add (m + j) = { block := (x.add m).block, off := (x.add m).off + j } := by
  unfold Addr.add
  rw [if_neg (by omega)]
  split
  · rename_i h
    subst h
    simp
  · simp [Nat.add_assoc]
/-- The acts that are handed in. -/
def ActsAt (w : World) (a : Option Addr) (n : Nat) (K : Nat → Nat) (T I : Nat → Int) : Prop :=
  ∀ k, k < n → ∃ x, a = some x ∧ w.cell? (x.add (k * 3)) = some (.int .u8 (K k)) ∧ w.cell? (x.add (k * 3 + 1)) = some (.int .i64 (T k)) ∧ w.cell? (x.add (k * 3 + 2)) = some (.int .i32 (I k)) ∧ K k ≤ 255 ∧ I32 (I k)
/-- The lists behind so many acts. -/
structure Up (w wr : World) (B gl ga gll k : Nat) (S : Lst) (X : List (List Int)) : Prop where
  lists : ListsAt wr B gl ga gll S
  rep : Rep S X
  few : XLen X k
  old : w.heap.size ≤ B
  size : B ≤ wr.heap.size
  bel : Below w.heap.size w wr
theorem Up.keep {w wr W : World} {B gl ga gll k : Nat} {S : Lst} {X : List (List Int)} (h : Up w wr B gl ga gll k S X) (hb : Below wr.heap.size wr W) : Up w W B gl ga gll k S X :=
  ⟨h.lists.keep hb, h.rep, h.few, h.old, Nat.le_trans h.size hb.size, h.bel.trans (hb.mono h.bel.size)⟩
theorem up_do {w wr : World} {B gl ga gll k : Nat} {S : Lst} {X : List (List Int)} (h : Up w wr B gl ga gll k S X) (hk : k ≤ 40) (K : Nat) (hK : K ≤ 255) (T I : Int) (hI : I32 I) :
    Calls Try.prog 25 #[.pointer (some ⟨gl, 0, none⟩), .agg #[.int .u8 K, .int .i64 T, .int .i32 I]] wr fun e w' => ∃ S', e = .returned (.bool (actX S.A.is X K T I).2) ∧ Up w w' B gl ga gll (k + 1) S' (actX S.A.is X K T I).1 ∧ ∀ j, S'.A.is j = S.A.is j := by
  refine (law_do h.lists h.size h.rep h.few (by omega) T I hI K hK).mono ?_
  rintro e w' ⟨S', rfl, h1, h2, h3, h4⟩
  exact ⟨S', rfl, ⟨h1, h2, actX_few h.few _ _ _, h.old, Nat.le_trans h.size h4.size, h.bel.trans ((h4.below h.size).mono h.old)⟩, h3⟩

section
variable {w : World} {tags n c : Nat} {a : Option Addr} {K : Nat → Nat} {T I : Nat → Int} (ht : tags ≤ 255) (hacts : ActsAt w a n K T I)
include ht hacts
set_option maxRecDepth 100000 in
set_option maxHeartbeats 8000000 in
theorem walk_IlistRound : Calls Try.prog 6 #[.int .u8 tags, .slice a n c] w fun e w' => e = .returned (.bool true) ∧ Below w.heap.size w w' := by
  have HA := hid hacts
  clear hacts
  by_cases h40 : n ≤ 40
  · go_enter Try.func6, Try.ntmps6
    go_wp2_with fail
    go_must (refine (law_awake w).mono ?_)
    rintro e w0 ⟨rfl, k0⟩
    have K0 := hid k0
    clear k0
    go_wp2_with fail
    go_must (refine (law_begin tags ht w0).mono ?_)
    rintro e w1 ⟨ga, gl, gll, gL, A2, c2, g3, c3, rfl, hl, _, _, hb⟩
    have HU : Hid (∀ o, Up w (w1.alloc o) w0.heap.size gl ga gll 0 (Lst.new bgF (1 + (tags : Int) % 3)) (List.replicate (many4 (1 + (tags : Int) % 3)) [])) := fun o =>
      (Up.mk hl (rep_new _) (xlen_new _ _) K0.out.size hb.size (K0.out.trans (hb.mono K0.out.size)) : Up w w1 _ _ _ _ _ _ _).keep (Below.alloc (Below.refl _ _) (Nat.le_refl _) o)
    clear hl hb
    go_wp2
    go_loopw [9] (fun i wr => ∃ (k : Nat) (S : Lst) (X : List (List Int)), k ≤ n ∧ i = .int .i64 k ∧ Up w wr w0.heap.size gl ga gll k S X) (fun i _ => n - (intOf i).toNat)
    case atStart => exact ⟨0, _, _, Nat.zero_le _, rfl, HU.out _⟩
    case round =>
      obtain ⟨k, S, X, hk, rfl, hup⟩ := hrel
      have HUP := hid hup
      clear hup
      by_cases hlt : k < n
      · obtain ⟨x, rfl, d0, d1, d2, d3, d4⟩ := HA.out k hlt
        have f0 := cell_old HUP.out.bel d0
        have f1 := cell_old HUP.out.bel d1
        have f2 := cell_old HUP.out.bel d2
        rw [addr_next _ _ 1 (by omega)] at f1
        rw [addr_next _ _ 2 (by omega)] at f2
        have D3 := hid d3
        have D4 := hid d4
        clear d0 d1 d2 d3 d4
        go_wp2_with fail
        go_must (refine (up_do HUP.out (by omega) (K k) D3.out (T k) (I k) D4.out).mono ?_)
        rintro e w2 ⟨S', rfl, hup, _⟩
        have HUP2 := hid hup
        clear hup
        go_wp2
        go_roundw
        case rel => exact ⟨k + 1, S', _, by omega, by go_num, HUP2.out⟩
        case measure => simp [intOf]; omega
      · go_wp2
        obtain ⟨wE, rfl⟩ : ∃ wE, wE = wr := ⟨_, rfl⟩
        have HX := hid (show XLen X 40 from fun xs hx => Nat.le_trans (HUP.out.few xs hx) (by omega))
        go_loopw [10] (fun i wv => ∃ j : Nat, j ≤ 3 ∧ i = .int .i64 j ∧ Below wE.heap.size wE wv) (fun i _ => 3 - (intOf i).toNat)
        case atStart => exact ⟨0, by omega, rfl, Below.refl _ _⟩
        case round =>
          obtain ⟨j, hj, rfl, hbv⟩ := hrel
          have HBV := hid hbv
          clear hbv
          obtain ⟨wv, rfl⟩ : ∃ wv, wv = wr := ⟨_, rfl⟩
          by_cases hj3 : j < 3
          · obtain ⟨xs, hxs⟩ : ∃ xs, xs = Xat X (j : Int) := ⟨_, rfl⟩
            have HXS := hid hxs
            have hlen : xs.length ≤ 40 := hxs ▸ HX.out.at_ j
            have hwf : S.wf := HUP.out.rep.wf (fun t ys hy => Nat.le_trans (HX.out ys (List.mem_of_getElem? hy)) (by omega))
            have HWF := hid hwf
            have HAL := hid (fun (W : World) (hb : Below wE.heap.size wE W) => lists_All (HUP.out.lists.keep hb) hwf (j : Int) xs (hxs ▸ HUP.out.rep.chain j) (by omega))
            have HBK := hid (fun (W : World) (hb : Below wE.heap.size wE W) => (show Calls Try.prog 21 #[.pointer (some ⟨gl, 0, none⟩), .int .i64 (j : Int)] W fun e w' => e = .returned (.int .i32 (endOf xs)) ∧ W = w' from by
              have := ilist_Back (HUP.out.lists.keep hb) (j : Int)
              rw [HUP.out.rep.back, ← hxs] at this
              exact this))
            have HTG := hid (fun (W : World) (hb : Below wE.heap.size wE W) (q : Nat) (hq : q < xs.length) => (show Calls Try.prog 16 #[.pointer (some ⟨gl, 0, none⟩), .int .i32 (nth xs q)] W fun e w' => e = .returned (.int .i64 (j : Int)) ∧ Below W.heap.size W w' from by
              obtain ⟨q1, q2, q3⟩ := HUP.out.rep.walk hxs hq
              have := ilist_Tag (HUP.out.lists.keep hb) HUP.out.rep.nodes (nth xs q) q2
              rw [q1] at this
              exact this))
            have HBF := hid (fun (W : World) (hb : Below wE.heap.size wE W) (q : Nat) (hq : q < xs.length) => (show Calls Try.prog 23 #[.pointer (some ⟨gl, 0, none⟩), .int .i32 (nth xs q)] W fun e w' => e = .returned (.int .i32 (endOf (xs.take q))) ∧ Below W.heap.size W w' from by
              obtain ⟨q1, q2, q3⟩ := HUP.out.rep.walk hxs hq
              have := ilist_Before (HUP.out.lists.keep hb) HUP.out.rep.nodes (nth xs q) q2
              rw [q3] at this
              exact this))
            clear hxs hwf
            go_wp2_with fail
            go_must (refine (HAL.out _ HBV.out).mono ?_)
            rintro e wx ⟨v, rfl, hrow, hbx⟩
            have HBX := hid (HBV.out.trans (hbx.mono HBV.out.size))
            obtain ⟨A1, c1, rfl, _, _⟩ := hrow.slice
            have HROW := hid hrow
            clear hrow hbx
            go_wp2_with fail
            go_must (refine (HBK.out _ HBX.out).mono ?_)
            rintro e wy ⟨rfl, rfl⟩
            go_wp2
            have hst : (xs.length = 0 ∧ endOf xs = 0) ∨ ∃ q : Nat, xs.length = q + 1 ∧ endOf xs = nth xs q := by
              rcases Nat.eq_zero_or_pos xs.length with h0 | h0
              · left
                have := List.eq_nil_of_length_eq_zero h0
                subst this
                exact ⟨rfl, rfl⟩
              · right
                refine ⟨xs.length - 1, by omega, ?_⟩
                have := getLastD_take xs (xs.length - 1) (by omega)
                rw [show xs.length - 1 + 1 = xs.length by omega, List.take_length] at this
                exact this
            have HST := hid hst
            clear hst
            go_loopw [12, 13] (fun at_ i wz => Below wx.heap.size wx wz ∧ ((i = .int .i64 (-1) ∧ at_ = .int .i32 0) ∨ ∃ q : Nat, q < xs.length ∧ i = .int .i64 q ∧ at_ = .int .i32 (nth xs q))) (fun _ i _ => (intOf i + 1).toNat)
            case atStart =>
              refine ⟨Below.refl _ _, ?_⟩
              rcases HST.out with ⟨h1, h2⟩ | ⟨q, h1, h2⟩
              · left
                rw [h1, h2]
                exact ⟨rfl, rfl⟩
              · right
                rw [h1, h2]
                exact ⟨q, by omega, by go_num, rfl⟩
            case round =>
              obtain ⟨hbz, hcase⟩ := hrel
              have HBZ := hid hbz
              clear hbz
              obtain ⟨wz, rfl⟩ : ∃ wz, wz = wr := ⟨_, rfl⟩
              rcases hcase with ⟨rfl, rfl⟩ | ⟨q, hq, rfl, rfl⟩
              · go_wp2
                go_roundw
                case rel => exact ⟨j + 1, by omega, by go_num, HBX.out.trans (HBZ.out.mono HBX.out.size)⟩
                case measure => (simp [intOf]; try omega)
              · obtain ⟨g, cap, cur, hv, _, hbk, _, _, _, hcur⟩ := (HROW.out.below HBZ.out).at_pos (show 0 < xs.length by omega)
                injection hv with e1 e2 e3
                subst e1
                have hcell : wz.cell? ⟨g, q, none⟩ = some (.int .i32 (nth xs q)) := row_cell hbk hcur q (by simp [nth, List.getD, hq])
                have HTQ := hid (fun (W : World) (hb : Below wE.heap.size wE W) => HTG.out W hb q hq)
                have HBQ := hid (fun (W : World) (hb : Below wE.heap.size wE W) => HBF.out W hb q hq)
                have HZ := hid (HBX.out.trans (HBZ.out.mono HBX.out.size))
                clear hbk hcur e2 e3
                go_wp2_with fail
                go_must (refine (HTQ.out _ HZ.out).mono ?_)
                rintro e wp ⟨rfl, hbp⟩
                have HP := hid (HZ.out.trans (hbp.mono HZ.out.size))
                have HPZ := hid (HBZ.out.trans (hbp.mono HBZ.out.size))
                clear hbp
                go_wp2_with fail
                go_must (refine (HBQ.out _ HP.out).mono ?_)
                rintro e wq ⟨rfl, hbq⟩
                have HQZ := hid (HPZ.out.trans (hbq.mono HPZ.out.size))
                clear hbq
                have hen : (q = 0 ∧ endOf (xs.take q) = 0) ∨ ∃ r : Nat, q = r + 1 ∧ endOf (xs.take q) = nth xs r := by
                  rcases Nat.eq_zero_or_pos q with h0 | h0
                  · left
                    subst h0
                    exact ⟨rfl, rfl⟩
                  · right
                    obtain ⟨r, rfl⟩ : ∃ r, q = r + 1 := ⟨q - 1, by omega⟩
                    exact ⟨r, rfl, getLastD_take xs r (by omega)⟩
                have HEN := hid hen
                clear hen
                generalize endOf (xs.take q) = en at *
                go_wp2
                go_roundw
                case rel =>
                  refine ⟨HQZ.out, ?_⟩
                  rcases HEN.out with ⟨h1, h2⟩ | ⟨r, h1, h2⟩
                  · left
                    subst h1
                    subst h2
                    exact ⟨rfl, rfl⟩
                  · right
                    subst h1
                    subst h2
                    exact ⟨r, by omega, by go_num, rfl⟩
                case measure => (simp [intOf]; try omega)
          · go_wp2
            go_ret
            exact ⟨rfl, HUP.out.bel.trans (HBV.out.mono HUP.out.bel.size)⟩
  · go_enter Try.func6, Try.ntmps6
    go_wp2_with fail
    go_must (refine (law_awake w).mono ?_)
    rintro e w0 ⟨rfl, k0⟩
    have K0 := hid k0
    clear k0
    go_wp2
    go_ret
    exact ⟨rfl, K0.out⟩
end

end Go.Proofs.Ytfcfbfingnpnoaa
