/-
  Package folder: May.
-/
import Derived.Test.YtgdbdhfomlkpdaaFoB
import Derived.Test.YtgdbdhfomlkpdaaMixC
import Derived.IntWalk
namespace Go.Proofs.Ytgdbdhfomlkpdaa
open Go.RowKit

def lessS (a b : ByteArray) : Bool := Op.bytesLess a.toList b.toList
/-- An item by itself. -/
def itOk1 (x : It) : Bool := mayN x.nm && decide (0 ≤ x.sz) && (x.kd == 1 || (x.kd == 2 && x.sz == 0))
/-- An item and the one ahead of it. -/
def okAt (l : List It) (k : Nat) : Bool :=
  match l[k]? with
  | none => true
  | some x => itOk1 x && (k == 0 || match l[k - 1]? with
    | none => true
    | some y => lessS y.nm x.nm)
/-- May these be a folder? -/
def mayL (l : List It) : Bool := decide (l.length ≤ 64) && (List.range l.length).all (okAt l)
theorem mayL_long {l : List It} (h : ¬ l.length ≤ 64) : mayL l = false := by
  unfold mayL
  rw [decide_eq_false h]
  rfl
theorem mayL_no {l : List It} {k : Nat} (hk : k < l.length) (h : okAt l k = false) : mayL l = false := by
  unfold mayL
  rw [Bool.and_eq_false_iff]
  right
  rw [List.all_eq_false]
  exact ⟨k, List.mem_range.2 hk, by rw [h]; decide⟩
theorem mayL_yes {l : List It} (h : l.length ≤ 64) (hk : ∀ k, k < l.length → okAt l k = true) : mayL l = true := by
  unfold mayL
  rw [decide_eq_true h, Bool.true_and, List.all_eq_true]
  exact fun k hm => hk k (List.mem_range.1 hm)
theorem mayL_inv {l : List It} (h : mayL l = true) : l.length ≤ 64 ∧ ∀ k, k < l.length → okAt l k = true := by
  unfold mayL at h
  rw [Bool.and_eq_true, List.all_eq_true] at h
  exact ⟨of_decide_eq_true h.1, fun k hk => h.2 k (List.mem_range.2 hk)⟩
theorem okAt_name {l : List It} {k : Nat} {x : It} (hx : l[k]? = some x) (h : mayN x.nm = false) : okAt l k = false := by
  unfold okAt itOk1
  rw [hx]
  simp [h]
theorem okAt_size {l : List It} {k : Nat} {x : It} (hx : l[k]? = some x) (h : x.sz < 0) : okAt l k = false := by
  unfold okAt itOk1
  rw [hx]
  have : decide (0 ≤ x.sz) = false := decide_eq_false (by omega)
  simp [this]
theorem okAt_kind {l : List It} {k : Nat} {x : It} (hx : l[k]? = some x) (h : (x.kd == 1 || (x.kd == 2 && x.sz == 0)) = false) : okAt l k = false := by
  unfold okAt itOk1
  rw [hx]
  dsimp only
  rw [h]
  simp
theorem okAt_order {l : List It} {k : Nat} {x y : It} (hx : l[k]? = some x) (hk : k ≠ 0) (hy : l[k - 1]? = some y) (h : lessS y.nm x.nm = false) : okAt l k = false := by
  unfold okAt
  rw [hx, hy]
  dsimp only
  rw [h]
  simp [hk]
theorem okAt_yes {l : List It} {k : Nat} {x : It} (hx : l[k]? = some x) (h1 : mayN x.nm = true) (h2 : 0 ≤ x.sz) (h3 : (x.kd == 1 || (x.kd == 2 && x.sz == 0)) = true) (h4 : k ≠ 0 → ∀ y, l[k - 1]? = some y → lessS y.nm x.nm = true) : okAt l k = true := by
  unfold okAt itOk1
  rw [hx]
  dsimp only
  rw [h1, h3, decide_eq_true h2]
  by_cases hk : k = 0
  · simp [hk]
  · rcases hy : l[k - 1]? with _ | y
    · simp
    · simp [h4 hk y hy]

theorem less_flip : ∀ l m : List UInt8, (Op.bytesLess m l || m == l) = !Op.bytesLess l m
  | [], [] => rfl
  | [], _ :: _ => by simp [Op.bytesLess]
  | _ :: _, [] => by simp [Op.bytesLess]
  | a :: l, b :: m => by
    have ih := less_flip l m
    simp only [Op.bytesLess, List.cons_beq_cons]
    rcases Nat.lt_trichotomy a.toNat b.toNat with h | h | h
    · have h1 : decide (a < b) = true := by simpa [UInt8.lt_iff_toNat_lt] using h
      have h2 : decide (b < a) = false := by simp [UInt8.lt_iff_toNat_lt]; omega
      have h3 : (b == a) = false := by rw [beq_eq_false_iff_ne]; intro e; rw [e] at h; omega
      simp [h1, h2, h3]
    · obtain rfl : a = b := UInt8.toNat_inj.1 h
      have h2 : decide (a < a) = false := by simp [UInt8.lt_iff_toNat_lt]
      simp only [h2, Bool.false_or, beq_self_eq_true, Bool.true_and]
      exact ih
    · have h1 : decide (b < a) = true := by simpa [UInt8.lt_iff_toNat_lt] using h
      have h2 : decide (a < b) = false := by simp [UInt8.lt_iff_toNat_lt]; omega
      have h3 : (a == b) = false := by rw [beq_eq_false_iff_ne]; intro e; rw [e] at h; omega
      simp [h1, h2, h3]
set_option maxRecDepth 20000 in
set_option maxHeartbeats 8000000 in
theorem May_any {w : World} {A : Option Addr} {n c : Nat} {l : List It} (h : Its w A n c l) :
    Calls Try.prog 13 #[.slice A n c] w fun e w' => e = .returned (.bool (mayL l)) ∧ Below w.heap.size w w' := by
  have hl := h.len
  by_cases h64 : (64 : Int) < n
  · have HN := Lib.hid (mayL_long (l := l) (by omega))
    clear hl
    go_enter Try.func13, Try.ntmps13
    go_wp2_with fail
    go_ret
    rw [HN.out]
    exact ⟨rfl, Below.refl _ _⟩
  have h64' : (n : Int) ≤ 64 := by omega
  clear h64
  have HL := Lib.hid hl
  clear hl
  go_enter Try.func13, Try.ntmps13
  go_wp2_with fail
  go_loopw [10] (fun i wr => ∃ k : Nat, k ≤ n ∧ i = .int .i64 k ∧ Below w.heap.size w wr ∧ Hid (∀ j, j < k → okAt l j = true)) (fun i _ => n - (intOf i).toNat)
  case atStart => exact ⟨0, by omega, rfl, Below.refl _ _, (show ∀ j, j < 0 → _ from fun j h => absurd h (Nat.not_lt_zero j))⟩
  case round =>
    obtain ⟨k, hk, rfl, hb, hH⟩ := hrel
    by_cases hlt : k < n
    · have hr := h.below hb
      have hB := hb.size
      obtain ⟨⟨nm, kd, id, sz⟩, hx, hok, hidx⟩ := hr.at (k : Int) k rfl hlt
      have hld := hr.load hx.out
      have hlt2 : k < l.length := by rw [HL.out]; exact hlt
      have HLT := Lib.hid hlt2
      clear hlt2
      go_wp2_with (first
        | (refine wpList_load_run (by rfl) _ _ rfl (at_ A (k * 35)) rfl _ hld ?_)
        | (refine wpList_alloc_zero rfl _ rfl (itA itZ) zero_it ?_; intro w1 hg1 hb1 hz1)
        | (refine wpList_store_all rfl _ _ _ rfl wr.heap.size rfl _ _ _ (by rfl) hg1 (size_it hok) (itA_same itZ_ok hok) itA_one ?_; intro w2 hg2 hgr2 hz2; have hB2 : ItB w2 wr.heap.size _ := ⟨hok, hg2⟩; have p1 := hB2.name; have p2 := hB2.kind; have p3 := hB2.size))
      have hbr2 : Below wr.heap.size wr w2 := hb1.grown hgr2 hb1.size (fun g hg => by injection hg with hg; omega)
      have hb2 := hb.trans (hbr2.mono hB)
      have hr2 := hr.below hbr2
      clear hld hz1 hz2 hg1 hgr2 hg2 hB2 hb1
      have HC := Lib.hid (MayName_any nm)
      by_cases hN : mayN nm = false
      · rw [hN] at HC
        have HN := Lib.hid (mayL_no (l := l) HLT.out (okAt_name hx.out hN))
        clear hN
        go_wp2_with fail
        refine (HC.out _).mono ?_
        rintro e w3 ⟨rfl, rfl⟩
        go_wp2_with fail
        go_ret
        rw [HN.out]
        exact ⟨rfl, hb2⟩
      have hN' : mayN nm = true := by simpa using hN
      rw [hN'] at HC
      have HNM := Lib.hid hN'
      clear hN hN'
      go_wp2_with fail
      refine (HC.out _).mono ?_
      rintro e w3 ⟨rfl, rfl⟩
      clear hr hbr2 hb
      by_cases hk0 : k = 0
      · subst hk0
        have HSTEP : Hid (0 ≤ sz → (kd == 1 || (kd == 2 && sz == 0)) = true → ∀ j, j < 0 + 1 → okAt l j = true) := by
          show _ → _
          intro q1 q2 j hj
          obtain rfl : j = 0 := by omega
          exact okAt_yes hx.out HNM.out q1 q2 (fun h => absurd rfl h)
        clear hH HNM
        go_wp2_with fail
        go_quiet (fail)
        have hbk := below_drewN hb2 nq
        clear hb2
        have hk1 := hbk.size
        by_cases hs : sz < 0
        · have HN := Lib.hid (mayL_no (l := l) HLT.out (okAt_size hx.out hs))
          go_wp2_with fail
          go_ret
          rw [HN.out]
          exact ⟨rfl, hbk⟩
        have hs' : 0 ≤ sz := by omega
        clear hs
        by_cases k1 : kd = 1
        · have HS := Lib.hid (HSTEP.out hs' (by rw [k1]; rfl))
          subst k1
          clear HSTEP
          go_wp2_with fail
          go_roundw
          case rel => exact ⟨0 + 1, by omega, by go_num, hbk, HS.out⟩
          case measure => simp [intOf]; omega
        by_cases k2 : kd = 2
        · by_cases z : sz = 0
          · have HS := Lib.hid (HSTEP.out hs' (by rw [k2, z]; rfl))
            subst k2 z
            clear HSTEP
            go_wp2_with fail
            go_roundw
            case rel => exact ⟨0 + 1, by omega, by go_num, hbk, HS.out⟩
            case measure => simp [intOf]; omega
          · have z' : (sz != 0) = true := by simpa using z
            have HN := Lib.hid (mayL_no (l := l) HLT.out (okAt_kind hx.out (by dsimp only; rw [k2]; simpa using z)))
            subst k2
            clear HSTEP
            go_wp2_with fail
            go_ret
            rw [HN.out]
            exact ⟨rfl, hbk⟩
        · have k1' : (kd != 1) = true := by simpa using k1
          have k2' : (kd != 2) = true := by simpa using k2
          have HN := Lib.hid (mayL_no (l := l) HLT.out (okAt_kind hx.out (by simp [k1, k2])))
          clear HSTEP k1 k2
          go_wp2_with fail
          go_ret
          rw [HN.out]
          exact ⟨rfl, hbk⟩
      · obtain ⟨i, rfl⟩ : ∃ i, k = i + 1 := ⟨k - 1, by omega⟩
        obtain ⟨⟨nm2, kd2, id2, sz2⟩, hy, _, hidy⟩ := hr2.at (i : Int) i rfl (by omega)
        have py := hr2.name hy.out
        dsimp only at py
        have hw1 : IntKind.i64.wrap (i : Int) = i := IntWalk.i64_in _ (by omega)
        have hi0 : (0 : Int) < (i : Int) + 1 := by omega
        have hi1 : (i : Int) < n := by omega
        by_cases hL : lessS nm2 nm = false
        · have HN := Lib.hid (mayL_no (l := l) HLT.out (okAt_order hx.out (by omega) (by simpa using hy.out) hL))
          have hfl := less_flip nm2.toList nm.toList
          unfold lessS at hL
          rw [hL] at hfl
          have hfl' : (Op.bytesLess nm.toList nm2.toList || nm.toList == nm2.toList) = true := hfl
          clear hL hfl hH hx hy
          go_wp2_with fail
          go_quiet (fail)
          have hbk := below_drewN hb2 nq
          clear hb2
          go_wp2_with fail
          go_ret
          rw [HN.out]
          exact ⟨rfl, hbk⟩
        have hL' : lessS nm2 nm = true := by simpa using hL
        have HSTEP : Hid (0 ≤ sz → (kd == 1 || (kd == 2 && sz == 0)) = true → ∀ j, j < i + 1 + 1 → okAt l j = true) := by
          show _ → _
          intro q1 q2 j hj
          by_cases e : j = i + 1
          · subst e
            refine okAt_yes hx.out HNM.out q1 q2 (fun _ y hy2 => ?_)
            obtain rfl := Option.some.inj (hy.out.symm.trans (by simpa using hy2))
            exact hL'
          · exact hH.out j (by omega)
        have hfl := less_flip nm2.toList nm.toList
        unfold lessS at hL'
        rw [hL'] at hfl
        have hfl' : (Op.bytesLess nm.toList nm2.toList || nm.toList == nm2.toList) = false := hfl
        clear hL hL' hfl hH HNM
        go_wp2_with fail
        go_quiet (fail)
        have hbk := below_drewN hb2 nq
        clear hb2 hfl' py hidy
        have hk1 := hbk.size
        by_cases hs : sz < 0
        · have HN := Lib.hid (mayL_no (l := l) HLT.out (okAt_size hx.out hs))
          go_wp2_with fail
          go_ret
          rw [HN.out]
          exact ⟨rfl, hbk⟩
        have hs' : 0 ≤ sz := by omega
        clear hs
        by_cases k1 : kd = 1
        · have HS := Lib.hid (HSTEP.out hs' (by rw [k1]; rfl))
          subst k1
          clear HSTEP
          go_wp2_with fail
          go_roundw
          case rel => exact ⟨i + 1 + 1, by omega, by go_num, hbk, HS.out⟩
          case measure => simp [intOf]; omega
        by_cases k2 : kd = 2
        · by_cases z : sz = 0
          · have HS := Lib.hid (HSTEP.out hs' (by rw [k2, z]; rfl))
            subst k2 z
            clear HSTEP
            go_wp2_with fail
            go_roundw
            case rel => exact ⟨i + 1 + 1, by omega, by go_num, hbk, HS.out⟩
            case measure => simp [intOf]; omega
          · have z' : (sz != 0) = true := by simpa using z
            have HN := Lib.hid (mayL_no (l := l) HLT.out (okAt_kind hx.out (by dsimp only; rw [k2]; simpa using z)))
            subst k2
            clear HSTEP
            go_wp2_with fail
            go_ret
            rw [HN.out]
            exact ⟨rfl, hbk⟩
        · have k1' : (kd != 1) = true := by simpa using k1
          have k2' : (kd != 2) = true := by simpa using k2
          have HN := Lib.hid (mayL_no (l := l) HLT.out (okAt_kind hx.out (by simp [k1, k2])))
          clear HSTEP k1 k2
          go_wp2_with fail
          go_ret
          rw [HN.out]
          exact ⟨rfl, hbk⟩
    · have hk' : k = n := by omega
      subst hk'
      have HY := Lib.hid (mayL_yes (l := l) (by rw [HL.out]; omega) (fun j hj => hH.out j (by rw [← HL.out]; exact hj)))
      clear hH
      go_wp2_with fail
      go_ret
      rw [HY.out]
      exact ⟨rfl, hb⟩

end Go.Proofs.Ytgdbdhfomlkpdaa
