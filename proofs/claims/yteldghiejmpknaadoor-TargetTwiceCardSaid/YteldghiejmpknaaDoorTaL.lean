/-
  The document's answer to target: part. (Printed by wip/genTaL.py.)
-/
import Derived.Test.YteldghiejmpknaaDoorTaJ
import Derived.Test.YteldghiejmpknaaDoorStrR
import Derived.Test.YteldghiejmpknaaDoorTaD
import Derived.Test.YteldghiejmpknaaDoorMixD
import Derived.Test.YteldghiejmpknaaDoorLit1
namespace Go.Proofs.YteldghiejmpknaaDoor
open Go.RowKit

def RParted (s : List UInt8) (k : Nat) (w : World) (e : Ending) (w' : World) : Prop :=
  Below w.heap.size w w' ∧ ((rpartF (s.drop k) = none ∧ ∃ q : Int, e = .returned (.tuple #[.string ⟨#[]⟩, .int .i64 q, .bool false])) ∨
    ∃ (o r : List UInt8) (j : Nat), rpartF (s.drop k) = some (o, r) ∧ j ≤ s.length ∧ s.drop j = r ∧ e = .returned (.tuple #[.string ⟨o.toArray⟩, .int .i64 (j : Int), .bool true]))
def rpK (s : List UInt8) (k j : Nat) (o : List UInt8) : Prop := rpartF (s.drop k) = (rpartF (s.drop j)).map (fun p => (o ++ p.1, p.2))
theorem rpK_start (s : List UInt8) (k : Nat) : rpK s k k [] := by
  unfold rpK
  cases rpartF (s.drop k) <;> rfl
theorem drop_at {s : List UInt8} {j : Nat} {x : UInt8} (hx : s[j]? = some x) : s.drop j = x :: s.drop (j + 1) := by
  obtain ⟨hk, he⟩ := List.getElem?_eq_some_iff.1 hx
  rw [List.drop_eq_getElem_cons hk, he]
theorem rpK_pl {s : List UInt8} {k j : Nat} {o : List UInt8} {x : UInt8} (h : rpK s k j o) (hx : s[j]? = some x) (hp : plB x = true) : rpK s k (j + 1) (o ++ [x]) := by
  unfold rpK at *
  rw [h, drop_at hx, rpartF_pl hp]
  cases rpartF (s.drop (j + 1)) <;> simp
theorem rpK_end {s : List UInt8} {k : Nat} {o : List UInt8} (h : rpK s k s.length o) : rpartF (s.drop k) = some (o, []) := by
  rw [h, List.drop_length]
  simp [rpartF]
theorem rpK_stop {s : List UInt8} {k j : Nat} {o : List UInt8} {x : UInt8} (h : rpK s k j o) (hx : s[j]? = some x) (hp : stopB x) : rpartF (s.drop k) = some (o, s.drop j) := by
  rw [h, drop_at hx, rpartF_stop hp]
  simp
theorem rpK_short {s : List UInt8} {k j : Nat} {o : List UInt8} (h : rpK s k j o) (hx : s[j]? = some 37) (hl : s.length ≤ j + 2) : rpartF (s.drop k) = none := by
  rw [h, drop_at hx, rpartF_short (by rw [List.length_drop]; omega)]
  rfl
theorem rpK_bad {s : List UInt8} {k j : Nat} {o : List UInt8} {a b : UInt8} (h : rpK s k j o) (hx : s[j]? = some 37) (ha : s[j + 1]? = some a) (hb : s[j + 2]? = some b) (he : escV a b = none) : rpartF (s.drop k) = none := by
  rw [h, drop_at hx, drop_at ha, drop_at hb, rpartF_esc, he]
  rfl
theorem rpK_esc {s : List UInt8} {k j : Nat} {o : List UInt8} {a b c : UInt8} (h : rpK s k j o) (hx : s[j]? = some 37) (ha : s[j + 1]? = some a) (hb : s[j + 2]? = some b) (he : escV a b = some c) : rpK s k (j + 3) (o ++ [c]) := by
  unfold rpK at *
  rw [h, drop_at hx, drop_at ha, drop_at hb, rpartF_esc, he]
  show Option.map _ (Option.map _ (rpartF (s.drop (j + 3)))) = _
  cases rpartF (s.drop (j + 3)) <;> simp
theorem resc_case (a b : UInt8) : (hx8 a < 0 ∧ escV a b = none) ∨ (0 ≤ hx8 a ∧ hx8 b < 0 ∧ escV a b = none) ∨ (0 ≤ hx8 a ∧ 0 ≤ hx8 b ∧ hx8 a + hx8 b = 0 ∧ escV a b = none) ∨
    (0 ≤ hx8 a ∧ 0 ≤ hx8 b ∧ hx8 a + hx8 b ≠ 0 ∧ ∃ N : Nat, N < 256 ∧ 16 * hx8 a + hx8 b = N ∧ escV a b = some (UInt8.ofNat N)) := by
  have a1 := hx_le a
  have b1 := hx_le b
  unfold escV
  by_cases hA : hx8 a < 0
  · exact .inl ⟨hA, if_pos (.inl hA)⟩
  · by_cases hB : hx8 b < 0
    · exact .inr (.inl ⟨by omega, hB, if_pos (.inr (.inl hB))⟩)
    · by_cases hz : hx8 a + hx8 b = 0
      · exact .inr (.inr (.inl ⟨by omega, by omega, hz, if_pos (.inr (.inr hz))⟩))
      · refine .inr (.inr (.inr ⟨by omega, by omega, hz, (hx8 a * 16 + hx8 b).toNat, by omega, by omega, if_neg (by omega)⟩))

set_option maxRecDepth 20000 in
set_option maxHeartbeats 8000000 in
theorem rpart_any (s : List UInt8) (hs : s.length ≤ 1048576) (k : Nat) (hk : k ≤ s.length) (w : World) : Calls Tryd.prog 23 #[.string ⟨s.toArray⟩, .int .i64 (k : Int)] w (RParted s k w) := by
  have hsz := size_mk s
  obtain ⟨L, hL⟩ : ∃ L, s.length = L := ⟨_, rfl⟩
  rw [hL] at hs hk hsz
  have HL := Lib.hid hL
  clear hL
  go_enter Tryd.func23, Tryd.ntmps23
  go_wp2_with fail
  go_loopw [1, 7] (fun av ov wr => ∃ (j : Nat) (o : List UInt8), k ≤ j ∧ j ≤ L ∧ av = .int .i64 (j : Int) ∧ ov = .string ⟨o.toArray⟩ ∧ o.length ≤ j ∧ Hid (rpK s k j o) ∧ Below w.heap.size w wr) (fun av _ _ => L - (intOf av).toNat)
  case atStart => exact ⟨k, [], by omega, hk, rfl, rfl, by simp, rpK_start s k, Below.refl _ _⟩
  case round =>
    obtain ⟨j, o, hkj, hj, rfl, rfl, hol, hH, hb⟩ := hrel
    have hso := size_mk o
    obtain ⟨lo, hlo⟩ : ∃ lo, o.length = lo := ⟨_, rfl⟩
    rw [hlo] at hso hol
    have HLO := Lib.hid hlo
    by_cases hjL : j < L
    · have hx : s[j]? = some (s[j]'(by rw [HL.out]; exact hjL)) := List.getElem?_eq_getElem _
      generalize s[j]'(by rw [HL.out]; exact hjL) = x at hx
      have hi : ∀ W, (Instr.index 9 (.string ⟨s.toArray⟩) (.int .i64 (j : Int))).run Tryd.prog W = .ok (.int .u8 (x.toNat : Int)) W := fun W => run_str_at (P := Tryd.prog) Tryd.underlying9 s j x hx (kl := .i64) W
      have hj' : (j : Int) < L := by omega
      have HX := Lib.hid hx
      clear hx hjL hlo
      rcases byte_kind x with hp | rfl | hp
      · have HPL := Lib.hid (fun W => rplain_any x W)
        rw [hp] at HPL
        have HN := Lib.hid (rpK_pl hH.out HX.out hp)
        have hsl : ∀ W, (Instr.sliceAt 9 (.string ⟨s.toArray⟩) (some (.int .i64 (j : Int))) (some (.int .i64 ((j : Int) + 1))) none).run Tryd.prog W = .ok (.string ⟨#[x]⟩) W := fun W => by
          have := run_str_lh (P := Tryd.prog) Tryd.underlying9 s j (j + 1) (by omega) (by rw [HL.out]; omega) (kl := .i64) (kh := .i64) (I := j) (J := (j : Int) + 1) rfl (by omega) W
          rw [this, drop_at HX.out, show j + 1 - j = 1 by omega]
          rfl
        have hs1 : (⟨#[x]⟩ : ByteArray).size = 1 := rfl
        clear hp hH
        go_wp2_with fail
        refine (HPL.out _).mono ?_
        rintro e w2 ⟨rfl, rfl⟩
        go_wp2_with fail
        go_roundw
        case rel => exact ⟨j + 1, o ++ [x], by omega, by omega, by go_num, by rw [← cat_mk], by have := HLO.out; simp; omega, HN, hb⟩
        case measure => simp [intOf]; omega
      · have hi37 : ∀ W, (Instr.index 9 (.string ⟨s.toArray⟩) (.int .i64 (j : Int))).run Tryd.prog W = .ok (.int .u8 37) W := hi
        have HPL : Hid (∀ W, Calls Tryd.prog 29 #[.int .u8 37] W fun e w' => e = .returned (.bool false) ∧ W = w') := fun W => by
          have := rplain_any 37 W
          rw [pl37] at this
          exact this
        clear hi
        have hw1 : IntKind.i64.wrap ((j : Int) + 1) = (j : Int) + 1 := IntWalk.i64_in _ (by omega)
        have hw2 : IntKind.i64.wrap ((j : Int) + 2) = (j : Int) + 2 := IntWalk.i64_in _ (by omega)
        by_cases hsh : (L : Int) ≤ (j : Int) + 2
        · have HE := Lib.hid (rpK_short hH.out HX.out (by rw [HL.out]; omega))
          have hsh' : decide ((L : Int) ≤ (j : Int) + 2) = true := decide_eq_true hsh
          clear hsh hH
          go_wp2_with fail
          refine (HPL.out _).mono ?_
          rintro e w2 ⟨rfl, rfl⟩
          go_upto_region 7 with fail
          clear HPL
          refine wp_region_plan (MPlan.reads [0, 1, 2, 3, 4, 5, 6, 7, 8, 9, 10, 11, 12, 13, 14, 15, 16, 17, 18, 19, 20, 21, 22, 23, 24, 25, 26, 27, 28, 29, 30, 31, 32, 33, 34] .fin) (fun _ => True) (by kernel_rfl) (by kernel_rfl) (by kernel_rfl) (fun _ _ _ _ _ h => h) trivial ?_
          iterate 6 (refine plan_read (o := ⟨_, _, _, _, _, _⟩) (by rfl) (by rfl) ?_; go_big_quiet_step (fail); refine wpQuiet_nil ?_)
          iterate 6 (refine plan_skip (o := ⟨_, _, _, _, _, _⟩) (by rfl) (by rfl) ?_; simp only [Act.put, List.setIfInBounds_toArray, List.set_cons_succ, List.set_cons_zero])
          iterate 2 (refine plan_read (o := ⟨_, _, _, _, _, _⟩) (by rfl) (by rfl) ?_; go_big_quiet_step (fail); refine wpQuiet_nil ?_)
          iterate 6 (refine plan_skip (o := ⟨_, _, _, _, _, _⟩) (by rfl) (by rfl) ?_; simp only [Act.put, List.setIfInBounds_toArray, List.set_cons_succ, List.set_cons_zero])
          iterate 2 (refine plan_read (o := ⟨_, _, _, _, _, _⟩) (by rfl) (by rfl) ?_; go_big_quiet_step (fail); refine wpQuiet_nil ?_)
          iterate 12 (refine plan_skip (o := ⟨_, _, _, _, _, _⟩) (by rfl) (by rfl) ?_; simp only [Act.put, List.setIfInBounds_toArray, List.set_cons_succ, List.set_cons_zero])
          iterate 1 (refine plan_read (o := ⟨_, _, _, _, _, _⟩) (by rfl) (by rfl) ?_; go_big_quiet_step (fail); refine wpQuiet_nil ?_)
          refine plan_fin ?_
          go_wp2_with fail
          go_ret3
          exact ⟨hb.drew, .inl ⟨HE.out, _, rfl⟩⟩
        · have hsh' : decide ((L : Int) ≤ (j : Int) + 2) = false := decide_eq_false hsh
          have hj2 : j + 2 < L := by omega
          have ha : s[j + 1]? = some (s[j + 1]'(by rw [HL.out]; omega)) := List.getElem?_eq_getElem _
          generalize s[j + 1]'(by rw [HL.out]; omega) = a at ha
          have hb2 : s[j + 2]? = some (s[j + 2]'(by rw [HL.out]; omega)) := List.getElem?_eq_getElem _
          generalize s[j + 2]'(by rw [HL.out]; omega) = b at hb2
          have hia : ∀ W, (Instr.index 9 (.string ⟨s.toArray⟩) (.int .i64 ((j : Int) + 1))).run Tryd.prog W = .ok (.int .u8 (a.toNat : Int)) W := fun W => run_str_at (P := Tryd.prog) Tryd.underlying9 s (j + 1) a ha (kl := .i64) W
          have hib : ∀ W, (Instr.index 9 (.string ⟨s.toArray⟩) (.int .i64 ((j : Int) + 2))).run Tryd.prog W = .ok (.int .u8 (b.toNat : Int)) W := fun W => run_str_at (P := Tryd.prog) Tryd.underlying9 s (j + 2) b hb2 (kl := .i64) W
          have HA := Lib.hid (fun W => rhalf_any (a.toNat : Int) (by omega) (by have := a.toNat_lt; omega) W)
          have HB := Lib.hid (fun W => rhalf_any (b.toNat : Int) (by omega) (by have := b.toNat_lt; omega) W)
          have hcs := resc_case a b
          have a1 := hx_le a
          have b1 := hx_le b
          have a2 := hx_ge a
          have b2 := hx_ge b
          unfold hx8 at hcs a1 b1 a2 b2
          obtain ⟨VA, hVA⟩ : ∃ v, hxI (a.toNat : Int) = v := ⟨_, rfl⟩
          obtain ⟨VB, hVB⟩ : ∃ v, hxI (b.toNat : Int) = v := ⟨_, rfl⟩
          rw [hVA] at HA hcs a1 a2
          rw [hVB] at HB hcs b1 b2
          have hbad : escV a b = none → rpartF (s.drop k) = none := fun h => rpK_bad hH.out HX.out ha hb2 h
          have HBAD := Lib.hid hbad
          have hgood : ∀ c, escV a b = some c → rpK s k (j + 3) (o ++ [c]) := fun c h => rpK_esc hH.out HX.out ha hb2 h
          have HGOOD := Lib.hid hgood
          have hwv : IntKind.i64.wrap (VA + VB) = VA + VB := IntWalk.i64_in _ (by omega)
          clear hsh ha hb2 hVA hVB hbad hgood hH
          rcases hcs with ⟨c1, he⟩ | ⟨c1, c2, he⟩ | ⟨c1, c2, c3, he⟩ | ⟨c1, c2, c3, N, hN, hsum, he⟩
          · have d1 : decide (VA < 0) = true := decide_eq_true c1
            have HE := Lib.hid (HBAD.out he)
            clear c1 he
            go_wp2_with fail
            refine (HPL.out _).mono ?_
            rintro e w2 ⟨rfl, rfl⟩
            go_upto_region 7 with fail
            clear HPL
            refine wp_region_plan (MPlan.reads [0, 1, 2, 3, 4, 5, 6, 7, 8, 9, 10, 11, 12, 13, 14, 15, 16, 17, 18, 19, 20, 21, 22, 23, 24, 25, 26, 27, 28, 29, 30, 31, 32, 33, 34] .fin) (fun _ => True) (by kernel_rfl) (by kernel_rfl) (by kernel_rfl) (fun _ _ _ _ _ h => h) trivial ?_
            iterate 10 (refine plan_read (o := ⟨_, _, _, _, _, _⟩) (by rfl) (by rfl) ?_; go_big_quiet_step (fail); refine wpQuiet_nil ?_)
            refine plan_quiet (o := ⟨_, _, _, _, _, _⟩) (by rfl) (by rfl) (.int .i64 VA) (fun W => by go_simp) (fun w' _ => HA.out w') ?_
            simp only [Act.put, List.setIfInBounds_toArray, List.set_cons_succ, List.set_cons_zero]
            iterate 3 (refine plan_read (o := ⟨_, _, _, _, _, _⟩) (by rfl) (by rfl) ?_; go_big_quiet_step (fail); refine wpQuiet_nil ?_)
            iterate 6 (refine plan_skip (o := ⟨_, _, _, _, _, _⟩) (by rfl) (by rfl) ?_; simp only [Act.put, List.setIfInBounds_toArray, List.set_cons_succ, List.set_cons_zero])
            iterate 2 (refine plan_read (o := ⟨_, _, _, _, _, _⟩) (by rfl) (by rfl) ?_; go_big_quiet_step (fail); refine wpQuiet_nil ?_)
            iterate 12 (refine plan_skip (o := ⟨_, _, _, _, _, _⟩) (by rfl) (by rfl) ?_; simp only [Act.put, List.setIfInBounds_toArray, List.set_cons_succ, List.set_cons_zero])
            iterate 1 (refine plan_read (o := ⟨_, _, _, _, _, _⟩) (by rfl) (by rfl) ?_; go_big_quiet_step (fail); refine wpQuiet_nil ?_)
            refine plan_fin ?_
            go_wp2_with fail
            go_ret3
            exact ⟨hb.drew, .inl ⟨HE.out, _, rfl⟩⟩
          · have d1 : decide (VA < 0) = false := decide_eq_false (by omega)
            have d2 : decide (VB < 0) = true := decide_eq_true c2
            have HE := Lib.hid (HBAD.out he)
            clear c1 c2 he
            go_wp2_with fail
            refine (HPL.out _).mono ?_
            rintro e w2 ⟨rfl, rfl⟩
            go_upto_region 7 with fail
            clear HPL
            refine wp_region_plan (MPlan.reads [0, 1, 2, 3, 4, 5, 6, 7, 8, 9, 10, 11, 12, 13, 14, 15, 16, 17, 18, 19, 20, 21, 22, 23, 24, 25, 26, 27, 28, 29, 30, 31, 32, 33, 34] .fin) (fun _ => True) (by kernel_rfl) (by kernel_rfl) (by kernel_rfl) (fun _ _ _ _ _ h => h) trivial ?_
            iterate 10 (refine plan_read (o := ⟨_, _, _, _, _, _⟩) (by rfl) (by rfl) ?_; go_big_quiet_step (fail); refine wpQuiet_nil ?_)
            refine plan_quiet (o := ⟨_, _, _, _, _, _⟩) (by rfl) (by rfl) (.int .i64 VA) (fun W => by go_simp) (fun w' _ => HA.out w') ?_
            simp only [Act.put, List.setIfInBounds_toArray, List.set_cons_succ, List.set_cons_zero]
            iterate 3 (refine plan_read (o := ⟨_, _, _, _, _, _⟩) (by rfl) (by rfl) ?_; go_big_quiet_step (fail); refine wpQuiet_nil ?_)
            iterate 4 (refine plan_read (o := ⟨_, _, _, _, _, _⟩) (by rfl) (by rfl) ?_; go_big_quiet_step (fail); refine wpQuiet_nil ?_)
            refine plan_quiet (o := ⟨_, _, _, _, _, _⟩) (by rfl) (by rfl) (.int .i64 VB) (fun W => by go_simp) (fun w' _ => HB.out w') ?_
            simp only [Act.put, List.setIfInBounds_toArray, List.set_cons_succ, List.set_cons_zero]
            iterate 3 (refine plan_read (o := ⟨_, _, _, _, _, _⟩) (by rfl) (by rfl) ?_; go_big_quiet_step (fail); refine wpQuiet_nil ?_)
            iterate 12 (refine plan_skip (o := ⟨_, _, _, _, _, _⟩) (by rfl) (by rfl) ?_; simp only [Act.put, List.setIfInBounds_toArray, List.set_cons_succ, List.set_cons_zero])
            iterate 1 (refine plan_read (o := ⟨_, _, _, _, _, _⟩) (by rfl) (by rfl) ?_; go_big_quiet_step (fail); refine wpQuiet_nil ?_)
            refine plan_fin ?_
            go_wp2_with fail
            go_ret3
            exact ⟨hb.drew, .inl ⟨HE.out, _, rfl⟩⟩
          · have d1 : decide (VA < 0) = false := decide_eq_false (by omega)
            have d2 : decide (VB < 0) = false := decide_eq_false (by omega)
            have d3 : (VA + VB == 0) = true := by simpa using c3
            have HE := Lib.hid (HBAD.out he)
            clear c1 c2 c3 he
            go_wp2_with fail
            refine (HPL.out _).mono ?_
            rintro e w2 ⟨rfl, rfl⟩
            go_upto_region 7 with fail
            clear HPL
            refine wp_region_plan (MPlan.reads [0, 1, 2, 3, 4, 5, 6, 7, 8, 9, 10, 11, 12, 13, 14, 15, 16, 17, 18, 19, 20, 21, 22, 23, 24, 25, 26, 27, 28, 29, 30, 31, 32, 33, 34] .fin) (fun _ => True) (by kernel_rfl) (by kernel_rfl) (by kernel_rfl) (fun _ _ _ _ _ h => h) trivial ?_
            iterate 10 (refine plan_read (o := ⟨_, _, _, _, _, _⟩) (by rfl) (by rfl) ?_; go_big_quiet_step (fail); refine wpQuiet_nil ?_)
            refine plan_quiet (o := ⟨_, _, _, _, _, _⟩) (by rfl) (by rfl) (.int .i64 VA) (fun W => by go_simp) (fun w' _ => HA.out w') ?_
            simp only [Act.put, List.setIfInBounds_toArray, List.set_cons_succ, List.set_cons_zero]
            iterate 3 (refine plan_read (o := ⟨_, _, _, _, _, _⟩) (by rfl) (by rfl) ?_; go_big_quiet_step (fail); refine wpQuiet_nil ?_)
            iterate 4 (refine plan_read (o := ⟨_, _, _, _, _, _⟩) (by rfl) (by rfl) ?_; go_big_quiet_step (fail); refine wpQuiet_nil ?_)
            refine plan_quiet (o := ⟨_, _, _, _, _, _⟩) (by rfl) (by rfl) (.int .i64 VB) (fun W => by go_simp) (fun w' _ => HB.out w') ?_
            simp only [Act.put, List.setIfInBounds_toArray, List.set_cons_succ, List.set_cons_zero]
            iterate 3 (refine plan_read (o := ⟨_, _, _, _, _, _⟩) (by rfl) (by rfl) ?_; go_big_quiet_step (fail); refine wpQuiet_nil ?_)
            iterate 4 (refine plan_read (o := ⟨_, _, _, _, _, _⟩) (by rfl) (by rfl) ?_; go_big_quiet_step (fail); refine wpQuiet_nil ?_)
            refine plan_quiet (o := ⟨_, _, _, _, _, _⟩) (by rfl) (by rfl) (.int .i64 VA) (fun W => by go_simp) (fun w' _ => HA.out w') ?_
            simp only [Act.put, List.setIfInBounds_toArray, List.set_cons_succ, List.set_cons_zero]
            iterate 4 (refine plan_read (o := ⟨_, _, _, _, _, _⟩) (by rfl) (by rfl) ?_; go_big_quiet_step (fail); refine wpQuiet_nil ?_)
            refine plan_quiet (o := ⟨_, _, _, _, _, _⟩) (by rfl) (by rfl) (.int .i64 VB) (fun W => by go_simp) (fun w' _ => HB.out w') ?_
            simp only [Act.put, List.setIfInBounds_toArray, List.set_cons_succ, List.set_cons_zero]
            iterate 3 (refine plan_read (o := ⟨_, _, _, _, _, _⟩) (by rfl) (by rfl) ?_; go_big_quiet_step (fail); refine wpQuiet_nil ?_)
            refine plan_fin ?_
            go_wp2_with fail
            go_ret3
            exact ⟨hb.drew, .inl ⟨HE.out, _, rfl⟩⟩
          · have d1 : decide (VA < 0) = false := decide_eq_false (by omega)
            have d2 : decide (VB < 0) = false := decide_eq_false (by omega)
            have d3 : (VA + VB == 0) = false := by simpa using c3
            have HN := Lib.hid (HGOOD.out _ he)
            have hm16 : IntKind.i64.wrap (16 * VA) = 16 * VA := IntWalk.i64_in _ (by omega)
            have hsm : IntKind.i64.wrap (16 * VA + VB) = 16 * VA + VB := IntWalk.i64_in _ (by omega)
            have hbN : b8 (UInt8.ofNat N) = .int .u8 (N : Int) := by
              rw [b8_ofNat, Nat.mod_eq_of_lt hN]
            have HBN := Lib.hid hbN
            have HSUM := Lib.hid hsum
            clear c1 c2 c3 he hbN hsum
            go_wp2_with fail
            refine (HPL.out _).mono ?_
            rintro e w2 ⟨rfl, rfl⟩
            go_upto_region 7 with fail
            clear HPL
            refine wp_region_plan (MPlan.reads [0, 1, 2, 3, 4, 5, 6, 7, 8, 9, 10, 11, 12, 13, 14, 15, 16, 17, 18, 19, 20, 21, 22, 23, 24, 25, 26, 27, 28, 29, 30, 31, 32, 33, 34] .fin) (fun _ => True) (by kernel_rfl) (by kernel_rfl) (by kernel_rfl) (fun _ _ _ _ _ h => h) trivial ?_
            iterate 10 (refine plan_read (o := ⟨_, _, _, _, _, _⟩) (by rfl) (by rfl) ?_; go_big_quiet_step (fail); refine wpQuiet_nil ?_)
            refine plan_quiet (o := ⟨_, _, _, _, _, _⟩) (by rfl) (by rfl) (.int .i64 VA) (fun W => by go_simp) (fun w' _ => HA.out w') ?_
            simp only [Act.put, List.setIfInBounds_toArray, List.set_cons_succ, List.set_cons_zero]
            iterate 3 (refine plan_read (o := ⟨_, _, _, _, _, _⟩) (by rfl) (by rfl) ?_; go_big_quiet_step (fail); refine wpQuiet_nil ?_)
            iterate 4 (refine plan_read (o := ⟨_, _, _, _, _, _⟩) (by rfl) (by rfl) ?_; go_big_quiet_step (fail); refine wpQuiet_nil ?_)
            refine plan_quiet (o := ⟨_, _, _, _, _, _⟩) (by rfl) (by rfl) (.int .i64 VB) (fun W => by go_simp) (fun w' _ => HB.out w') ?_
            simp only [Act.put, List.setIfInBounds_toArray, List.set_cons_succ, List.set_cons_zero]
            iterate 3 (refine plan_read (o := ⟨_, _, _, _, _, _⟩) (by rfl) (by rfl) ?_; go_big_quiet_step (fail); refine wpQuiet_nil ?_)
            iterate 4 (refine plan_read (o := ⟨_, _, _, _, _, _⟩) (by rfl) (by rfl) ?_; go_big_quiet_step (fail); refine wpQuiet_nil ?_)
            refine plan_quiet (o := ⟨_, _, _, _, _, _⟩) (by rfl) (by rfl) (.int .i64 VA) (fun W => by go_simp) (fun w' _ => HA.out w') ?_
            simp only [Act.put, List.setIfInBounds_toArray, List.set_cons_succ, List.set_cons_zero]
            iterate 4 (refine plan_read (o := ⟨_, _, _, _, _, _⟩) (by rfl) (by rfl) ?_; go_big_quiet_step (fail); refine wpQuiet_nil ?_)
            refine plan_quiet (o := ⟨_, _, _, _, _, _⟩) (by rfl) (by rfl) (.int .i64 VB) (fun W => by go_simp) (fun w' _ => HB.out w') ?_
            simp only [Act.put, List.setIfInBounds_toArray, List.set_cons_succ, List.set_cons_zero]
            iterate 3 (refine plan_read (o := ⟨_, _, _, _, _, _⟩) (by rfl) (by rfl) ?_; go_big_quiet_step (fail); refine wpQuiet_nil ?_)
            refine plan_fin ?_
            go_upto_region 9 with fail
            have hcv : IntKind.u8.wrap (16 * VA + VB) = (N : Int) := by rw [HSUM.out]; unfold IntKind.wrap; simp [IntKind.bits, IntKind.signed]; omega
            refine wp_region_plan (MPlan.reads [0, 1, 2, 3, 4, 5, 6, 7, 8, 9, 10, 11, 12, 13] (.one 14 (.one 15 (MPlan.reads [16, 17] .fin)))) (fun _ => True) (by kernel_rfl) (by kernel_rfl) (by kernel_rfl) (fun _ _ _ _ _ h => h) trivial ?_
            iterate 5 (refine plan_read (o := ⟨_, _, _, _, _, _⟩) (by rfl) (by rfl) ?_; go_big_quiet_step (fail); refine wpQuiet_nil ?_)
            refine plan_quiet (o := ⟨_, _, _, _, _, _⟩) (by rfl) (by rfl) (.int .i64 VA) (fun W => by go_simp) (fun w' _ => HA.out w') ?_
            simp only [Act.put, List.setIfInBounds_toArray, List.set_cons_succ, List.set_cons_zero]
            iterate 5 (refine plan_read (o := ⟨_, _, _, _, _, _⟩) (by rfl) (by rfl) ?_; go_big_quiet_step (fail); refine wpQuiet_nil ?_)
            refine plan_quiet (o := ⟨_, _, _, _, _, _⟩) (by rfl) (by rfl) (.int .i64 VB) (fun W => by go_simp) (fun w' _ => HB.out w') ?_
            simp only [Act.put, List.setIfInBounds_toArray, List.set_cons_succ, List.set_cons_zero]
            iterate 2 (refine plan_read (o := ⟨_, _, _, _, _, _⟩) (by rfl) (by rfl) ?_; go_big_quiet_step (fail); refine wpQuiet_nil ?_)
            refine plan_one (o := ⟨_, _, _, _, _, _⟩) (by rfl) (fun K hK => ?_)
            refine wpList_lit1 (v := .int .u8 (N : Int)) rfl rfl eb rfl (fill_u8 _) ?_
            intro w3 hw3
            have hl3 := lit1_rd hw3
            have hb3 := lit1_below hw3 hb.drew.drew hb.size
            have hst : (convert 40 9 (.slice (some ⟨wr.heap.size, 0, none⟩) 1 1)).run Tryd.prog w3 = .ok (.string ⟨#[UInt8.ofNat N]⟩) w3 := str_rd (l := [UInt8.ofNat N]) (by rw [List.map_singleton, HBN.out]; exact hl3)
            have hs1 : (⟨#[UInt8.ofNat N]⟩ : ByteArray).size = 1 := rfl
            clear hw3
            go_wp2_with fail
            refine hK _ _ trivial ?_
            clear hK
            refine plan_one (o := ⟨_, _, _, _, _, _⟩) (by rfl) (fun K hK => ?_)
            go_wp2_with fail
            refine hK _ _ trivial ?_
            clear hK
            iterate 2 (refine plan_read (o := ⟨_, _, _, _, _, _⟩) (by rfl) (by rfl) ?_; go_big_quiet_step (fail); refine wpQuiet_nil ?_)
            refine plan_fin ?_
            go_wp2_with fail
            go_roundw
            case rel => exact ⟨j + 3, o ++ [UInt8.ofNat N], by omega, by omega, by go_num, by rw [← cat_mk], by have := HLO.out; simp; omega, HN, hb3⟩
            case measure => simp [intOf]; omega
      · have HPL := Lib.hid (fun W => rplain_any x W)
        rw [hp.1] at HPL
        have hne := ne_int (x := x) (c := 37) (by omega) hp.2
        have hne' : ((x.toNat : Int) != 37) = true := by
          have : ((x.toNat : Int) == 37) = false := hne
          simp [bne, this]
        have HE := Lib.hid (rpK_stop hH.out HX.out hp)
        clear hp hH hne
        go_wp2_with fail
        refine (HPL.out _).mono ?_
        rintro e w2 ⟨rfl, rfl⟩
        go_wp2_with fail
        go_ret3
        exact ⟨hb, .inr ⟨o, _, j, HE.out, by rw [HL.out]; omega, rfl, rfl⟩⟩
    · obtain rfl : j = L := by omega
      have HE := Lib.hid (rpK_end (k := k) (o := o) (by rw [HL.out]; exact hH.out))
      clear hjL hH
      go_wp2_with fail
      go_ret3
      exact ⟨hb, .inr ⟨o, _, j, HE.out, by rw [HL.out]; omega, by rw [← HL.out, List.drop_length], rfl⟩⟩

end Go.Proofs.YteldghiejmpknaaDoor
