/-
  Package target: part.
-/
import Derived.Test.YteldghiejmpknaaDoorTaB
import Derived.Test.YteldghiejmpknaaDoorTaE
import Derived.Test.YteldghiejmpknaaDoorTaD
import Derived.Test.YteldghiejmpknaaDoorStrR
import Derived.Test.YteldghiejmpknaaDoorMixD
import Derived.Test.YteldghiejmpknaaDoorLit1
namespace Go.Proofs.YteldghiejmpknaaDoor
open Go.RowKit

def partS (s : List UInt8) : List UInt8 := (partF s).getD []
def partB (s : List UInt8) : Bool := (partF s).isSome
theorem part_no {s : List UInt8} (h : partF s = none) : partS s = [] ∧ partB s = false := by
  unfold partS partB
  rw [h]
  exact ⟨rfl, rfl⟩
theorem part_yes {s o : List UInt8} (h : partF s = some o) : partS s = o ∧ partB s = true := by
  unfold partS partB
  rw [h]
  exact ⟨rfl, rfl⟩
def Parted (s : List UInt8) (w : World) (e : Ending) (w' : World) : Prop := e = .returned (.tuple #[.string ⟨(partS s).toArray⟩, .bool (partB s)]) ∧ Below w.heap.size w w'
def lenV : Value → Nat
  | .string b => b.size
  | _ => 0
theorem hxV_le (x : UInt8) : 0 ≤ hxV (x.toNat : Int) ∧ hxV (x.toNat : Int) ≤ 15 := by
  have h1 := hx_le x
  unfold hx8 at h1
  unfold hxV
  split <;> omega
def escN (a b : UInt8) : Nat := ((hxV (a.toNat : Int)).toNat * 16 + (hxV (b.toNat : Int)).toNat)
def chkE (a b : Fin 16) : Bool := ((bits .or .u8 ((a.1 : Int) * 16 % 256) (b.1 : Int)) == ((a.1 * 16 + b.1 : Nat) : Int))
theorem chkE_fin : ∀ a b : Fin 16, chkE a b = true := by decide +kernel
theorem or_esc (a b : UInt8) : bits .or .u8 (hxV (a.toNat : Int) * 16 % 256) (hxV (b.toNat : Int)) = (escN a b : Int) := by
  obtain ⟨a0, a1⟩ := hxV_le a
  obtain ⟨b0, b1⟩ := hxV_le b
  unfold escN
  generalize hxV (a.toNat : Int) = A at *
  generalize hxV (b.toNat : Int) = B at *
  obtain ⟨n, rfl⟩ : ∃ n : Nat, A = n := ⟨A.toNat, by omega⟩
  obtain ⟨m, rfl⟩ : ∃ m : Nat, B = m := ⟨B.toNat, by omega⟩
  have := chkE_fin ⟨n, by omega⟩ ⟨m, by omega⟩
  unfold chkE at this
  simpa using this
theorem esc_case (a b : UInt8) : (hxB (a.toNat : Int) = false ∧ escV a b = none) ∨ (hxB (a.toNat : Int) = true ∧ hxB (b.toNat : Int) = false ∧ escV a b = none) ∨ (hxB (a.toNat : Int) = true ∧ hxB (b.toNat : Int) = true ∧ escN a b = 0 ∧ escV a b = none) ∨
    (hxB (a.toNat : Int) = true ∧ hxB (b.toNat : Int) = true ∧ escN a b ≠ 0 ∧ escN a b < 256 ∧ escV a b = some (UInt8.ofNat (escN a b))) := by
  have a1 := hx_le a
  have b1 := hx_le b
  have a2 := hx_ge a
  have b2 := hx_ge b
  unfold escV escN hxB hxV
  unfold hx8 at *
  generalize hxI (a.toNat : Int) = A at *
  generalize hxI (b.toNat : Int) = B at *
  by_cases hA : A < 0
  · exact .inl ⟨decide_eq_false (by omega), if_pos (.inl hA)⟩
  · by_cases hB : B < 0
    · exact .inr (.inl ⟨decide_eq_true (by omega), decide_eq_false (by omega), if_pos (.inr (.inl hB))⟩)
    · rw [if_neg hA, if_neg hB]
      by_cases hz : A + B = 0
      · exact .inr (.inr (.inl ⟨decide_eq_true (by omega), decide_eq_true (by omega), by omega, if_pos (.inr (.inr hz))⟩))
      · refine .inr (.inr (.inr ⟨decide_eq_true (by omega), decide_eq_true (by omega), by omega, by omega, ?_⟩))
        rw [if_neg (by omega)]
        congr 2
        omega
theorem map_step {s r : List UInt8} {o r2 : List UInt8} {x : UInt8} (h : partF s = (partF r).map (o ++ ·)) (hr : partF r = (partF r2).map (x :: ·)) : partF s = (partF r2).map ((o ++ [x]) ++ ·) := by
  rw [h, hr]
  cases partF r2 with
  | none => rfl
  | some q => simp
theorem map_none {s r o : List UInt8} (h : partF s = (partF r).map (o ++ ·)) (hr : partF r = none) : partF s = none := by
  rw [h, hr]
  rfl

set_option maxRecDepth 20000 in
set_option maxHeartbeats 8000000 in
theorem part_any (s : List UInt8) (hs : s.length ≤ 1048576) (w : World) : Calls Tryd.prog 33 #[.string ⟨s.toArray⟩] w (Parted s w) := by
  have hNO : partF s = none → ∀ w', Below w.heap.size w w' → Parted s w (.returned (.tuple #[.string ⟨#[]⟩, .bool false])) w' := fun h w' hb => by
    obtain ⟨h1, h2⟩ := part_no h
    unfold Parted
    rw [h1, h2]
    exact ⟨rfl, hb⟩
  have HNO := Lib.hid hNO
  clear hNO
  go_enter Tryd.func33, Tryd.ntmps33
  go_wp2_with fail
  go_loopw [0, 4] (fun sv ov wr => ∃ (r o : List UInt8) (A : Option Addr) (n c : Nat), sv = .string ⟨r.toArray⟩ ∧ ov = .slice A n c ∧ Own wr w.heap.size 5 1 A n c (o.map b8) ∧ n + r.length ≤ 1048576 ∧ Below w.heap.size w wr ∧ Hid (partF s = (partF r).map (o ++ ·))) (fun sv _ _ => lenV sv)
  case atStart => exact ⟨s, [], none, 0, 0, rfl, rfl, Own.nil_ _ _ _ _, by omega, Below.refl _ _, (by show _ = _; cases partF s <;> rfl)⟩
  case round =>
    obtain ⟨r, o, A, n, c, rfl, rfl, ho, hn, hb, hP⟩ := hrel
    rcases r with _ | ⟨x, r⟩
    · have hst := str_rd ho.rd
      have hp : partF s = some o := by rw [hP.out]; simp [partF]
      have HY := Lib.hid (part_yes hp)
      clear hP hp
      go_wp2_with fail
      go_ret2
      unfold Parted
      rw [HY.out.1, HY.out.2]
      exact ⟨rfl, hb⟩
    · have hi : ∀ W, (Instr.index 9 (.string ⟨(x :: r).toArray⟩) (.int .i64 0)).run Tryd.prog W = .ok (.int .u8 (x.toNat : Int)) W := fun W => run_str_at (P := Tryd.prog) Tryd.underlying9 (x :: r) 0 x rfl (kl := .i64) W
      have hsz := size_mk (x :: r)
      obtain ⟨L, hL⟩ : ∃ L, (x :: r).length = L := ⟨_, rfl⟩
      have hL2 : L = r.length + 1 := by rw [← hL]; exact List.length_cons
      rw [hL] at hsz hn
      have hL1 : (1 : Int) ≤ L := by omega
      have HL2 := Lib.hid hL2
      have HPL := Lib.hid (fun W => plain_any x W)
      have hbs := hb.size
      obtain ⟨X, hX⟩ : ∃ X, x :: r = X := ⟨_, rfl⟩
      have HX := Lib.hid hX
      rcases byte_kind x with hp | rfl | hp
      · have hsl : ∀ W, (Instr.sliceAt 9 (.string ⟨(x :: r).toArray⟩) (some (.int .i64 1)) none none).run Tryd.prog W = .ok (.string ⟨r.toArray⟩) W := fun W => run_str_l (P := Tryd.prog) Tryd.underlying9 (x :: r) 1 (by simp) (kl := .i64) W
        have HS := Lib.hid (map_step hP.out (partF_pl hp r))
        rw [hp] at HPL
        rw [hX] at hi hsz hsl
        rw [hX]
        clear hp hP hX hL hL2
        go_wp2_with fail
        refine (HPL.out _).mono ?_
        rintro e w2 ⟨rfl, rfl⟩
        go_upto_region 4 with fail
        have hr := ho.drew
        refine wp_region_plan (MPlan.reads [0, 1, 2, 5, 6] (.one 3 (.one 4 (MPlan.reads [7, 8] .fin)))) (fun _ => True) (by kernel_rfl) (by kernel_rfl) (by kernel_rfl) (fun _ _ _ _ _ h => h) trivial ?_
        iterate 5 (refine plan_read (o := ⟨_, _, _, _, _, _⟩) (by rfl) (by rfl) ?_; go_big_quiet_step (fail); refine wpQuiet_nil ?_)
        refine plan_one (o := ⟨_, _, _, _, _, _⟩) (by rfl) (fun K hK => ?_)
        refine wpList_lit1 (v := .int .u8 (x.toNat : Int)) rfl rfl eb rfl (fill_u8 _) ?_
        intro w3 hw3
        have hr3 := lit1_own hw3 hr
        have hl3 := lit1_rd hw3
        have hb3 := lit1_below hw3 hb.drew hbs
        have hbs3 := hb3.size
        clear hw3
        go_wp2_with fail
        refine hK _ _ trivial ?_
        clear hK
        refine plan_one (o := ⟨_, _, _, _, _, _⟩) (by rfl) (fun K hK => ?_)
        refine wpList_app rfl _ _ rfl eb hr3 rfl hl3 rfl (by simp [Value.oneCell']) (by omega) (by unfold maxLen; omega) hbs3 ?_
        intro A4 c4 w4 ho4 hg4 hq4
        have hb4 := below_apps hb3 (Nat.le_refl _) hr3 hg4
        go_wp2_with fail
        refine hK _ _ trivial ?_
        clear hK
        iterate 2 (refine plan_read (o := ⟨_, _, _, _, _, _⟩) (by rfl) (by rfl) ?_; go_big_quiet_step (fail); refine wpQuiet_nil ?_)
        refine plan_fin ?_
        have ho5 : Own w4 w.heap.size 5 1 A4 (n + 1) c4 ((o ++ [x]).map b8) := by
          rw [List.map_append]
          exact ho4
        go_wp2_with fail
        go_roundw
        case rel => exact ⟨r, o ++ [x], A4, n + 1, c4, rfl, rfl, ho5, by have := HL2.out; omega, hb4, HS⟩
        case measure => have := HX.out; subst this; simp [lenV, ByteArray.size] <;> omega
      · clear hi HPL
        have hi : ∀ W, (Instr.index 9 (.string ⟨X.toArray⟩) (.int .i64 0)).run Tryd.prog W = .ok (.int .u8 37) W := fun W => by rw [← hX]; exact run_str_at (P := Tryd.prog) Tryd.underlying9 (37 :: r) 0 37 rfl (kl := .i64) W
        have HPL : Hid (∀ W, Calls Tryd.prog 36 #[.int .u8 37] W fun e w' => e = .returned (.bool false) ∧ W = w') := fun W => by
          have := plain_any 37 W
          rw [pl37] at this
          exact this
        rw [hX] at hsz ⊢
        by_cases hL3 : (L : Int) < 3
        · have hno := map_none hP.out (partF_short (l := r) (by omega))
          have HE := Lib.hid (HNO.out hno _ hb)
          clear hno hP hX hL hL2 HX
          go_wp2_with fail
          refine (HPL.out _).mono ?_
          rintro e w2 ⟨rfl, rfl⟩
          go_wp2_with fail
          go_ret2
          exact HE.out
        · have hL3' : (3 : Int) ≤ L := by omega
          clear HX
          rcases r with _ | ⟨a, _ | ⟨b, r⟩⟩
          · simp at hL2
            omega
          · simp at hL2
            omega
          ·
            have hia : ∀ W, (Instr.index 9 (.string ⟨X.toArray⟩) (.int .i64 1)).run Tryd.prog W = .ok (.int .u8 (a.toNat : Int)) W := fun W => by rw [← hX]; exact run_str_at (P := Tryd.prog) Tryd.underlying9 (37 :: a :: b :: r) 1 a rfl (kl := .i64) W
            have hib : ∀ W, (Instr.index 9 (.string ⟨X.toArray⟩) (.int .i64 2)).run Tryd.prog W = .ok (.int .u8 (b.toNat : Int)) W := fun W => by rw [← hX]; exact run_str_at (P := Tryd.prog) Tryd.underlying9 (37 :: a :: b :: r) 2 b rfl (kl := .i64) W
            have hsl : ∀ W, (Instr.sliceAt 9 (.string ⟨X.toArray⟩) (some (.int .i64 3)) none none).run Tryd.prog W = .ok (.string ⟨r.toArray⟩) W := fun W => by rw [← hX]; exact run_str_l (P := Tryd.prog) Tryd.underlying9 (37 :: a :: b :: r) 3 (by simp) (kl := .i64) W
            have HA := Lib.hid (fun W => half_any (a.toNat : Int) (by omega) (by have := a.toNat_lt; omega) W)
            have HB := Lib.hid (fun W => half_any (b.toNat : Int) (by omega) (by have := b.toNat_lt; omega) W)
            have hor := or_esc a b
            have hcs := esc_case a b
            have HLr : Hid (L = r.length + 3) := by show _ = _; rw [hL2]; rfl
            obtain ⟨N, hN⟩ : ∃ N, escN a b = N := ⟨_, rfl⟩
            rw [hN] at hor hcs
            obtain ⟨VA, hVA⟩ : ∃ v, hxV (a.toNat : Int) = v := ⟨_, rfl⟩
            obtain ⟨VB, hVB⟩ : ∃ v, hxV (b.toNat : Int) = v := ⟨_, rfl⟩
            obtain ⟨BA, hBA⟩ : ∃ v, hxB (a.toNat : Int) = v := ⟨_, rfl⟩
            obtain ⟨BB, hBB⟩ : ∃ v, hxB (b.toNat : Int) = v := ⟨_, rfl⟩
            rw [hVA, hBA] at HA
            rw [hVB, hBB] at HB
            rw [hVA, hVB] at hor
            rw [hBA, hBB] at hcs
            have HX := Lib.hid hX
            clear hVA hVB hBA hBB hN hX hL hL2 hL3 HL2
            rcases hcs with ⟨rfl, he⟩ | ⟨rfl, rfl, he⟩ | ⟨rfl, rfl, rfl, he⟩ | ⟨rfl, rfl, h0, h1, he⟩
            · have hno : partF s = none := map_none hP.out (by rw [partF_esc, he]; rfl)
              have HE := Lib.hid (HNO.out hno _ hb)
              clear hno hP he
              go_wp2_with fail
              refine (HPL.out _).mono ?_
              rintro e w2 ⟨rfl, rfl⟩
              go_wp2_with fail
              refine (HA.out _).mono ?_
              rintro e w2 ⟨rfl, rfl⟩
              go_wp2_with fail
              refine (HB.out _).mono ?_
              rintro e w2 ⟨rfl, rfl⟩
              go_wp2_with fail
              go_ret2
              exact HE.out
            · have hno : partF s = none := map_none hP.out (by rw [partF_esc, he]; rfl)
              have HE := Lib.hid (HNO.out hno _ hb)
              clear hno hP he
              go_wp2_with fail
              refine (HPL.out _).mono ?_
              rintro e w2 ⟨rfl, rfl⟩
              go_wp2_with fail
              refine (HA.out _).mono ?_
              rintro e w2 ⟨rfl, rfl⟩
              go_wp2_with fail
              refine (HB.out _).mono ?_
              rintro e w2 ⟨rfl, rfl⟩
              go_wp2_with fail
              go_ret2
              exact HE.out
            · have hno : partF s = none := map_none hP.out (by rw [partF_esc, he]; rfl)
              have HE := Lib.hid (HNO.out hno _ hb)
              clear hno hP he
              go_wp2_with fail
              refine (HPL.out _).mono ?_
              rintro e w2 ⟨rfl, rfl⟩
              go_wp2_with fail
              refine (HA.out _).mono ?_
              rintro e w2 ⟨rfl, rfl⟩
              go_wp2_with fail
              refine (HB.out _).mono ?_
              rintro e w2 ⟨rfl, rfl⟩
              go_wp2_with fail
              go_ret2
              exact HE.out
            · have HS := Lib.hid (map_step hP.out (x := UInt8.ofNat N) (r2 := r) (by rw [partF_esc, he]; rfl))
              have h0' : ((N : Int) == 0) = false := by simpa using h0
              have hbN : b8 (UInt8.ofNat N) = .int .u8 (N : Int) := by
                rw [b8_ofNat, Nat.mod_eq_of_lt h1]
              have HBN := Lib.hid hbN
              clear hP he h0 hbN
              go_wp2_with fail
              refine (HPL.out _).mono ?_
              rintro e w2 ⟨rfl, rfl⟩
              go_wp2_with fail
              refine (HA.out _).mono ?_
              rintro e w2 ⟨rfl, rfl⟩
              go_wp2_with fail
              refine (HB.out _).mono ?_
              rintro e w2 ⟨rfl, rfl⟩
              go_upto_region 12 with fail
              have hr := ho.drew
              refine wp_region_plan (MPlan.reads [0, 1, 4, 5] (.one 2 (.one 3 (MPlan.reads [6, 7] .fin)))) (fun _ => True) (by kernel_rfl) (by kernel_rfl) (by kernel_rfl) (fun _ _ _ _ _ h => h) trivial ?_
              iterate 4 (refine plan_read (o := ⟨_, _, _, _, _, _⟩) (by rfl) (by rfl) ?_; go_big_quiet_step (fail); refine wpQuiet_nil ?_)
              refine plan_one (o := ⟨_, _, _, _, _, _⟩) (by rfl) (fun K hK => ?_)
              refine wpList_lit1 (v := .int .u8 (N : Int)) rfl rfl eb rfl (fill_u8 _) ?_
              intro w3 hw3
              have hr3 := lit1_own hw3 hr
              have hl3 := lit1_rd hw3
              have hb3 := lit1_below hw3 hb.drew hbs
              have hbs3 := hb3.size
              clear hw3
              go_wp2_with fail
              refine hK _ _ trivial ?_
              clear hK
              refine plan_one (o := ⟨_, _, _, _, _, _⟩) (by rfl) (fun K hK => ?_)
              refine wpList_app rfl _ _ rfl eb hr3 rfl hl3 rfl (by simp [Value.oneCell']) (by omega) (by unfold maxLen; omega) hbs3 ?_
              intro A4 c4 w4 ho4 hg4 hq4
              have hb4 := below_apps hb3 (Nat.le_refl _) hr3 hg4
              go_wp2_with fail
              refine hK _ _ trivial ?_
              clear hK
              iterate 2 (refine plan_read (o := ⟨_, _, _, _, _, _⟩) (by rfl) (by rfl) ?_; go_big_quiet_step (fail); refine wpQuiet_nil ?_)
              refine plan_fin ?_
              have ho5 : Own w4 w.heap.size 5 1 A4 (n + 1) c4 ((o ++ [UInt8.ofNat N]).map b8) := by
                rw [List.map_append, List.map_singleton, HBN.out]
                exact ho4
              go_wp2_with fail
              go_roundw
              case rel => exact ⟨r, o ++ [UInt8.ofNat N], A4, n + 1, c4, rfl, rfl, ho5, by have := HLr.out; omega, hb4, HS⟩
              case measure => have := HX.out; subst this; simp [lenV, ByteArray.size] <;> omega
      · have hno := map_none hP.out (partF_stop hp r)
        have HE := Lib.hid (HNO.out hno _ hb)
        have hne := ne_int (x := x) (c := 37) (by omega) hp.2
        have hne' : ((x.toNat : Int) != 37) = true := by
          have : ((x.toNat : Int) == 37) = false := hne
          simp [bne, this]
        rw [hp.1] at HPL
        rw [hX] at hi hsz ⊢
        clear hno hne hp hP hX hL hL2 HX
        go_wp2_with fail
        refine (HPL.out _).mono ?_
        rintro e w2 ⟨rfl, rfl⟩
        go_wp2_with fail
        go_ret2
        exact HE.out

end Go.Proofs.YteldghiejmpknaaDoor
