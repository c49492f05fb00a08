/-
  Package target: path.
-/
import Derived.Test.YteldghiejmpknaaDoorTaT
namespace Go.Proofs.YteldghiejmpknaaDoor
open Go.RowKit

def Pathed (s : List UInt8) (w : World) (e : Ending) (w' : World) : Prop :=
  Below w.heap.size w w' ∧ ((pathF s = none ∧ e = .returned (.tuple #[.slice none 0 0, .bool false])) ∨ ∃ P A n c, pathF s = some P ∧ e = .returned (.tuple #[.slice A n c, .bool true]) ∧ Own w' w.heap.size 9 1 A n c (P.map strV) ∧ n ≤ s.length + 1)
theorem mapP_app {β : Type} (f : List UInt8 → Option β) : ∀ (a b : List (List UInt8)), mapP f (a ++ b) = (mapP f a).bind fun x => (mapP f b).map (x ++ ·)
  | [], b => by cases h : mapP f b <;> simp [mapP, h]
  | p :: a, b => by
    rw [List.cons_append, mapP, mapP, mapP_app f a b]
    cases f p with
    | none => rfl
    | some y => cases mapP f a <;> cases mapP f b <;> simp
/-- The pieces ahead of k say o. -/
def mapK {β : Type} (f : List UInt8 → Option β) (P : List (List UInt8)) (k : Nat) (o : List β) : Prop := mapP f P = (mapP f (P.drop k)).map (o ++ ·)
theorem mapK_start {β : Type} (f : List UInt8 → Option β) (P : List (List UInt8)) : mapK f P 0 [] := by
  unfold mapK
  rw [List.drop_zero]
  cases mapP f P <;> rfl
theorem mapK_drop {P : List (List UInt8)} {k : Nat} {p : List UInt8} (hx : P[k]? = some p) : P.drop k = p :: P.drop (k + 1) := by
  obtain ⟨hk, he⟩ := List.getElem?_eq_some_iff.1 hx
  rw [List.drop_eq_getElem_cons hk, he]
theorem mapK_bad {β : Type} {f : List UInt8 → Option β} {P : List (List UInt8)} {k : Nat} {o : List β} {p : List UInt8} (h : mapK f P k o) (hx : P[k]? = some p) (hf : f p = none) : mapP f P = none := by
  rw [h, mapK_drop hx, mapP, hf]
  rfl
theorem mapK_step {β : Type} {f : List UInt8 → Option β} {P : List (List UInt8)} {k : Nat} {o : List β} {p : List UInt8} {y : β} (h : mapK f P k o) (hx : P[k]? = some p) (hf : f p = some y) : mapK f P (k + 1) (o ++ [y]) := by
  unfold mapK
  rw [h, mapK_drop hx, mapP, hf]
  cases mapP f (P.drop (k + 1)) <;> simp
theorem mapK_end {β : Type} {f : List UInt8 → Option β} {P : List (List UInt8)} {o : List β} (h : mapK f P P.length o) : mapP f P = some o := by
  rw [h, List.drop_length]
  simp [mapP]
theorem nameF_parts (s : List UInt8) : (partB s = false ∧ nameF s = none) ∨ (partB s = true ∧ partS s = [] ∧ nameF s = none) ∨ (partB s = true ∧ partS s ≠ [] ∧ nameF s = some (partS s)) := by
  unfold partB partS nameF
  cases partF s with
  | none => exact .inl ⟨rfl, rfl⟩
  | some o =>
    by_cases h : o = []
    · exact .inr (.inl ⟨rfl, h, if_pos h⟩)
    · exact .inr (.inr ⟨rfl, h, if_neg h⟩)
theorem ne_emp {l : List UInt8} (h : l ≠ []) : l.isEmpty = false := by
  cases l with
  | nil => exact absurd rfl h
  | cons x l => rfl

set_option maxRecDepth 20000 in
set_option maxHeartbeats 8000000 in
theorem path_loop (s : List UInt8) (hs : s.length ≤ 1048575) (h47 : (47 :: s) ≠ [47]) (w : World) (hm : Mx w) : Calls Tryd.prog 21 #[.string ⟨(47 :: s).toArray⟩] w (Pathed (47 :: s) w) := by
  have HSP := Lib.hid (Split_any 47 s (by omega) w hm)
  have hpf : pathF (47 :: s) = mapP nameF (split1 47 s) := by
    unfold pathF
    rw [if_neg h47]
    exact if_pos rfl
  obtain ⟨hpl, hpe⟩ := split1_le 47 s
  obtain ⟨P, hP⟩ : ∃ P, split1 47 s = P := ⟨_, rfl⟩
  rw [hP] at HSP hpl hpe hpf
  have HPF := Lib.hid hpf
  obtain ⟨N, hN⟩ : ∃ N, P.length = N := ⟨_, rfl⟩
  rw [hN] at HSP hpl
  have HN := Lib.hid hN
  have hN1 : N ≤ 1048577 := by omega
  have HPL := Lib.hid hpl
  have HPE := Lib.hid (fun p hp => (Nat.le_trans (hpe p hp) (by omega) : p.length ≤ 1048576))
  have hne : ((47 :: s) == [47]) = false := by simpa using h47
  have hsl : ∀ W, (Instr.sliceAt 9 (.string ⟨(47 :: s).toArray⟩) (some (.int .i64 1)) none none).run Tryd.prog W = .ok (.string ⟨s.toArray⟩) W := fun W => run_str_l (P := Tryd.prog) Tryd.underlying9 (47 :: s) 1 (by simp) (kl := .i64) W
  have HPR := Lib.hid (fun W => Tryd.strings_HasPrefix ⟨(47 :: s).toArray⟩ ⟨#[47]⟩ W)
  have hpr : Lib.hasPrefix (⟨(47 :: s).toArray⟩ : ByteArray).data.toList (⟨#[47]⟩ : ByteArray).data.toList = true := by simp [Lib.hasPrefix]
  rw [hpr] at HPR
  have hne2 : s.isEmpty = false := by cases s with
    | nil => exact absurd rfl h47
    | cons x l => rfl
  obtain ⟨X, hX⟩ : ∃ X, 47 :: s = X := ⟨_, rfl⟩
  have HX := Lib.hid hX
  rw [hX] at hne hsl HPR ⊢
  have hsX : s.length ≤ X.length := by rw [← hX]; simp
  have HSX := Lib.hid hsX
  rw [hX] at HPF
  clear hP hN hm hpe hpl hs hpf h47 hpr hX hsX
  go_enter Tryd.func21, Tryd.ntmps21
  go_wp2_with fail
  refine (HPR.out _).mono ?_
  rintro e w0 ⟨rfl, rfl⟩
  go_wp2_with fail
  refine HSP.out.mono ?_
  rintro e w1 ⟨rfl, hw1⟩
  have hrd : Rd w1 1 (some ⟨w0.heap.size, 0, none⟩) N N (P.map strV) := by
    rw [hw1]
    exact Rd.lit w0 _ _ N (by rw [List.length_map, HN.out]) (by unfold maxLen; omega)
  have hb1 : Below w0.heap.size w0 w1 := by rw [hw1]; exact (Below.refl _ _).alloc (Nat.le_refl _) _
  clear hw1
  obtain ⟨A1, hA1⟩ : ∃ A1, (some ⟨w0.heap.size, 0, none⟩ : Option Addr) = A1 := ⟨_, rfl⟩
  rw [hA1] at hrd ⊢
  have hs1 := hb1.size
  clear hA1 HSP
  go_wp2_with fail
  go_loopw [4, 18] (fun l i wr => ∃ (k : Nat) (A : Option Addr) (n c : Nat) (o : List (List UInt8)), k ≤ N ∧ l = .slice A n c ∧ i = .int .i64 k ∧ Own wr w1.heap.size 9 1 A n c (o.map strV) ∧ n = k ∧ Hid (mapK nameF P k o) ∧ Below w1.heap.size w1 wr) (fun _ i _ => N - (intOf i).toNat)
  case atStart => exact ⟨0, none, 0, 0, [], by omega, rfl, rfl, Own.nil_ _ _ _ _, rfl, mapK_start _ _, Below.refl _ _⟩
  case round =>
    obtain ⟨k, A, n, c, o, hk, rfl, rfl, ho, hn, hH, hb⟩ := hrel
    by_cases hkN : k < N
    · have hx : P[k]? = some (P[k]'(by rw [HN.out]; exact hkN)) := List.getElem?_eq_getElem _
      generalize P[k]'(by rw [HN.out]; exact hkN) = p at hx
      have hidx := run_index_rd (P := Tryd.prog) (A := A1) (n := N) (c := N) es hrd.nil hrd.le k hkN
      rw [Nat.mul_one] at hidx
      have hcell := (hrd.below hb).cell k (strV p) (by rw [List.getElem?_map, hx]; rfl)
      have hpl := HPE.out p (List.mem_of_getElem? hx)
      have HT := Lib.hid (fun W => part_any p hpl W)
      unfold Parted at HT
      have hcs := nameF_parts p
      obtain ⟨q, hq⟩ : ∃ q, partS p = q := ⟨_, rfl⟩
      obtain ⟨f, hf⟩ : ∃ f, partB p = f := ⟨_, rfl⟩
      rw [hq, hf] at HT hcs
      have hk' : (k : Int) < N := by omega
      have hs1r := hb.size
      unfold strV at hcell
      rcases hcs with ⟨rfl, hno⟩ | ⟨rfl, rfl, hno⟩ | ⟨rfl, hqe, hyes⟩
      · have HE := Lib.hid (HPF.out.trans (mapK_bad hH.out hx hno))
        clear hx hkN hq hf hno hH hn
        go_wp2_with fail
        refine (HT.out _).mono ?_
        rintro e w2 ⟨rfl, hb2⟩
        have hb12 := hb1.trans ((hb.trans (hb2.mono hb.size)).mono hs1)
        clear hb2
        go_wp2_with fail
        go_ret2
        exact ⟨hb12, .inl ⟨HE.out, rfl⟩⟩
      · have HE := Lib.hid (HPF.out.trans (mapK_bad hH.out hx hno))
        clear hx hkN hq hf hno hH hn
        go_wp2_with fail
        refine (HT.out _).mono ?_
        rintro e w2 ⟨rfl, hb2⟩
        have hb12 := hb1.trans ((hb.trans (hb2.mono hb.size)).mono hs1)
        clear hb2
        go_wp2_with fail
        go_ret2
        exact ⟨hb12, .inl ⟨HE.out, rfl⟩⟩
      · have HN2 := Lib.hid (mapK_step hH.out hx hyes)
        have hqi := ne_emp hqe
        have HNK := Lib.hid hn
        have hn2 : n + 1 ≤ 1048578 := by omega
        clear hx hkN hq hf hyes hH hqe hn
        go_wp2_with fail
        refine (HT.out _).mono ?_
        rintro e w2 ⟨rfl, hb2⟩
        have hb12 := hb.trans (hb2.mono hb.size)
        have ho2 := ho.below hb2
        clear hb2
        go_wp2_with (at_builtin; refine wpList_app rfl _ _ rfl es (ho2.alloc _) rfl (Rd.lit _ [_] _ 1 rfl (by unfold maxLen; omega)) rfl (by simp [Value.oneCell']) (by omega) (by unfold maxLen; omega) (by have := hb12.size; simp; omega) ?_; intro A4 c4 w4 ho4 hg4 hq4; have hb4 := below_app hb12 (Nat.le_refl _) ho2 hg4)
        have ho5 : Own w4 w1.heap.size 9 1 A4 (n + 1) c4 ((o ++ [q]).map strV) := by
          rw [List.map_append]
          exact ho4
        go_roundw
        case rel => exact ⟨k + 1, A4, n + 1, c4, o ++ [q], by omega, rfl, by go_num, ho5, by rw [HNK.out], HN2, hb4⟩
        case measure => simp [intOf]; omega
    · obtain rfl : k = N := by omega
      have hend : mapP nameF P = some o := mapK_end (by rw [HN.out]; exact hH.out)
      have HE := Lib.hid (HPF.out.trans hend)
      clear hkN hend hH
      go_wp2_with fail
      go_ret2
      exact ⟨hb1.trans (hb.mono hs1), .inr ⟨o, A, n, c, HE.out, rfl, ho.mono hs1, by have := HPL.out; have := HSX.out; omega⟩⟩

set_option maxHeartbeats 4000000 in
theorem path_any (s : List UInt8) (hs : s.length ≤ 1048576) (w : World) (hm : Mx w) : Calls Tryd.prog 21 #[.string ⟨s.toArray⟩] w (Pathed s w) := by
  rcases s with _ | ⟨x, s⟩
  · have HPR := Lib.hid (fun W => Tryd.strings_HasPrefix ⟨#[]⟩ ⟨#[47]⟩ W)
    have hpr : Lib.hasPrefix (⟨#[]⟩ : ByteArray).data.toList (⟨#[47]⟩ : ByteArray).data.toList = false := by decide
    rw [hpr] at HPR
    clear hpr
    go_enter Tryd.func21, Tryd.ntmps21
    go_wp2_with fail
    refine (HPR.out _).mono ?_
    rintro e w0 ⟨rfl, rfl⟩
    go_wp2_with fail
    go_ret2
    exact ⟨Below.refl _ _, .inl ⟨rfl, rfl⟩⟩
  by_cases hx : x = 47
  · subst hx
    by_cases h0 : s = []
    · subst h0
      go_enter Tryd.func21, Tryd.ntmps21
      go_wp2_with fail
      go_ret2
      exact ⟨Below.refl _ _, .inr ⟨[], none, 0, 0, rfl, rfl, Own.nil_ _ _ _ _, by omega⟩⟩
    · exact path_loop s (by simpa using hs) (fun e => h0 (by simpa using e)) w hm
  · have HPR := Lib.hid (fun W => Tryd.strings_HasPrefix ⟨(x :: s).toArray⟩ ⟨#[47]⟩ W)
    have hpr : Lib.hasPrefix (⟨(x :: s).toArray⟩ : ByteArray).data.toList (⟨#[47]⟩ : ByteArray).data.toList = false := by simp [Lib.hasPrefix, List.isPrefixOf, Ne.symm hx]
    rw [hpr] at HPR
    have hne : ((x :: s) == [47]) = false := by simp [hx]
    have hno : pathF (x :: s) = none := by simp [pathF, hx]
    have HE := Lib.hid hno
    obtain ⟨X, hX⟩ : ∃ X, x :: s = X := ⟨_, rfl⟩
    rw [hX] at hne HPR HE ⊢
    clear hpr hX hno hx
    go_enter Tryd.func21, Tryd.ntmps21
    go_wp2_with fail
    refine (HPR.out _).mono ?_
    rintro e w0 ⟨rfl, rfl⟩
    go_wp2_with fail
    go_ret2
    exact ⟨Below.refl _ _, .inl ⟨HE.out, rfl⟩⟩

end Go.Proofs.YteldghiejmpknaaDoor
