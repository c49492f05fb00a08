/-
  The document's answer to field: Small, Trim.
-/
import Derived.Test.YtpidakfpoihdkaaDoorFiB
namespace Go.Proofs.YtpidakfpoihdkaaDoor
open Go.RowKit

theorem up_case (x : UInt8) : ((65 ≤ (x.toNat : Int) ∧ (x.toNat : Int) ≤ 90) ∧ Value.int .u8 ((x.toNat : Int) + 97 - 65) = b8 (lowB x)) ∨ ((x.toNat : Int) < 65 ∧ lowB x = x) ∨ ((65 ≤ (x.toNat : Int) ∧ 90 < (x.toNat : Int)) ∧ lowB x = x) := by
  obtain ⟨l1, l2, l3⟩ := low_fin ⟨x.toNat, x.toNat_lt⟩
  dsimp only at l1 l2 l3
  by_cases h1 : (x.toNat : Int) < 65
  · refine .inr (.inl ⟨h1, low_no ?_⟩)
    unfold isL
    simp
    omega
  · by_cases h2 : (x.toNat : Int) ≤ 90
    · refine .inl ⟨⟨by omega, h2⟩, ?_⟩
      have hl : isL x = true := by unfold isL; simp; omega
      rw [← low_yes hl, l2 (by omega) (by omega)]
      congr 1
      omega
    · refine .inr (.inr ⟨⟨by omega, by omega⟩, ?_⟩)
      cases hl : isL x
      · exact low_no hl
      · have h3 : 97 ≤ x.toNat ∧ x.toNat ≤ 122 := by
          unfold isL at hl
          simp at hl
          omega
        unfold lowB
        rw [if_pos hl, l3 h3.1 h3.2]
        exact UInt8.ofNat_toNat
set_option maxRecDepth 20000 in
set_option maxHeartbeats 4000000 in
theorem RSmall_any (s : List UInt8) (hs : s.length ≤ 1073741824) (w : World) :
    Calls Tryd.prog 22 #[.string ⟨s.toArray⟩] w fun e w' => e = .returned (.string ⟨(smallL s).toArray⟩) ∧ Below w.heap.size w w' := by
  obtain ⟨n, hn⟩ : ∃ n, s.length = n := ⟨_, rfl⟩
  have HN := Lib.hid hn
  have hn1 : n ≤ 1073741824 := by omega
  clear hn hs
  go_enter Tryd.func22, Tryd.ntmps22
  go_wp2_with (refine wpList_s2b rfl _ rfl Tryd.underlying9 Tryd.underlying32 Tryd.underlying5 ⟨s.toArray⟩ rfl (by rw [size_mk, HN.out]; exact hn1) ?_; intro c1 w1 ho1 hb1; rw [size_mk, HN.out] at ho1 ⊢; generalize (some (⟨w.heap.size, 0, none⟩ : Addr)) = A1 at ho1 ⊢)
  go_loopw [4] (fun i wr => ∃ k : Nat, k ≤ n ∧ i = .int .i64 k ∧ Own wr w.heap.size 5 1 A1 n c1 ((smallL (s.take k) ++ s.drop k).map b8) ∧ Below w.heap.size w wr) (fun i _ => n - (intOf i).toNat)
  case atStart => exact ⟨0, by omega, rfl, by simpa [smallL] using ho1, hb1⟩
  case round =>
    obtain ⟨k, hk, rfl, ho, hb⟩ := hrel
    clear ho1 hb1
    by_cases hkn : k < n
    · have hx : s[k]? = some (s[k]'(by rw [HN.out]; exact hkn)) := List.getElem?_eq_getElem _
      generalize s[k]'(by rw [HN.out]; exact hkn) = x at hx
      obtain ⟨hm1, hm2⟩ := small_mid hx
      have hPl : (smallL (s.take k)).length = k := by unfold smallL; rw [List.length_map, List.length_take, HN.out]; omega
      have hcell := ho.rd.cell k (b8 x) (by
        rw [hm1, List.map_append, List.getElem?_append_right (by rw [List.length_map, hPl]; exact Nat.le_refl _), List.length_map, hPl, Nat.sub_self]
        rfl)
      have hidx := run_index_rd (P := Tryd.prog) (A := A1) (n := n) (c := c1) eb ho.rd.nil ho.rd.le k hkn
      rw [Nat.mul_one] at hidx
      have hle := ho.rd.le
      have hfr := ho.free (k := k) (by omega)
      have hst := ho.store (k := k) (by omega) (b8 (lowB x))
      have hbs := below_store hb ho (k := k) (by omega) (b8 (lowB x))
      have hst2 : Own (wr.setCell (at_ A1 k) (b8 (lowB x))) w.heap.size 5 1 A1 n c1 ((smallL (s.take (k + 1)) ++ s.drop (k + 1)).map b8) := by
        rw [hm2, ← set_mid _ _ x, hPl, List.map_set, ← hm1]
        exact hst
      have hkeep : lowB x = x → Own wr w.heap.size 5 1 A1 n c1 ((smallL (s.take (k + 1)) ++ s.drop (k + 1)).map b8) := fun h => by
        rw [hm2, h, ← hm1]
        exact ho
      have HL := Lib.hid (fun W => letter_any x W)
      have hor := or32 x.toNat x.toNat_lt
      have hk' : (k : Int) < n := by omega
      have HST := Lib.hid hst2
      have HBS := Lib.hid hbs
      have HKE := Lib.hid hkeep
      unfold b8 at hcell
      clear hx hm1 hm2 hPl hst hst2 hbs hkeep hkn
      have hxb : (x.toNat : Int) ≤ 255 := by have := x.toNat_lt; omega
      clear hor HL
      rcases up_case x with ⟨⟨u1, u2⟩, hv⟩ | ⟨u1, hv⟩ | ⟨⟨u1, u2⟩, hv⟩
      · have HY := Lib.hid hv
        clear hv
        go_wp2_with fail
        rw [HY.out]
        go_roundw
        case rel => exact ⟨k + 1, by omega, by go_num, HST.out, HBS.out⟩
        case measure => simp [intOf]; omega
      · have HO := Lib.hid (HKE.out hv)
        clear hv
        go_wp2_with fail
        go_roundw
        case rel => exact ⟨k + 1, by omega, by go_num, HO.out, hb⟩
        case measure => simp [intOf]; omega
      · have HO := Lib.hid (HKE.out hv)
        clear hv
        go_wp2_with fail
        go_roundw
        case rel => exact ⟨k + 1, by omega, by go_num, HO.out, hb⟩
        case measure => simp [intOf]; omega
    · obtain rfl : k = n := by omega
      have e : smallL (s.take k) ++ s.drop k = smallL s := by rw [List.take_of_length_le (by rw [HN.out]; exact Nat.le_refl _), List.drop_eq_nil_of_le (by rw [HN.out]; exact Nat.le_refl _), List.append_nil]
      rw [e] at ho
      have hs := str_rd ho.rd
      clear e hkn
      go_wp2_with fail
      go_ret
      exact ⟨rfl, hb⟩

/-! ### Trim -/
theorem blank_case (x : UInt8) : (((x.toNat : Int) = 32) ∧ isB x = true) ∨ (((x.toNat : Int) ≠ 32 ∧ (x.toNat : Int) = 9) ∧ isB x = true) ∨ (((x.toNat : Int) ≠ 32 ∧ (x.toNat : Int) ≠ 9) ∧ isB x = false) := by
  have hx : isB x = (x == 32 || x == 9) := by
    unfold isB blk2
    simp only [List.contains, List.elem]
    cases x == 32 <;> cases x == 9 <;> rfl
  rw [hx]
  by_cases h1 : x = 32
  · subst h1
    exact .inl ⟨rfl, rfl⟩
  · have h1' : (x.toNat : Int) ≠ 32 := fun e => h1 (UInt8.toNat_inj.1 (by simpa using (by omega : x.toNat = 32)))
    by_cases h2 : x = 9
    · subst h2
      exact .inr (.inl ⟨⟨by decide, rfl⟩, rfl⟩)
    · have h2' : (x.toNat : Int) ≠ 9 := fun e => h2 (UInt8.toNat_inj.1 (by simpa using (by omega : x.toNat = 9)))
      exact .inr (.inr ⟨⟨h1', h2'⟩, by simp [h1, h2]⟩)
theorem trimR_snoc (r : List UInt8) (x : UInt8) : Lib.trimRightS (r ++ [x]) blk2 = if isB x then Lib.trimRightS r blk2 else r ++ [x] := by
  rw [trimR_eq, trimR_eq, List.reverse_append]
  show ((x :: r.reverse).dropWhile isB).reverse = _
  by_cases hx : isB x = true
  · rw [List.dropWhile_cons_of_pos hx, if_pos hx]
  · rw [List.dropWhile_cons_of_neg hx, if_neg hx]
    simp
def strLen : Value → Nat
  | .string b => b.size
  | _ => 0

set_option maxRecDepth 20000 in
set_option maxHeartbeats 4000000 in
theorem RTrim_any (s : List UInt8) (hs : s.length ≤ 1073741824) (w : World) : Calls Tryd.prog 23 #[.string ⟨s.toArray⟩] w fun e w' => e = .returned (.string ⟨(trimL s).toArray⟩) ∧ w = w' := by
  rw [trim_other]
  obtain ⟨T, hT⟩ : ∃ T, s.dropWhile isB = T := ⟨_, rfl⟩
  rw [hT]
  have HT := Lib.hid hT
  clear hT
  go_enter Tryd.func23, Tryd.ntmps23
  go_wp2_with fail
  go_loop [0] (fun v => ∃ t : List UInt8, v = .string ⟨t.toArray⟩ ∧ t.length ≤ 1073741824 ∧ Hid (t.dropWhile isB = T)) (fun v => strLen v)
  case atStart => exact ⟨s, rfl, hs, HT.out⟩
  case round =>
    obtain ⟨t, rfl, htl, hH⟩ := hrel
    have goOn : ∀ x r, t = x :: r → isB x = true → Hid (r.dropWhile isB = T) := fun x r h1 h2 => by
      show _ = _
      rw [← hH.out, h1, List.dropWhile_cons_of_pos h2]
    have stop : (t = [] ∨ ∃ x r, t = x :: r ∧ isB x = false) → Hid (t = T) := fun h => by
      show _ = _
      rcases h with h | ⟨x, r, h1, h2⟩
      · rw [← hH.out, h]
        rfl
      · rw [← hH.out, h1, List.dropWhile_cons_of_neg (by rw [h2]; decide)]
    have GO := Lib.hid goOn
    have ST := Lib.hid stop
    clear goOn stop hH
    have hcase : (∃ x r, t = x :: r ∧ (x.toNat : Int) = 32 ∧ Hid (r.dropWhile isB = T)) ∨ (∃ x r, t = x :: r ∧ (x.toNat : Int) ≠ 32 ∧ (x.toNat : Int) = 9 ∧ Hid (r.dropWhile isB = T)) ∨ (Hid (t = T) ∧ t = []) ∨ (∃ x r, t = x :: r ∧ (x.toNat : Int) ≠ 32 ∧ (x.toNat : Int) ≠ 9 ∧ Hid (t = T)) := by
      cases ht : t with
      | nil => exact .inr (.inr (.inl ⟨ht ▸ ST.out (.inl ht), rfl⟩))
      | cons x r =>
        rcases blank_case x with ⟨h1, h2⟩ | ⟨⟨h1, h2⟩, h3⟩ | ⟨⟨h1, h2⟩, h3⟩
        · exact .inl ⟨x, r, rfl, h1, GO.out x r ht h2⟩
        · exact .inr (.inl ⟨x, r, rfl, h1, h2, GO.out x r ht h3⟩)
        · exact .inr (.inr (.inr ⟨x, r, rfl, h1, h2, ht ▸ ST.out (.inr ⟨x, r, ht, h3⟩)⟩))
    have HCASE := Lib.hid hcase
    have hi : ∀ x r, t = x :: r → ∀ W, (Instr.index 9 (.string ⟨t.toArray⟩) (.int .i64 0)).run Tryd.prog W = .ok (.int .u8 (x.toNat : Int)) W := fun x r h W => run_str_at (P := Tryd.prog) Tryd.underlying9 t 0 x (by rw [h]; rfl) (kl := .i64) W
    have hsl : ∀ x r, t = x :: r → ∀ W, (Instr.sliceAt 9 (.string ⟨t.toArray⟩) (some (.int .i64 1)) none none).run Tryd.prog W = .ok (.string ⟨r.toArray⟩) W := fun x r h W => by
      have := run_str_l (P := Tryd.prog) Tryd.underlying9 t 1 (by rw [h]; simp) (kl := .i64) W
      rw [h] at this ⊢
      exact this
    have HI := Lib.hid hi
    have HSL := Lib.hid hsl
    clear GO ST hcase hi hsl
    rcases HCASE.out with ⟨x, r, h0, h1, hN⟩ | ⟨x, r, h0, h1, h2, hN⟩ | ⟨hTT, h0⟩ | ⟨x, r, h0, h1, h2, hTT⟩
    · have i0 := HI.out x r h0
      have s0 := HSL.out x r h0
      have hpos : (0 : Int) < t.length := (by have h := congrArg List.length h0; simp at h; omega)
      have hrl : r.length ≤ 1073741824 := by rw [h0] at htl; simp at htl; omega
      have hlt : r.length < t.length := by rw [h0]; simp
      have h1' : ((x.toNat : Int) == 32) = true := by simpa using h1
      have HLT := Lib.hid hlt
      clear HCASE HI HSL h0 h1 hlt
      go_wp2_with fail
      go_round
      case rel => exact ⟨r, rfl, hrl, hN.out⟩
      case measure =>
        show (⟨r.toArray⟩ : ByteArray).size < (⟨t.toArray⟩ : ByteArray).size
        rw [size_mk, size_mk]
        exact HLT.out
    · have i0 := HI.out x r h0
      have s0 := HSL.out x r h0
      have hpos : (0 : Int) < t.length := (by have h := congrArg List.length h0; simp at h; omega)
      have hrl : r.length ≤ 1073741824 := by rw [h0] at htl; simp at htl; omega
      have hlt : r.length < t.length := by rw [h0]; simp
      have h1' : ((x.toNat : Int) == 32) = false := by simpa using h1
      have h2' : ((x.toNat : Int) == 9) = true := by simpa using h2
      have HLT := Lib.hid hlt
      clear HCASE HI HSL h0 h1 h2 hlt
      go_wp2_with fail
      go_round
      case rel => exact ⟨r, rfl, hrl, hN.out⟩
      case measure =>
        show (⟨r.toArray⟩ : ByteArray).size < (⟨t.toArray⟩ : ByteArray).size
        rw [size_mk, size_mk]
        exact HLT.out
    · subst h0
      have hfin : Lib.trimRightS T blk2 = [] := by rw [← hTT.out]; rfl
      have HF := Lib.hid hfin
      clear HCASE HI HSL hfin
      go_wp2_with fail
      go_loop [0] (fun v => v = .string ⟨#[]⟩) (fun v => strLen v)
      case atStart => rfl
      case round =>
        obtain rfl := hrel
        go_wp2_with fail
        go_ret
        rw [HF.out]
        exact ⟨rfl, rfl⟩
    · have i0 := HI.out x r h0
      have hpos : (0 : Int) < t.length := (by have h := congrArg List.length h0; simp at h; omega)
      have h1' : ((x.toNat : Int) == 32) = false := by simpa using h1
      have h2' : ((x.toNat : Int) == 9) = false := by simpa using h2
      clear HCASE HI HSL h0 h1 h2
      go_wp2_with fail
      go_loop [0] (fun v => ∃ u : List UInt8, v = .string ⟨u.toArray⟩ ∧ u.length ≤ 1073741824 ∧ Hid (Lib.trimRightS u blk2 = Lib.trimRightS T blk2)) (fun v => strLen v)
      case atStart => exact ⟨t, rfl, htl, (show _ = _ by rw [hTT.out])⟩
      case round =>
        clear i0 hpos htl hTT
        obtain ⟨u, rfl, hul, hH⟩ := hrel
        by_cases hu : u = []
        · subst hu
          have hfin : Lib.trimRightS T blk2 = [] := by rw [← hH.out]; rfl
          have HF := Lib.hid hfin
          clear hfin hH
          go_wp2_with fail
          go_ret
          rw [HF.out]
          exact ⟨rfl, rfl⟩
        · obtain ⟨r2, y, hry⟩ : ∃ r2 y, u = r2 ++ [y] := ⟨u.dropLast, u.getLast hu, (List.dropLast_concat_getLast hu).symm⟩
          have hlen : u.length = r2.length + 1 := by rw [hry]; simp
          have hi1 := run_str_at (P := Tryd.prog) Tryd.underlying9 u r2.length y (by rw [hry]; simp) (kl := .i64)
          have hs1 := run_str_h (P := Tryd.prog) Tryd.underlying9 u r2.length (by omega) (kh := .i64)
          have htk : u.take r2.length = r2 := by rw [hry]; simp
          have ec : ((r2.length : Nat) : Int) = (u.length : Int) - 1 := by omega
          rw [htk, ec] at hs1
          rw [ec] at hi1
          have hsn := trimR_snoc r2 y
          rw [← hry] at hsn
          have hup : (0 : Int) < u.length := by omega
          have hu1 : (1 : Int) ≤ u.length := by omega
          have hrl : r2.length ≤ 1073741824 := by omega
          have HLT := Lib.hid (by omega : r2.length < u.length)
          have HSN := Lib.hid hsn
          have HRY := Lib.hid hry
          clear hry hlen htk ec hsn hu
          rcases blank_case y with ⟨b1, hb⟩ | ⟨⟨b1, b2⟩, hb⟩ | ⟨⟨b1, b2⟩, hb⟩
          · have hN : Hid (Lib.trimRightS r2 blk2 = Lib.trimRightS T blk2) := by
              show _ = _
              rw [← hH.out, HSN.out, if_pos hb]
            have b1' : ((y.toNat : Int) == 32) = true := by simpa using b1
            clear b1 hb hH
            go_wp2_with fail
            go_round
            case rel => exact ⟨r2, rfl, hrl, hN.out⟩
            case measure =>
              show (⟨r2.toArray⟩ : ByteArray).size < (⟨u.toArray⟩ : ByteArray).size
              rw [size_mk, size_mk]
              exact HLT.out
          · have hN : Hid (Lib.trimRightS r2 blk2 = Lib.trimRightS T blk2) := by
              show _ = _
              rw [← hH.out, HSN.out, if_pos hb]
            have b1' : ((y.toNat : Int) == 32) = false := by simpa using b1
            have b2' : ((y.toNat : Int) == 9) = true := by simpa using b2
            clear b1 b2 hb hH
            go_wp2_with fail
            go_round
            case rel => exact ⟨r2, rfl, hrl, hN.out⟩
            case measure =>
              show (⟨r2.toArray⟩ : ByteArray).size < (⟨u.toArray⟩ : ByteArray).size
              rw [size_mk, size_mk]
              exact HLT.out
          · have hfin : Lib.trimRightS T blk2 = u := by
              rw [← hH.out, HSN.out, if_neg (by rw [hb]; decide)]
            have b1' : ((y.toNat : Int) == 32) = false := by simpa using b1
            have b2' : ((y.toNat : Int) == 9) = false := by simpa using b2
            have HF := Lib.hid hfin
            clear b1 b2 hb hH hfin
            go_wp2_with fail
            go_ret
            rw [HF.out]
            exact ⟨rfl, rfl⟩

end Go.Proofs.YtpidakfpoihdkaaDoor
