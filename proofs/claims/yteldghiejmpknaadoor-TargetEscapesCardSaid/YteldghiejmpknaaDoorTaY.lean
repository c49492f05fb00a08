/-
  The law TargetEscapes.
-/
import Derived.Test.YteldghiejmpknaaDoorTaV
namespace Go.Proofs.YteldghiejmpknaaDoor
open Go.RowKit

def hexS (sm : Bool) (d : Nat) : UInt8 := if sm then UInt8.ofNat (if d < 10 then 48 + d else 87 + d) else hexU d
def escA (sm : Bool) (x : UInt8) : List UInt8 := [37, hexS sm (x.toNat / 16), hexS sm (x.toNat % 16)]
def flatA (sm : Bool) (l : List UInt8) : List UInt8 := l.flatMap (escA sm)
def chkS (sm : Bool) (x : UInt8) : Bool := escV (hexS sm (x.toNat / 16)) (hexS sm (x.toNat % 16)) == if x == 0 then none else some x
theorem chkS_fin : ∀ (sm : Bool) (c : Fin 256), chkS sm (UInt8.ofNat c.1) = true := by decide +kernel
theorem escS (sm : Bool) (x : UInt8) : escV (hexS sm (x.toNat / 16)) (hexS sm (x.toNat % 16)) = if x == 0 then none else some x := by
  have := chkS_fin sm ⟨x.toNat, x.toNat_lt⟩
  have e : UInt8.ofNat x.toNat = x := by simp
  dsimp only at this
  rw [e] at this
  simpa [chkS] using this
theorem flatA_cons (sm : Bool) (x : UInt8) (l : List UInt8) : flatA sm (x :: l) = 37 :: hexS sm (x.toNat / 16) :: hexS sm (x.toNat % 16) :: flatA sm l := rfl
theorem flatA_take (sm : Bool) {l : List UInt8} {k : Nat} {x : UInt8} (hx : l[k]? = some x) : flatA sm (l.take (k + 1)) = flatA sm (l.take k) ++ [37, hexS sm (x.toNat / 16), hexS sm (x.toNat % 16)] := by
  obtain ⟨hk, he⟩ := List.getElem?_eq_some_iff.1 hx
  rw [List.take_succ_eq_append_getElem hk, he]
  simp [flatA, escA]
theorem flatA_len (sm : Bool) : ∀ l : List UInt8, (flatA sm l).length = 3 * l.length
  | [] => rfl
  | x :: l => by
    rw [flatA_cons]
    have := flatA_len sm l
    simp
    omega
theorem flat_part (sm : Bool) : ∀ l : List UInt8, zB l = false → partF (flatA sm l) = some l
  | [], _ => rfl
  | x :: l, h => by
    have h2 : zB l = false := by
      unfold zB at *
      simp at h ⊢
      exact h.2
    have h3 : (x == 0) = false := by
      unfold zB at h
      simp at h
      simp
      exact fun e => h.1 e.symm
    rw [flatA_cons, partF_esc, escS, h3, flat_part sm l h2]
    rfl
theorem flat_none (sm : Bool) : ∀ l : List UInt8, zB l = true → rpartF (flatA sm l) = none
  | [], h => by cases h
  | x :: l, h => by
    rw [flatA_cons, rpartF_esc, escS]
    cases hx : (x == 0)
    · have h2 : zB l = true := by
        unfold zB at *
        simp at h hx ⊢
        rcases h with h | h
        · exact absurd h.symm hx
        · exact h
      rw [flat_none sm l h2]
      rfl
    · rfl
theorem flat_parse (sm : Bool) {l : List UInt8} (h0 : l ≠ []) : parseF (47 :: flatA sm l) = if zB l then ([], [], 4) else ([l], [], 0) := by
  match l, h0 with
  | x :: l, h0 =>
    have e : parseF (47 :: flatA sm (x :: l)) = contP [] (47 :: flatA sm (x :: l)) := parse_path _ (by decide)
    rw [e]
    cases hz : zB (x :: l)
    · have := cont_step [] (flat_part sm _ hz) h0 endL_nil
      rw [List.append_nil] at this
      rw [this, cont_nil]
      exact fin_path (fun p hp => by
        obtain rfl : p = x :: l := by simpa using hp
        exact ⟨h0, zB_no hz⟩)
    · exact cont_bad [] (fun o r hr => by rw [flat_none sm _ hz] at hr; cases hr)
theorem zB_take {l : List UInt8} {k : Nat} {x : UInt8} (hx : l[k]? = some x) : zB (l.take (k + 1)) = (zB (l.take k) || x == 0) := by
  obtain ⟨hk, he⟩ := List.getElem?_eq_some_iff.1 hx
  rw [List.take_succ_eq_append_getElem hk, he]
  unfold zB
  rw [List.contains_eq_any_beq, List.contains_eq_any_beq, List.any_append]
  simp
  rw [Bool.eq_iff_iff]
  simp
  exact or_congr Iff.rfl eq_comm
def digW : ByteArray := ⟨#[48, 49, 50, 51, 52, 53, 54, 55, 56, 57, 97, 98, 99, 100, 101, 102]⟩
theorem digW_cut : ∀ d : Fin 16, (digW.extract d.1 (d.1 + 1)).data = #[hexS true d.1] := by decide +kernel
theorem digU_cut2 : ∀ d : Fin 16, (digU.extract d.1 (d.1 + 1)).data = #[hexS false d.1] := by decide +kernel
theorem run_dig {D : ByteArray} {sm : Bool} (hD : ∀ d : Fin 16, (D.extract d.1 (d.1 + 1)).data = #[hexS sm d.1]) (hs : D.size = 16) (d : Nat) (hd : d < 16) (W : World) : (Instr.sliceAt 9 (.string D) (some (.int .u8 (d : Int))) (some (.int .u8 ((d : Int) + 1))) none).run Tryd.prog W = .ok (.string ⟨#[hexS sm d]⟩) W := by
  have h1 := run_slice_string (P := Tryd.prog) (w := W) 9 D .u8 .u8 (d : Int) ((d : Int) + 1) Tryd.underlying9 (by omega) (by omega) (by rw [hs]; omega)
  have h2 := hD ⟨d, hd⟩
  have e1 : (d : Int).toNat = d := by omega
  have e2 : ((d : Int) + 1).toNat = d + 1 := by omega
  rw [e1, e2] at h1
  rw [run_sliceAt_string (h := Tryd.underlying9)]
  refine Eq.trans h1 ?_
  congr 2
  exact ByteArray.ext h2

set_option maxRecDepth 20000 in
set_option maxHeartbeats 8000000 in
theorem targetEscapes_walk {w : World} (hm : Mx w) (A : Option Addr) (n c : Nat) (l : List UInt8) (h : Rd w 1 A n c (l.map b8)) (small : Bool) :
    Calls Tryd.prog 6 #[.slice A n c, .bool small] w fun e w' => e = .returned (.bool true) ∧ Below w.heap.size w w' := by
  have HLN := Lib.hid h.lenb
  have HM := Lib.hid (fun W (hb : Below w.heap.size w W) => hm.below hb)
  have HB := Lib.hid (begun_any w hm)
  have HH := Lib.hid h
  have hnil := h.nil
  have hle := h.le
  clear hm h
  by_cases hn : (200 : Int) < n
  · have hn' : decide ((200 : Int) < n) = true := decide_eq_true hn
    clear hn
    go_enter Tryd.func6, Tryd.ntmps6
    go_wp2_with fail
    refine HB.out.mono ?_
    rintro e w1 ⟨rfl, hb1⟩
    go_wp2_with fail
    go_ret
    exact ⟨rfl, hb1⟩
  have hn' : decide ((200 : Int) < n) = false := decide_eq_false hn
  by_cases h0 : n = 0
  · subst h0
    clear hn
    go_enter Tryd.func6, Tryd.ntmps6
    go_wp2_with fail
    refine HB.out.mono ?_
    rintro e w1 ⟨rfl, hb1⟩
    go_wp2_with fail
    go_ret
    exact ⟨rfl, hb1⟩
  have h0' : ((n : Int) == 0) = false := by simpa using h0
  have hn2 : n ≤ 200 := by omega
  have hl0 : l ≠ [] := fun e => h0 (by rw [← HLN.out, e]; rfl)
  have HL0 := Lib.hid hl0
  clear hn h0 hl0
  go_enter Tryd.func6, Tryd.ntmps6
  go_wp2_with fail
  refine HB.out.mono ?_
  rintro e w1 ⟨rfl, hb1⟩
  go_upto_if 21 with fail
  go_cut [5] from 22 to 22 (fun z wx => ∃ D : ByteArray, z = .string D ∧ Hid (∀ d : Nat, d < 16 → ∀ W, (Instr.sliceAt 9 (.string D) (some (.int .u8 (d : Int))) (some (.int .u8 ((d : Int) + 1))) none).run Tryd.prog W = .ok (.string ⟨#[hexS small d]⟩) W) ∧ w1 = wx)
  case first =>
    cases small
    · go_wp2_with fail
      go_meet
      exact ⟨_, rfl, run_dig digU_cut2 rfl, rfl⟩
    · go_wp2_with fail
      go_meet
      exact ⟨_, rfl, run_dig digW_cut rfl, rfl⟩
  case rest =>
    obtain ⟨D, rfl, hD, rfl⟩ := hcut
    go_wp2_with fail
    go_loopw [6, 7, 8] (fun sv zv i wr => ∃ (k : Nat) (o : List UInt8) (z : Bool), k ≤ n ∧ i = .int .i64 k ∧ sv = .string ⟨o.toArray⟩ ∧ zv = .bool z ∧ Hid (o = 47 :: flatA small (l.take k)) ∧ Hid (z = zB (l.take k)) ∧ Below w.heap.size w wr) (fun _ _ i _ => n - (intOf i).toNat)
    case atStart => exact ⟨0, [47], false, by omega, rfl, rfl, rfl, rfl, rfl, hb1⟩
    case round =>
      obtain ⟨k, o, z, hk, rfl, rfl, rfl, hO, hZ, hb⟩ := hrel
      by_cases hkn : k < n
      · have hx : l[k]? = some (l[k]'(by rw [HLN.out]; exact hkn)) := List.getElem?_eq_getElem _
        generalize l[k]'(by rw [HLN.out]; exact hkn) = x at hx
        have hidx := run_index_rd (P := Tryd.prog) (A := A) (n := n) (c := c) eb hnil hle k hkn
        rw [Nat.mul_one] at hidx
        have hce : ∀ nq, (wr.drewN nq).cell? (at_ A k) = some (b8 x) := fun nq => (HH.out.below (below_drewN hb nq)).cell k (b8 x) (by rw [List.getElem?_map, hx]; rfl)
        have hce0 := hce 0
        have hO2 : 47 :: flatA small (l.take (k + 1)) = o ++ [37, hexS small (x.toNat / 16), hexS small (x.toNat % 16)] := by rw [flatA_take small hx, hO.out]; rfl
        have hZ2 : zB (l.take (k + 1)) = (z || x == 0) := by rw [zB_take hx, hZ.out]
        have hso := size_mk o
        have hol : o.length ≤ 100000 := by
          rw [hO.out, List.length_cons, flatA_len, List.length_take, HLN.out]
          omega
        obtain ⟨lo, hlo⟩ : ∃ lo, o.length = lo := ⟨_, rfl⟩
        rw [hlo] at hso hol
        have hx256 := x.toNat_lt
        obtain ⟨p, hpd⟩ : ∃ p, x.toNat / 16 = p := ⟨_, rfl⟩
        obtain ⟨q, hqd⟩ : ∃ q, x.toNat % 16 = q := ⟨_, rfl⟩
        have hx' : (x.toNat : Int) ≤ 255 := by omega
        have a1 : IntKind.u8.wrap ((x.toNat : Int).tdiv 16) = (p : Int) := by rw [IntWalk.u8_quo _ _ (by omega)]; omega
        have a2 : (x.toNat : Int).tmod 16 = (q : Int) := by rw [IntWalk.rem_in _ _ (by omega)]; omega
        have a3 : (x.toNat : Int) / 16 = (p : Int) := by omega
        have a4 : (x.toNat : Int) % 16 = (q : Int) := by omega
        have hp16 : p < 16 := by omega
        have hq16 : q < 16 := by omega
        have a5 : IntKind.u8.wrap ((p : Int) + 1) = (p : Int) + 1 := IntWalk.u8_in _ (by omega)
        have a6 : IntKind.u8.wrap ((q : Int) + 1) = (q : Int) + 1 := IntWalk.u8_in _ (by omega)
        have r1 := hD.out p hp16
        have r2 := hD.out q hq16
        rw [hpd, hqd] at hO2
        have hk0 : (0 : Int) ≤ k := by omega
        have hk' : (k : Int) < n := by omega
        have hp0 : (0 : Int) ≤ p := by omega
        have hq0 : (0 : Int) ≤ q := by omega
        have hp1 : (p : Int) ≤ 15 := by omega
        have hq1 : (q : Int) ≤ 15 := by omega
        have HO2 := Lib.hid hO2
        have HZ2 := Lib.hid hZ2
        have hz0 : ((x.toNat : Int) == 0) = (x == 0) := by
          rw [Bool.eq_iff_iff]
          simp
          constructor
          · intro e
            exact UInt8.toNat_inj.1 (by rw [e]; rfl)
          · intro e
            rw [e]
            rfl
        obtain ⟨t, ht⟩ : ∃ t, (x == 0) = t := ⟨_, rfl⟩
        rw [ht] at hz0 HZ2
        unfold b8 at hce hce0
        clear hx hlo hO2 hZ2 hpd hqd hp16 hq16 hx256 hkn ht hO hZ
        generalize (x.toNat : Int) = X at *
        generalize hexS small p = Hp at *
        generalize hexS small q = Hq at *
        have hb9 := fun nq => below_drewN hb nq
        go_upto_region 13 with fail
        go_quiet (fail)
        have hc1 := hce nq
        have hbq := hb9 nq
        clear hce hb9 hb hce0
        cases z
        · go_wp2_with fail
          go_roundw
          case rel => exact ⟨k + 1, o ++ [37, Hp, Hq], t, by omega, by go_num, by rw [cat4], by first | rfl | (rw [hz0]), HO2.out.symm, by show t = _; rw [HZ2.out]; rfl, hbq⟩
          case measure => simp [intOf]; omega
        · go_wp2_with fail
          go_roundw
          case rel => exact ⟨k + 1, o ++ [37, Hp, Hq], true, by omega, by go_num, by rw [cat4], rfl, HO2.out.symm, by show true = _; rw [HZ2.out]; rfl, hbq⟩
          case measure => simp [intOf]; omega
      · obtain rfl : k = n := by omega
        have hfin : l.take k = l := List.take_of_length_le (by rw [HLN.out]; exact Nat.le_refl _)
        have hpz := flat_parse small HL0.out
        have hO2 : o = 47 :: flatA small l := by rw [hO.out, hfin]
        have hZ2 : z = zB l := by rw [hZ.out, hfin]
        rw [← hO2, ← hZ2] at hpz
        have hol : o.length ≤ 100000 := by
          rw [hO2, List.length_cons, flatA_len, HLN.out]
          omega
        have HP := Lib.hid (Parse_any o (by omega) wr (HM.out wr hb))
        unfold Parsed at HP
        rw [hpz] at HP
        clear hkn hfin hpz hO2 hZ2 hO hZ hol
        go_wp2_with fail
        refine HP.out.mono ?_
        rintro e w2 ⟨hbl2, A', n', c', B', m', d', rfl, hoA, hoB⟩
        have hb2 := hb.trans (hbl2.mono hb.size)
        clear HP hbl2
        cases z
        · simp only [Bool.false_eq_true, if_false] at hoA hoB ⊢
          obtain rfl : 1 = n' := by have h1 := hoA.rd.len; simp at h1; exact h1
          obtain rfl : 0 = m' := by have h1 := hoB.rd.len; simp [prL] at h1; omega
          go_upto_region 16 with (first
            | (refine wpList_alloc_zero rfl _ rfl tgZ zero_tg ?_; intro w3 hg3 hb3 hz3; clear hz3)
            | (refine wpList_store_all rfl _ _ _ rfl w2.heap.size rfl _ tgZ (tgA A' 1 c' B' 0 d') rfl hg3 size_tg rfl tg_one ?_; intro w4 hg4 hgr4 hz4; clear hz4))
          have hb24 : Below w2.heap.size w2 w4 := hb3.grown hgr4 hb3.size (fun g hg => by obtain rfl := Option.some.inj hg; exact Nat.le_refl _)
          have hb4 := hb2.trans (hb24.mono hb2.size)
          have hS4 := Rd.below hoA.rd hb24
          have hcs := cell_tg hg4
          obtain ⟨hc0, hc1⟩ := hcs
          have hidx := run_index_rd (P := Tryd.prog) (A := A') (n := 1) (c := c') es hoA.rd.nil hoA.rd.le 0 (by omega)
          rw [Nat.mul_one, show ((0 : Nat) : Int) = 0 from rfl] at hidx
          have hcell := Rd.cell hS4 0 (strV l) rfl
          unfold strV at hcell
          have hst : ∀ q, (convert 40 9 (.slice A k c)).run Tryd.prog (w4.drewN q) = .ok (.string ⟨l.toArray⟩) (w4.drewN q) := fun q => str_rd (HH.out.below (below_drewN hb4 q))
          clear hg3 hb3 hgr4 hg4 hb24 hoA hoB hb2 hb hS4
          go_upto_region 18 with fail
          go_quiet (fail)
          have hb9 := below_drewN hb4 nq
          go_wp2_with fail
          go_ret
          exact ⟨rfl, hb9⟩
        · simp only [if_true] at hoA hoB ⊢
          obtain rfl : 0 = n' := by have h1 := hoA.rd.len; simp at h1; omega
          go_upto_region 16 with (first
            | (refine wpList_alloc_zero rfl _ rfl tgZ zero_tg ?_; intro w3 hg3 hb3 hz3; clear hz3)
            | (refine wpList_store_all rfl _ _ _ rfl w2.heap.size rfl _ tgZ (tgA A' 0 c' B' m' d') rfl hg3 size_tg rfl tg_one ?_; intro w4 hg4 hgr4 hz4; clear hz4))
          have hb24 : Below w2.heap.size w2 w4 := hb3.grown hgr4 hb3.size (fun g hg => by obtain rfl := Option.some.inj hg; exact Nat.le_refl _)
          have hb4 := hb2.trans (hb24.mono hb2.size)
          have hcs := cell_tg hg4
          obtain ⟨hc0, hc1⟩ := hcs
          clear hg3 hb3 hgr4 hg4 hb24 hoA hoB hb2 hb
          go_wp2_with fail
          go_ret
          exact ⟨rfl, hb4⟩

end Go.Proofs.YteldghiejmpknaaDoor
