/-
  Joined texts of this claim's author (each began as a text of its own; each says itself what it holds).
-/
import Derived.Test.YtaopohacelmglaaDoorG04
import Derived.Test.YtaopohacelmglaaDoorG02
import Derived.IntWalk
import Derived.Test.YtaopohacelmglaaDoorG09
import Derived.Test.YtaopohacelmglaaDoorG13
import Derived.SliceStrings
import Derived.Test.YtaopohacelmglaaDoorG00
set_option linter.unusedVariables false
set_option linter.unusedSimpArgs false

/-
  Package names: the document's Hex.
-/
namespace Go.Proofs.YtaopohacelmglaaDoor.Nm
open Go.RowKit

/-- The sixteen digits. -/
def digB : ByteArray := ⟨#[48, 49, 50, 51, 52, 53, 54, 55, 56, 57, 97, 98, 99, 100, 101, 102]⟩
theorem dig_cut : ∀ d : Fin 16, (digB.extract d.1 (d.1 + 1)).data = #[dg d.1] := by decide +kernel
theorem run_dig8 (d : Nat) (hd : d < 16) (W : World) : (Instr.sliceAt 9 (.string ⟨#[48, 49, 50, 51, 52, 53, 54, 55, 56, 57, 97, 98, 99, 100, 101, 102]⟩) (some (.int .u8 (d : Int))) (some (.int .u8 ((d : Int) + 1))) none).run Tryd.prog W = .ok (.string ⟨#[dg d]⟩) W := by
  have h1 := run_slice_string (P := Tryd.prog) (w := W) 9 digB .u8 .u8 (d : Int) ((d : Int) + 1) Tryd.underlying9 (by omega) (by omega) (by show (d : Int) + 1 ≤ ((16 : Nat) : Int); omega)
  have h2 := dig_cut ⟨d, hd⟩
  have e1 : (d : Int).toNat = d := by omega
  have e2 : ((d : Int) + 1).toNat = d + 1 := by omega
  rw [e1, e2] at h1
  rw [run_sliceAt_string (h := Tryd.underlying9)]
  exact Eq.trans h1 (by rw [show digB.extract d (d + 1) = (⟨#[dg d]⟩ : ByteArray) from ByteArray.ext h2])
theorem cat2 (l : List UInt8) (x y : UInt8) : ((⟨l.toArray⟩ : ByteArray) ++ ⟨#[x]⟩) ++ ⟨#[y]⟩ = ⟨(l ++ [x, y]).toArray⟩ := by
  apply ByteArray.ext
  apply Array.ext'
  simp

theorem below_drewN {B : Nat} {w w' : World} (h : Below B w w') (n : Nat) : Below B w (w'.drewN n) := ⟨h.os, h.tape, h.output, h.size, h.block⟩
set_option maxRecDepth 20000 in
set_option maxHeartbeats 2000000 in
theorem RHex_any (A : Option Addr) (n c : Nat) (l : List UInt8) (w : World) (h : Rd w 1 A n c (l.map b8)) (hn : n ≤ 1073741824) :
    Calls Tryd.prog 16 #[.slice A n c] w fun e w' => e = .returned (.string ⟨(hexL l).toArray⟩) ∧ Below w.heap.size w w' := by
  have hln := h.lenb
  go_enter Tryd.func16, Tryd.ntmps16
  go_wp2_with fail
  go_loopw [3, 4] (fun s i wr => ∃ k : Nat, k ≤ n ∧ i = .int .i64 k ∧ s = .string ⟨(hexL (l.take k)).toArray⟩ ∧ Below w.heap.size w wr) (fun _ i _ => n - (intOf i).toNat)
  case atStart => exact ⟨0, by omega, rfl, rfl, Below.refl _ _⟩
  case round =>
    obtain ⟨k, hk, rfl, rfl, hb⟩ := hrel
    by_cases hkn : k < n
    · have hidx := run_index_rd (P := Tryd.prog) (A := A) (n := n) (c := c) eb h.nil h.le k hkn
      rw [Nat.mul_one] at hidx
      have hce := (h.below hb).cell k (b8 (l[k]'(by omega))) (by rw [List.getElem?_map, List.getElem?_eq_getElem (by omega)]; rfl)
      have hstep := hexL_take l k (by omega)
      generalize l[k]'(by omega) = x at hce hstep
      have hx := x.toNat_lt
      unfold hexB at hstep
      obtain ⟨p, hp⟩ : ∃ p, x.toNat / 16 = p := ⟨_, rfl⟩
      obtain ⟨q, hq⟩ : ∃ q, x.toNat % 16 = q := ⟨_, rfl⟩
      have hx' : (x.toNat : Int) ≤ 255 := by omega
      have a1 : IntKind.u8.wrap ((x.toNat : Int).tdiv 16) = (p : Int) := by rw [IntWalk.u8_quo _ _ (by omega)]; omega
      have a2 : (x.toNat : Int).tmod 16 = (q : Int) := by rw [IntWalk.rem_in _ _ (by omega)]; omega
      have a3 : (x.toNat : Int) / 16 = (p : Int) := by omega
      have a4 : (x.toNat : Int) % 16 = (q : Int) := by omega
      have hp16 : p < 16 := by omega
      have hq16 : q < 16 := by omega
      have a5 : IntKind.u8.wrap ((p : Int) + 1) = (p : Int) + 1 := IntWalk.u8_in _ (by omega)
      have a6 : IntKind.u8.wrap ((q : Int) + 1) = (q : Int) + 1 := IntWalk.u8_in _ (by omega)
      have r1 := run_dig8 p hp16
      have r2 := run_dig8 q hq16
      rw [hp, hq] at hstep
      have HS := Lib.hid hstep
      have hL : (hexL (l.take k)).length ≤ 2147483648 := by rw [hexL_length, List.length_take]; omega
      have HL := Lib.hid hL
      generalize hexL (l.take k) = T at *
      unfold b8 at hce
      have hk0 : (0 : Int) ≤ k := by omega
      have hkn' : (k : Int) < n := by omega
      have hp0 : (0 : Int) ≤ p := by omega
      have hq0 : (0 : Int) ≤ q := by omega
      have hp1 : (p : Int) ≤ 15 := by omega
      have hq1 : (q : Int) ≤ 15 := by omega
      clear hstep hp hq hp16 hq16 hx
      generalize (x.toNat : Int) = X at *
      go_wp2_with fail
      go_quiet (fail)
      go_wp2_with fail
      go_roundw
      case rel => exact ⟨k + 1, by omega, by go_num, by rw [HS.out, cat2], below_drewN hb nq⟩
      case measure => simp [intOf]; omega
    · have e : k = n := by omega
      subst e
      rw [List.take_of_length_le (by omega)]
      go_wp2_with fail
      go_ret
      exact ⟨rfl, hb⟩

end Go.Proofs.YtaopohacelmglaaDoor.Nm

/-
  The walk of RouteBare.
-/
namespace Go.Proofs.YtaopohacelmglaaDoor
open Go.RowKit

theorem pair_hex (l : Bs) : Nm.pairL (Nm.hexL l) = l ∧ (∀ x ∈ Nm.hexL l, 0 ≤ Nm.halfI (x.toNat : Int)) ∧ (Nm.hexL l).length % 2 = 0 := by
  have h1 := Nm.unhex_hex l
  have h2 := Nm.unhexL_pair (Nm.hexL l)
  by_cases h : (∀ x ∈ Nm.hexL l, 0 ≤ Nm.halfI (x.toNat : Int)) ∧ (Nm.hexL l).length % 2 = 0
  · rw [if_pos h, h1] at h2
    exact ⟨(Option.some.inj h2).symm, h.1, h.2⟩
  · rw [if_neg h, h1] at h2
    cases h2
theorem uxR_hex (l : Bs) : Nm.uxR ⟨(Nm.hexL l).toArray⟩ = (l, 0) := by
  obtain ⟨h1, h2, h3⟩ := pair_hex l
  have hs : (⟨(Nm.hexL l).toArray⟩ : ByteArray).size = (Nm.hexL l).length := by simp [ByteArray.size]
  rw [Nm.uxR_yes]
  · show (Nm.pairL (Nm.hexL l), (0 : Int)) = _
    rw [h1]
  · refine ⟨fun k hk => ?_, by rw [hs]; exact h3⟩
    exact h2 _ (List.getElem_mem (l := Nm.hexL l) (n := k) (by rw [← hs]; exact hk))
theorem tok_bare (b : Bs) : tokF [(autW, bearW ++ Nm.hexL b)] = if b = [] then [0] else b := by
  have hg : Fl.getF [(autW, bearW ++ Nm.hexL b)] autW = (bearW ++ Nm.hexL b, 0) := by
    simp [Fl.getF, Fl.cntF, Fl.isF]
  unfold tokF
  rw [hg]
  rw [if_neg (show ¬ ((0 : Int) = 5) by decide)]
  unfold tokV
  have hp : Lib.hasPrefix (bearW ++ Nm.hexL b) bearW = true := by
    rw [bear_take, List.take_left' (by rfl)]
    simp
  have hd : digF (bearW ++ Nm.hexL b) = ⟨(Nm.hexL b).toArray⟩ := by
    rw [dig_drop hp, List.drop_left' (by rfl)]
  rw [hd, uxR_hex]
  by_cases h : b = []
  · subst h
    rw [if_neg (by simp), if_pos rfl]
    rfl
  · rw [if_pos ⟨rfl, hp, rfl, h⟩, if_neg h]
    rfl
def logR : Road := ⟨[71, 69, 84], [97, 47, 108, 111, 103], 16, false, false, false⟩
theorem log_parts : logR.parts = [[97], [108, 111, 103]] := by decide +kernel
theorem log_to : toR [71, 69, 84] [47, 97, 47, 108, 111, 103] = (some (logR, opZ), 0) := by
  rw [toR_of (parse_path (P := [[97], [108, 111, 103]]) (by decide +kernel) (by decide +kernel) (by unfold Tg.GoodP; decide))]
  refine find_hit (r := logR) ?_ (by kernel_rfl)
  unfold sayR
  rw [log_parts, fill_cons, fill_plain (by decide) (by decide) (by decide), Option.bind_some, fill_cons, fill_plain (by decide) (by decide) (by decide)]
  exact ask_nil _

theorem tok_none : tokF [] = [] := by
  unfold tokF
  rw [show (Fl.getF [] autW) = ([], 5) from rfl]
  exact if_pos rfl
section
variable {ops : Array Oper} {rest : List Oper} {o : Oper} {a : Act} {Q : Exit → Act → World → Prop} {w : World}
theorem fill_fd (x y : Bs) : Instr.fill (fun i => some (i * 2, 2)) ((Array.range (1 * 2)).map ((Value.agg (Fl.fdA [] [])).cells[· % (Value.agg (Fl.fdA [] [])).cells.size]!)) [(0, .agg (Fl.fdA x y))] = some (Fl.fdA x y) := by kernel_rfl
theorem wpList_litF {x : Operand} {u v : Bs} (hgd : o.guard = none) (ho : o.op = .buildSlice 22 1 #[(0, x)]) (hx : a.eval x = .agg (Fl.fdA u v))
    (k : ∀ w', w' = w.alloc (.cells (Fl.fdA u v) 41) → wpList Tryd.prog ops Q rest (a.put o.dst (.slice (some ⟨w.heap.size, 0, none⟩) 1 1)) w') : wpList Tryd.prog ops Q (o :: rest) a w := by
  obtain ⟨ie, hie, hz, hs, _⟩ := Fl.ef.info
  refine wpList_buildSlice hgd 22 41 1 _ ho (Fl.fdA u v) ie (.agg (Fl.fdA [] [])) Tryd.underlying22 hie hz (by rw [hs]; decide) (by rw [hs]; decide) ?_ (k _ rfl)
  rw [hs]
  have e : ((#[(0, x)] : Array (Nat × Operand)).map fun (i, x) => (i, a.eval x)).toList = [(0, Value.agg (Fl.fdA u v))] := by
    simp [hx]
  rw [e]
  exact fill_fd u v
theorem litF_rd {w w' : World} {u v : Bs} {t : TypeId} (h : w' = w.alloc (.cells (Fl.fdA u v) t)) : Fl.Fds w' (some ⟨w.heap.size, 0, none⟩) 1 1 [(u, v)] := by
  rw [h]
  exact (Own.new (e := t) (size := 2) (base := w.heap.size) w (Fl.fdA u v) (0, 0) 1 1 _ (Nat.le_refl _) (Nat.le_refl _) (by unfold maxLen; omega) rfl (Nat.le_refl 2) (fun j y hy => by
    match j, hy with
    | 0, hy => exact hy
    | 1, hy => exact hy) (fun j _ h => by omega)).rd
theorem litF_below {w0 w w' : World} {c0 : Array Value} {B : Nat} {t : TypeId} (h : w' = w.alloc (.cells c0 t)) (hb : Below B w0 w) (hB : B ≤ w.heap.size) : Below B w0 w' := by
  rw [h]
  exact hb.alloc hB _
end
theorem cat_mk (x y : Bs) : (⟨x.toArray⟩ : ByteArray) ++ ⟨y.toArray⟩ = ⟨(x ++ y).toArray⟩ := by
  apply ByteArray.ext
  apply Array.ext'
  simp
theorem get_one (v : Bs) : Fl.getF [(autW, v)] autW = (v, 0) := by simp [Fl.getF, Fl.cntF, Fl.isF]

set_option maxRecDepth 20000 in
set_option maxHeartbeats 8000000 in
theorem routeBare_walk {w : World} (hm : Mx w) (A : Option Addr) (n c : Nat) (l : List UInt8) (h : Rd w 1 A n c (l.map b8)) :
    Calls Tryd.prog 5 #[.slice A n c] w fun e w' => e = .returned (.bool true) ∧ Below w.heap.size w w' := by
  have HM := Lib.hid (fun W (hb : Below w.heap.size w W) => hm.below hb)
  have HR := Lib.hid (fun W (hb : Below w.heap.size w W) => h.below hb)
  have hln := h.lenb
  have hmx := Nat.le_trans h.le (Nat.le_trans h.max (show maxLen ≤ 9223372036854775807 by decide))
  clear hm h
  go_enter Tryd.func5, Tryd.ntmps5
  go_wp2_with fail
  refine (begun_any _ (HM.out _ (Below.refl _ _))).mono ?_
  rintro e w1 ⟨rfl, hb1⟩
  by_cases hn : (500 : Int) < n
  · have hn' : decide ((500 : Int) < n) = true := decide_eq_true hn
    clear hn
    go_wp2_with fail
    go_ret
    exact ⟨rfl, hb1⟩
  have hn' : decide ((500 : Int) < n) = false := decide_eq_false hn
  have hn5 : n ≤ 500 := by omega
  have hxl := Nm.hexL_length l
  have HX := Lib.hid (Nm.RHex_any A n c l w1 (HR.out _ hb1) (by omega))
  obtain ⟨V, hV⟩ : ∃ V, bearW ++ Nm.hexL l = V := ⟨_, rfl⟩
  have hcat : (⟨#[66, 101, 97, 114, 101, 114, 32]⟩ : ByteArray) ++ ⟨(Nm.hexL l).toArray⟩ = ⟨V.toArray⟩ := by
    rw [← hV]
    exact cat_mk bearW (Nm.hexL l)
  have hVl : V.length ≤ 1007 := by
    rw [← hV, List.length_append, hxl]
    show 7 + _ ≤ _
    omega
  have htk := tok_bare l
  rw [hV] at htk
  have hs1 : (⟨#[66, 101, 97, 114, 101, 114, 32]⟩ : ByteArray).size = 7 := rfl
  have hs2 : (⟨(Nm.hexL l).toArray⟩ : ByteArray).size = 2 * l.length := by rw [size_mk, hxl]
  have HTK := Lib.hid htk
  have hll : l.length ≤ 500 := by omega
  clear hn htk hV hxl hmx
  go_wp2_with fail
  refine HX.out.mono ?_
  rintro e w2 ⟨rfl, hbl2⟩
  have hb2 := hb1.trans (hbl2.mono hb1.size)
  clear hbl2 HX
  go_wp2_with (refine wpList_litF (u := autW) (v := V) rfl rfl rfl ?_; intro w3 hw3; have hf3 := litF_rd hw3; have hb3 := litF_below hw3 hb2 hb2.size; clear hw3)
  clear hcat hs1 hs2
  have HT := Lib.hid (To_hit (w := w3) ⟨[71, 69, 84], [47, 97, 47, 108, 111, 103], some ⟨w2.heap.size, 0, none⟩, 1, 1, [(autW, V)], none, 0, 0, [], false⟩ ⟨hf3, Rd.nil_ _ _, by show 1 ≤ 1000; omega, by show (Fl.getF [(autW, V)] autW).1.length ≤ _; rw [get_one]; show V.length ≤ _; omega, Nat.zero_le _, by show 6 ≤ 4096; omega⟩ (HM.out _ hb3) log_to)
  dsimp only at HT
  rw [HTK.out] at HT
  refine HT.out.mono ?_
  rintro e w4 ⟨bA, bn, bc, tA, tn, tc, rfl, hok, _, ht4, hbl4⟩
  have hb4 := hb3.trans (hbl4.mono hb3.size)
  clear hbl4 hb3 hf3 HT
  go_upto_region 6 with (first
    | (refine wpList_alloc_zero rfl _ rfl (opA opvZ) zero_op ?_; intro v4 hv4 bv4 zv4; clear zv4)
    | (refine wpList_store_all rfl _ _ _ rfl w4.heap.size rfl _ _ _ rfl hv4 (size_op hok) ((opA_size opZ_len).trans (opA_size hok).symm) opA_one ?_; intro u4 hu4 gu4 zu4; clear zu4))
  have bu4 : Below w4.heap.size w4 u4 := bv4.grown gu4 bv4.size (fun g hg => by obtain rfl := Option.some.inj hg; exact Nat.le_refl _)
  clear hv4 bv4 gu4
  have hb5 := hb4.trans (bu4.mono hb4.size)
  have hX5 : OpB u4 w4.heap.size ⟨(logR.d : Int), opZ, bA, bn, bc, tA, tn, tc⟩ := ⟨hok, hu4⟩
  have ht5 := ht4.below bu4
  clear hb4 bu4 hu4 ht4
  have H2 := Lib.hid (To_hit (w := u4) (rq0 [71, 69, 84] [47, 97, 47, 108, 111, 103]) (rq0_ok (by decide)) (HM.out _ hb5) log_to)
  go_wp2_with fail
  refine H2.out.mono ?_
  rintro e w6 ⟨bA2, bn2, bc2, tA2, tn2, tc2, rfl, hok2, _, ht6, hbl6⟩
  rw [show (rq0 [71, 69, 84] [47, 97, 47, 108, 111, 103]).fs = [] from rfl, tok_none] at ht6
  obtain rfl : 0 = tn2 := by have := ht6.lenb; simpa using this
  have hb6 := hb5.trans (hbl6.mono hb5.size)
  have hX6 := hX5.below hbl6
  have ht6b := ht5.below hbl6
  clear hbl6 hb5 hX5 ht5 ht6 H2
  go_upto_region 7 with (first
    | (refine wpList_alloc_zero rfl _ rfl (opA opvZ) zero_op ?_; intro v6 hv6 bv6 zv6; clear zv6)
    | (refine wpList_store_all rfl _ _ _ rfl w6.heap.size rfl _ _ _ rfl hv6 (size_op hok2) ((opA_size opZ_len).trans (opA_size hok2).symm) opA_one ?_; intro u6 hu6 gu6 zu6; clear zu6))
  have bu6 : Below w6.heap.size w6 u6 := bv6.grown gu6 bv6.size (fun g hg => by obtain rfl := Option.some.inj hg; exact Nat.le_refl _)
  clear hv6 bv6 gu6
  have hb7 := hb6.trans (bu6.mono hb6.size)
  have hX7 := hX6.below bu6
  have hY7 : OpB u6 w6.heap.size ⟨(logR.d : Int), opZ, bA2, bn2, bc2, tA2, 0, tc2⟩ := ⟨hok2, hu6⟩
  have ht7 := ht6b.below bu6
  have hcv := run_str_rd (P := Tryd.prog) (dst := 9) eb Tryd.underlying5 Tryd.underlying9 (HR.out _ hb7)
  have hct := run_str_rd (P := Tryd.prog) (dst := 9) eb Tryd.underlying5 Tryd.underlying9 ht7.rd
  have c1 : u6.cell? ⟨w4.heap.size, 38, none⟩ = some (.slice tA tn tc) := hX7.cTok
  have c2 : u6.cell? ⟨w6.heap.size, 38, none⟩ = some (.slice tA2 0 tc2) := hY7.cTok
  clear hb6 hX6 ht6b bu6 hu6 hX7 hY7 ht7
  by_cases h0 : l = []
  · subst h0
    obtain rfl : 0 = n := by simpa using hln
    rw [if_pos rfl] at hct
    go_wp2_with fail
    go_ret
    exact ⟨rfl, hb7⟩
  · rw [if_neg h0] at hct
    have hn0 : ((n : Int) == 0) = false := by
      rw [beq_eq_false_iff_ne]
      have : l.length ≠ 0 := fun e => h0 (List.eq_nil_of_length_eq_zero e)
      omega
    clear h0
    go_wp2_with fail
    go_ret
    exact ⟨rfl, hb7⟩

end Go.Proofs.YtaopohacelmglaaDoor

/-
  Slices of strings and of fields that came in, with the sizes of what they hold.
-/
namespace Go.Proofs.YtaopohacelmglaaDoor
open Go.ChangeShapes Go.WideShapes Go.ChangeAt Go.RowKit Go.Deep

def SsAny (w : World) (A : Option Addr) (n c : Nat) (P : List Bs) : Prop := Tg.Ss w A n c P ∧ ∀ (j : Nat) p, P[j]? = some p → p.length ≤ 9223372036854775807
def FsAny (w : World) (A : Option Addr) (n c : Nat) (fs : List Fl.Fd) : Prop := Fl.Fds w A n c fs ∧ ∀ (j : Nat) f, fs[j]? = some f → f.1.length ≤ 9223372036854775807 ∧ f.2.length ≤ 9223372036854775807
theorem rd_strs {H : Type} {enc : TypeId × Value → H} {w : World} {a : Option Addr} {len cap : Nat} {d : DataW H} {p : List MemPlace}
    (h : DataW.Trod enc Tryd.prog w 0 (fun _ => true) true 39 (.slice a len cap) d p) : ∃ P : List Bs, SsAny w a len cap P := by
  obtain ⟨fuel, hf⟩ := h
  rcases open_strings Tryd.underlying39 Tryd.underlying9 cells_strq hf with ⟨hcs, _⟩ | ⟨x, l, c, ss, hcs, _, hl, hm, hsl, _, hel, hsz⟩
  · simp [Value.cells] at hcs
    obtain ⟨rfl, rfl, rfl⟩ := hcs
    exact ⟨[], Rd.nil_ w 1, fun j p h => by simp at h⟩
  · simp [Value.cells] at hcs
    obtain ⟨rfl, rfl, rfl⟩ := hcs
    have hsl' : ss.length = cap := by simpa using hsl
    refine ⟨(ss.take len).map (·.data.toList), ⟨by simp; omega, hl, hm, (fun h => by cases h), fun j v hv => ?_⟩, fun j p hp => ?_⟩
    · rw [List.map_map, List.getElem?_map] at hv
      obtain ⟨s, hs, rfl⟩ := Option.map_eq_some_iff.1 hv
      rw [List.getElem?_take] at hs
      split at hs
      · have hj := (List.getElem?_eq_some_iff.1 hs).1
        have := hel j hj
        rw [at_some, this]
        rw [List.getD_eq_getElem?_getD, hs]
        cases s
        simp [Tg.strV]
      · cases hs
    · rw [List.getElem?_map] at hp
      obtain ⟨s, hs, rfl⟩ := Option.map_eq_some_iff.1 hp
      rw [List.getElem?_take] at hs
      split at hs
      · exact len_max (hsz s (List.mem_of_getElem? hs))
      · cases hs
theorem rd_flds {H : Type} {enc : TypeId × Value → H} {w : World} {a : Option Addr} {len cap : Nat} {d : DataW H} {p : List MemPlace}
    (h : DataW.Trod enc Tryd.prog w 0 (fun _ => true) true 22 (.slice a len cap) d p) : ∃ fs : List Fl.Fd, FsAny w a len cap fs := by
  obtain ⟨fuel, hf⟩ := h
  obtain ⟨A, n, c, fs, hcs, h1, h2⟩ := flds_of hf
  simp [Value.cells] at hcs
  obtain ⟨rfl, rfl, rfl⟩ := hcs
  exact ⟨fs, h1, h2⟩

end Go.Proofs.YtaopohacelmglaaDoor

/-
  The walk of RouteTokens.
-/
namespace Go.Proofs.YtaopohacelmglaaDoor
open Go.RowKit

theorem fdL_one : ∀ (l : List Fl.Fd), ∀ u ∈ Fl.fdL l, u.oneCell' = true
  | [], u, hu => by cases hu
  | f :: l, u, hu => by
    rcases List.mem_cons.1 hu with rfl | hu
    · rfl
    · rcases List.mem_cons.1 hu with rfl | hu
      · rfl
      · exact fdL_one l u hu
theorem fdL_app : ∀ a b : List Fl.Fd, Fl.fdL (a ++ b) = Fl.fdL a ++ Fl.fdL b
  | [], b => rfl
  | f :: a, b => by simp only [List.cons_append, Fl.fdL, fdL_app a b]
def autL (P : List Bs) : List Fl.Fd := P.map fun p => (autW, p)
theorem autL_snoc {P : List Bs} {k : Nat} {p : Bs} (hx : P[k]? = some p) : autL (P.take (k + 1)) = autL (P.take k) ++ [(autW, p)] := by
  obtain ⟨h1, e1⟩ := List.getElem?_eq_some_iff.1 hx
  rw [List.take_succ_eq_append_getElem h1, e1]
  simp [autL]
def headR : Road := ⟨[71, 69, 84], [97, 47, 104, 101, 97, 100], 17, false, false, false⟩
theorem head_parts : headR.parts = [[97], [104, 101, 97, 100]] := by decide +kernel
theorem head_to : toR [71, 69, 84] [47, 97, 47, 104, 101, 97, 100] = (some (headR, opZ), 0) := by
  rw [toR_of (parse_path (P := [[97], [104, 101, 97, 100]]) (by decide +kernel) (by decide +kernel) (by unfold Tg.GoodP; decide))]
  refine find_hit (r := headR) ?_ (by kernel_rfl)
  unfold sayR
  rw [head_parts, fill_cons, fill_plain (by decide) (by decide) (by decide), Option.bind_some, fill_cons, fill_plain (by decide) (by decide) (by decide)]
  exact ask_nil _
def rqZ2 : Req := ⟨[], [], none, 0, 0, [], none, 0, 0, [], false⟩
theorem zero_rq2 : (Tryd.prog.info? 25).map (·.zero) = some (some (.agg (rqA rqZ2))) := by kernel_rfl
theorem size_rq2 (r : Req) : (Tryd.prog.info? 25).map (·.size) = some (rqA r).size := by
  rw [show (rqA r).size = 5 from rfl]
  kernel_rfl
theorem rq_one2 (r : Req) : ∀ v ∈ (rqA r).toList, v.oneCell' = true := by
  intro v hv
  simp only [rqA, List.mem_cons, List.not_mem_nil, or_false] at hv
  rcases hv with rfl | rfl | rfl | rfl | rfl <;> rfl

set_option maxRecDepth 20000 in
set_option maxHeartbeats 8000000 in
theorem routeTokens_walk {w : World} (hm : Mx w) (A : Option Addr) (n c : Nat) (P : List Bs) (hP : SsAny w A n c P) (B : Option Addr) (m d : Nat) (fs : List Fl.Fd) (hF : FsAny w B m d fs) :
    Calls Tryd.prog 4 #[.slice A n c, .slice B m d] w fun e w' => e = .returned (.bool true) ∧ Below w.heap.size w w' := by
  have HM := Lib.hid (fun W (hb : Below w.heap.size w W) => hm.below hb)
  have HP := Lib.hid (fun W (hb : Below w.heap.size w W) => (Rd.below hP.1 hb : Tg.Ss W A n c P))
  have HF := Lib.hid (fun W (hb : Below w.heap.size w W) => hF.1.below hb)
  have HPZ := Lib.hid hP.2
  have HFZ := Lib.hid hF.2
  have hPn : P.length = n := by have := hP.1.len; simpa using this
  have HPN := Lib.hid hPn
  have hmxn := Nat.le_trans (Rd.le hP.1) (Nat.le_trans (Rd.max hP.1) (show maxLen ≤ 9223372036854775807 by decide))
  have hmxm := Nat.le_trans (Rd.le hF.1) (Nat.le_trans (Rd.max hF.1) (show maxLen ≤ 9223372036854775807 by decide))
  have hnil := Rd.nil hP.1
  have hle := Rd.le hP.1
  clear hm hP hF hPn
  go_enter Tryd.func4, Tryd.ntmps4
  go_wp2_with fail
  refine (begun_any _ (HM.out _ (Below.refl _ _))).mono ?_
  rintro e w1 ⟨rfl, hb1⟩
  by_cases hn : (5 : Int) < n
  · have hn' : decide ((5 : Int) < n) = true := decide_eq_true hn
    clear hn
    go_wp2_with fail
    go_ret
    exact ⟨rfl, hb1⟩
  have hn' : decide ((5 : Int) < n) = false := decide_eq_false hn
  by_cases hmm : (5 : Int) < m
  · have hm' : decide ((5 : Int) < m) = true := decide_eq_true hmm
    clear hn hmm
    go_wp2_with fail
    go_ret
    exact ⟨rfl, hb1⟩
  have hm' : decide ((5 : Int) < m) = false := decide_eq_false hmm
  have hn5 : n ≤ 5 := by omega
  have hm5 : m ≤ 5 := by omega
  clear hn hmm
  go_wp2_with fail
  clear hn' hm' hmxn hmxm
  go_loopw [5, 6] (fun lv iv wr => ∃ (k : Nat) (A1 : Option Addr) (c1 : Nat), k ≤ n ∧ iv = .int .i64 k ∧ lv = .slice A1 k c1 ∧ Own wr w.heap.size 41 2 A1 k c1 (Fl.fdL (autL (P.take k))) ∧ Below w.heap.size w wr) (fun _ iv _ => n - (intOf iv).toNat)
  case atStart => exact ⟨0, none, 0, by omega, rfl, rfl, Own.nil_ _ _ _ _, hb1⟩
  case round =>
    obtain ⟨k, A1, c1, hk, rfl, rfl, ho, hb⟩ := hrel
    clear hb1
    have hs := hb.size
    by_cases hkn : k < n
    · have hx : P[k]? = some (P[k]'(by rw [HPN.out]; exact hkn)) := List.getElem?_eq_getElem _
      generalize P[k]'(by rw [HPN.out]; exact hkn) = p at hx
      have hidx := run_index_rd (P := Tryd.prog) (A := A) (n := n) (c := c) Tg.es hnil hle k hkn
      rw [Nat.mul_one] at hidx
      have hcx := Rd.cell (HP.out wr hb) k (Tg.strV p) (by rw [List.getElem?_map, hx]; rfl)
      unfold Tg.strV at hcx
      have hk' : (k : Int) < n := by omega
      have HS := Lib.hid (autL_snoc hx)
      clear hx hkn
      go_wp2_with (first
        | (refine wpList_litF (u := autW) (v := p) rfl rfl rfl ?_; intro w5 hw5; have hr5 := Tg.litP_own hw5 ho; have hl5 := litF_rd hw5; have hb5 := litF_below hw5 hb hs; have hs5 := hb5.size; clear hw5)
        | (at_builtin; refine wpList_app rfl _ _ rfl Fl.ef hr5 rfl hl5 rfl (fdL_one _) (by omega) (by unfold maxLen; omega) hs5 ?_; intro A6 c6 w6 ho6 hg6 hq6; have hb6 := below_apps hb5 (Nat.le_refl _) hr5 hg6))
      rw [← fdL_app, ← HS.out] at ho6
      go_roundw
      case rel => exact ⟨k + 1, A6, c6, by omega, by go_num, rfl, ho6, hb6⟩
      case measure => simp [intOf]; omega
    · obtain rfl : k = n := by omega
      have htk : P.take k = P := List.take_of_length_le (by rw [HPN.out]; exact Nat.le_refl _)
      rw [htk] at ho
      clear hkn htk
      go_upto_region 11 with (at_builtin; refine wpList_app rfl _ _ rfl Fl.ef ho rfl (HF.out _ hb) rfl (fdL_one _) (by omega) (by unfold maxLen; omega) hs ?_; intro A6 c6 w6 ho6 hg6 hq6; have hb6 := below_apps hb (Nat.le_refl _) ho hg6)
      rw [← fdL_app] at ho6
      clear hg6 hq6 ho hb
      have hLz : ∀ (j : Nat) f, (autL P ++ fs)[j]? = some f → f.1.length ≤ 9223372036854775807 ∧ f.2.length ≤ 9223372036854775807 := fun j f hj => by
        rcases List.mem_append.1 (List.mem_of_getElem? hj) with h1 | h1
        · obtain ⟨p, hp, rfl⟩ := List.mem_map.1 h1
          obtain ⟨i, hi⟩ := List.mem_iff_getElem?.1 hp
          exact ⟨show autW.length ≤ 9223372036854775807 by decide, HPZ.out i p hi⟩
        · obtain ⟨i, hi⟩ := List.mem_iff_getElem?.1 h1
          exact HFZ.out i f hi
      have HLZ := Lib.hid hLz
      obtain ⟨L, hL⟩ : ∃ L, autL P ++ fs = L := ⟨_, rfl⟩
      rw [hL] at ho6 HLZ
      obtain ⟨N, hN⟩ : ∃ N, k + m = N := ⟨_, rfl⟩
      have hN10 : N ≤ 10 := by omega
      clear hLz HPZ HFZ HP HF HPN hL hn5 hm5 hle hnil
      rw [hN] at ho6
      go_upto_region 12 with (first
        | (refine wpList_alloc_zero rfl _ rfl (rqA rqZ2) zero_rq2 ?_; intro w7 hg7 hb7 hz7; clear hz7)
        | (refine wpList_store_all rfl _ _ _ rfl w6.heap.size rfl _ _ (rqA ⟨[71, 69, 84], [47, 97, 47, 104, 101, 97, 100], A6, N, c6, L, none, 0, 0, [], false⟩) rfl hg7 (size_rq2 _) rfl (rq_one2 _) ?_; intro w8 hg8 hgr8 hz8; clear hz8))
      have hbl8 : Below w6.heap.size w6 w8 := hb7.grown hgr8 hb7.size (fun g hg => by obtain rfl := Option.some.inj hg; exact Nat.le_refl _)
      have hb8 := hb6.trans (hbl8.mono hb6.size)
      have hf8 : Fl.Fds w8 A6 N c6 L := (ho6.below hbl8).rd
      have hlt8 := obj_lt hg8
      clear hg7 hb7 hgr8 hbl8 ho6 hb6
      have HLT := Lib.hid (light_any (w := w8) ⟨[71, 69, 84], [47, 97, 47, 104, 101, 97, 100], A6, N, c6, L, none, 0, 0, [], false⟩ hf8 (by show 3 ≤ _; omega) (by show 7 ≤ _; omega) HLZ.out (Nat.zero_le _))
      go_wp2_with (refine wpList_load_all (by rfl) _ _ rfl w6.heap.size rfl _ _ _ _ hg8 Tryd.underlying25 rfl (size_rq2 _) ?_)
      refine HLT.out.mono ?_
      rintro e w9 ⟨rfl, hbl9⟩
      have hb9 := hb8.trans (hbl9.mono hb8.size)
      have hq9 := obj_on hg8 hbl9
      have hf9 := hf8.below hbl9
      clear HLT hg8 hbl9 hf8 hb8
      by_cases hLP : LightP ⟨[71, 69, 84], [47, 97, 47, 104, 101, 97, 100], A6, N, c6, L, none, 0, 0, [], false⟩
      · rw [light_yes hLP]
        have hok := hLP.ok hf9 (Rd.nil_ w9 1)
        have HT := Lib.hid (To_hit (w := w9) _ hok (HM.out _ hb9) head_to)
        have hn1000 := hok.n
        have hv1000 := hok.v
        dsimp only at HT hn1000 hv1000
        clear hLP hok
        go_upto_region 14 with fail
        go_wp2_with (refine wpList_load_all (by rfl) _ _ rfl w6.heap.size rfl _ _ _ _ hq9 Tryd.underlying25 rfl (size_rq2 _) ?_)
        refine HT.out.mono ?_
        rintro e w10 ⟨bA, bn, bc, tA, tn, tc, rfl, hok, _, ht10, hbl10⟩
        have hb10 := hb9.trans (hbl10.mono hb9.size)
        have hf10 := hf9.below hbl10
        clear hbl10 hf9 hb9 HT hq9
        go_upto_region 15 with (first
          | (refine wpList_alloc_zero rfl _ rfl (opA opvZ) zero_op ?_; intro v1 hv1 bv1 zv1; clear zv1)
          | (refine wpList_store_all rfl _ _ _ rfl w10.heap.size rfl _ _ _ rfl hv1 (size_op hok) ((opA_size opZ_len).trans (opA_size hok).symm) opA_one ?_; intro u1 hu1 gu1 zu1; clear zu1))
        have bu1 : Below w10.heap.size w10 u1 := bv1.grown gu1 bv1.size (fun g hg => by obtain rfl := Option.some.inj hg; exact Nat.le_refl _)
        have hb11 := hb10.trans (bu1.mono hb10.size)
        have hf11 := hf10.below bu1
        have ht11 := ht10.below bu1
        have hX : OpB u1 w10.heap.size ⟨(headR.d : Int), opZ, bA, bn, bc, tA, tn, tc⟩ := ⟨hok, hu1⟩
        have c0 : ∀ b : Later u1, b.at'.cell? ⟨w10.heap.size, 0, none⟩ = some (.int .i64 17) := fun b => (hX.below b.below).cDo
        have c7 : ∀ b : Later u1, b.at'.cell? ⟨w10.heap.size, 38, none⟩ = some (.slice tA tn tc) := fun b => (hX.below b.below).cTok
        have hcv := fun b : Later u1 => run_str_rd (P := Tryd.prog) (dst := 9) eb Tryd.underlying5 Tryd.underlying9 (ht11.below b.below).rd
        have HTK := Lib.hid (RToken_any (w := u1.drew) (hf11.below drewL) hn1000 hv1000)
        clear hv1 bv1 gu1 hu1 bu1 hb10 hf10 ht10 hX
        refine wp_region_plan (MPlan.reads [0, 1, 2, 3, 4, 5, 6, 7, 8, 9, 10, 11] (.one 12 (.one 13 (MPlan.reads [14, 15, 16] .fin)))) (fun x => ∃ b : Later u1, x = b.at') (by kernel_rfl) (by kernel_rfl) (by kernel_rfl) (fun _ _ _ _ _ h => h) ⟨⟨u1.drew, drewL⟩, rfl⟩ ?_
        iterate 12 (refine plan_read (o := ⟨_, _, _, _, _, _⟩) (by rfl) (by rfl) ?_; go_big_quiet_step (fail); refine wpQuiet_nil ?_)
        refine plan_one (o := ⟨_, _, _, _, _, _⟩) (by rfl) (fun K hK => ?_)
        go_wp2_with fail
        refine HTK.out.mono ?_
        rintro e w12 ⟨A9, n9, c9, rfl, ho9, hbl12⟩
        have hb12 : Below u1.heap.size u1 w12 := drewL.trans hbl12
        go_wp2_with fail
        refine hK _ _ ⟨⟨w12, hb12⟩, rfl⟩ ?_
        clear hK
        refine plan_one (o := ⟨_, _, _, _, _, _⟩) (by rfl) (fun K hK => ?_)
        have hc9 := run_str_rd (P := Tryd.prog) (dst := 9) eb Tryd.underlying5 Tryd.underlying9 ho9.rd
        go_wp2_with fail
        refine hK _ _ ⟨⟨w12, hb12⟩, rfl⟩ ?_
        clear hK
        iterate 3 (refine plan_read (o := ⟨_, _, _, _, _, _⟩) (by rfl) (by rfl) ?_; go_big_quiet_step (fail); refine wpQuiet_nil ?_)
        refine plan_fin ?_
        clear c0 c7 hcv hc9
        go_wp2_with fail
        go_ret
        exact ⟨rfl, hb11.trans (hb12.mono hb11.size)⟩
      · rw [light_no hLP]
        go_wp2_with fail
        go_ret
        exact ⟨rfl, hb9⟩

end Go.Proofs.YtaopohacelmglaaDoor

/-
  cofferlaw0's Place.
-/
namespace Go.Proofs.YtaopohacelmglaaDoor
open Go.RowKit

/-- A number from 0 to n - 1. -/
def placeP (k : Int) (n : Nat) : Nat := if n = 0 then 0 else (k % (n : Int)).toNat
theorem placeP_lt (k : Int) (n : Nat) (h : 1 ≤ n) : placeP k n < n := by
  unfold placeP
  rw [if_neg (by omega)]
  have h1 := Int.emod_nonneg k (b := (n : Int)) (by omega)
  have h2 := Int.emod_lt_of_pos k (b := (n : Int)) (by omega)
  omega
theorem place_pos (k : Int) (n : Nat) (h : 1 ≤ n) (hk : 0 ≤ k) : k.tmod n = (placeP k n : Nat) := by
  rw [Int.tmod_eq_emod_of_nonneg hk]
  unfold placeP
  rw [if_neg (by omega)]
  have h1 := Int.emod_nonneg k (b := (n : Int)) (by omega)
  omega
theorem place_neg (k : Int) (n : Nat) (h : 1 ≤ n) (hk : k < 0) : (k.tmod n = 0 ∧ placeP k n = 0) ∨ (k.tmod n < 0 ∧ -(n : Int) < k.tmod n ∧ k.tmod n + n = (placeP k n : Nat)) := by
  have e : k.tmod n = -((-k) % (n : Int)) := by
    have : k = -(-k) := by omega
    rw [this, Int.neg_tmod, Int.tmod_eq_emod_of_nonneg (by omega)]
    simp
  have h1 := Int.emod_nonneg (-k) (b := (n : Int)) (by omega)
  have h2 := Int.emod_lt_of_pos (-k) (b := (n : Int)) (by omega)
  have h3 := Int.emod_nonneg k (b := (n : Int)) (by omega)
  have h4 := Int.emod_lt_of_pos k (b := (n : Int)) (by omega)
  have h5 := Int.mul_ediv_add_emod (-k) n
  have h6 := Int.mul_ediv_add_emod k n
  rw [e]
  unfold placeP
  rw [if_neg (by omega)]
  have h7 : (n : Int) * ((-k) / n + k / n) = -((-k) % n + k % n) := by rw [Int.mul_add]; omega
  obtain ⟨q, hq⟩ : ∃ q, (-k) / (n : Int) + k / n = q := ⟨_, rfl⟩
  rw [hq] at h7
  by_cases h0 : (-k) % (n : Int) = 0
  · left
    refine ⟨by omega, ?_⟩
    have : k % (n : Int) = 0 := by
      have : q = 0 := by
        rcases Int.lt_trichotomy q 0 with hlt | h | hgt
        · have : (n : Int) * q ≤ n * (-1) := Int.mul_le_mul_of_nonneg_left (by omega) (by omega)
          omega
        · exact h
        · have : (n : Int) * 1 ≤ n * q := Int.mul_le_mul_of_nonneg_left (by omega) (by omega)
          omega
      rw [this] at h7
      omega
    omega
  · right
    refine ⟨by omega, by omega, ?_⟩
    have : q = -1 := by
      rcases Int.lt_trichotomy q (-1) with hlt | h | hgt
      · have : (n : Int) * q ≤ n * (-2) := Int.mul_le_mul_of_nonneg_left (by omega) (by omega)
        omega
      · exact h
      · have : (n : Int) * 0 ≤ n * q := Int.mul_le_mul_of_nonneg_left (by omega) (by omega)
        omega
    rw [this] at h7
    omega

theorem Place_any (k : Int) (n : Nat) (w : World) (hk0 : -9223372036854775808 ≤ k) (hk1 : k ≤ 9223372036854775807) (hn : n ≤ 1152921504606846976) :
    Calls Tryd.prog 17 #[.int .i64 k, .int .i64 (n : Int)] w fun e w' => e = .returned (.int .i64 (placeP k n : Nat)) ∧ w = w' := by
  by_cases h : 1 ≤ n
  · have hn1 : (1 : Int) ≤ n := by omega
    have hn2 : (n : Int) ≤ 1152921504606846976 := by omega
    have hlt := placeP_lt k n h
    by_cases hk : 0 ≤ k
    · have HT := Lib.hid (place_pos k n h hk)
      have hb := Int.emod_nonneg k (b := (n : Int)) (by omega)
      have HE : Hid (k % (n : Int) = (placeP k n : Nat)) := by
        show _ = _
        rw [← Int.tmod_eq_emod_of_nonneg hk]
        exact HT.out
      clear HT hlt
      go_enter Tryd.func17, Tryd.ntmps17
      go_wp2_with fail
      go_ret
      rw [HE.out]
      exact ⟨rfl, rfl⟩
    · have hk' : k < 0 := by omega
      have ht := place_neg k n h hk'
      obtain ⟨t, hT⟩ : ∃ t, k.tmod n = t := ⟨_, rfl⟩
      rw [hT] at ht
      have hrun : IntKind.i64.wrap t = t := by
        rw [IntKind.wrap_i64]
        rcases ht with ⟨h1, _⟩ | ⟨h1, h2, _⟩ <;> omega
      rcases ht with ⟨h1, h2⟩ | ⟨h1, h2, h3⟩
      · subst h1
        have HP := Lib.hid h2
        clear hk h2 hrun
        go_enter Tryd.func17, Tryd.ntmps17
        go_wp2_with fail
        go_ret
        rw [HP.out]
        exact ⟨rfl, rfl⟩
      · have H3 := Lib.hid h3
        clear hk h3 hrun
        go_enter Tryd.func17, Tryd.ntmps17
        go_wp2_with fail
        go_ret
        rw [H3.out]
        exact ⟨rfl, rfl⟩
  · obtain rfl : n = 0 := by omega
    go_enter Tryd.func17, Tryd.ntmps17
    go_wp2_with fail
    go_ret
    exact ⟨rfl, rfl⟩

end Go.Proofs.YtaopohacelmglaaDoor

/-
  The walk of RouteRoads.
-/
namespace Go.Proofs.YtaopohacelmglaaDoor
open Go.RowKit

theorem ess : ElemT Tryd.prog 46 39 (.slice none 0 0) 1 24 := ElemT.of Tryd.underlying46 (by kernel_rfl) rfl (by omega)
/-- Rows of names, laid one behind the other. -/
def rowsW : World → List (List Bs) → World
  | w, [] => w
  | w, P :: l => rowsW (w.alloc (.cells (P.map Tg.strV).toArray 9)) l
def rowsV : Nat → List (List Bs) → List Value
  | _, [] => []
  | k, P :: l => .slice (some ⟨k, 0, none⟩) P.length P.length :: rowsV (k + 1) l
/-- A value that is a row of one to five names of up to 64 bytes. -/
def RowOk (w : World) (v : Value) : Prop := ∃ (A : Option Addr) (n : Nat) (P : List Bs), v = .slice A n n ∧ Tg.Ss w A n n P ∧ 1 ≤ n ∧ n ≤ 5 ∧ ∀ p ∈ P, p.length ≤ 100
theorem RowOk.below {w w' : World} {v : Value} (h : RowOk w v) (hb : Below w.heap.size w w') : RowOk w' v := by
  obtain ⟨A, n, P, h1, h2, h3⟩ := h
  exact ⟨A, n, P, h1, Rd.below h2 hb, h3⟩

theorem rows_below : ∀ (l : List (List Bs)) (w : World), Below w.heap.size w (rowsW w l)
  | [], w => Below.refl _ _
  | P :: l, w => by
    have h1 : Below w.heap.size w (w.alloc (.cells (P.map Tg.strV).toArray 9)) := (Below.refl _ _).alloc (Nat.le_refl _) _
    exact h1.trans ((rows_below l _).mono h1.size)
theorem rows_ok : ∀ (l : List (List Bs)) (w : World), (∀ P ∈ l, 1 ≤ P.length ∧ P.length ≤ 5 ∧ ∀ p ∈ P, p.length ≤ 100) → ∀ v ∈ rowsV w.heap.size l, RowOk (rowsW w l) v
  | [], w, _, v, hv => by cases hv
  | P :: l, w, h, v, hv => by
    have hs : (w.alloc (.cells (P.map Tg.strV).toArray 9)).heap.size = w.heap.size + 1 := by simp
    rcases List.mem_cons.1 hv with rfl | hv
    · obtain ⟨h1, h2, h3⟩ := h P (List.mem_cons_self ..)
      have hr : Tg.Ss (w.alloc (.cells (P.map Tg.strV).toArray 9)) (some ⟨w.heap.size, 0, none⟩) P.length P.length P := Rd.lit w _ _ _ (by simp) (by unfold maxLen; omega)
      exact ⟨_, _, P, rfl, Rd.below hr (rows_below l _), h1, h2, h3⟩
    · rw [← hs] at hv
      exact rows_ok l _ (fun Q hQ => h Q (List.mem_cons_of_mem _ hQ)) v hv
theorem rows_len : ∀ (l : List (List Bs)) (k : Nat), (rowsV k l).length = l.length
  | [], k => rfl
  | P :: l, k => by simp [rowsV, rows_len l]
theorem rows_size : ∀ (l : List (List Bs)) (w : World), (rowsW w l).heap.size = w.heap.size + l.length
  | [], w => rfl
  | P :: l, w => by
    have h1 := rows_size l (w.alloc (.cells (P.map Tg.strV).toArray 9))
    have hs : (w.alloc (.cells (P.map Tg.strV).toArray 9)).heap.size = w.heap.size + 1 := by simp
    show (rowsW (w.alloc _) l).heap.size = _
    rw [h1, hs, List.length_cons]
    omega
theorem rows_fin {w : World} {l : List (List Bs)} {n : Nat} (hn : l.length = n) (hn2 : n ≤ 100) (h : ∀ P ∈ l, 1 ≤ P.length ∧ P.length ≤ 5 ∧ ∀ p ∈ P, p.length ≤ 100) (B : Nat) (w0 : World) (hb : Below B w0 w) (hB : B ≤ w.heap.size) :
    Rd ((rowsW w l).alloc (.cells (rowsV w.heap.size l).toArray 39)) 1 (some ⟨w.heap.size + n, 0, none⟩) n n (rowsV w.heap.size l) ∧ (∀ v ∈ rowsV w.heap.size l, RowOk ((rowsW w l).alloc (.cells (rowsV w.heap.size l).toArray 39)) v) ∧ Below B w0 ((rowsW w l).alloc (.cells (rowsV w.heap.size l).toArray 39)) := by
  have h1 : Below w.heap.size w (rowsW w l) := rows_below l w
  have h2 := fun ob => (Below.refl (rowsW w l).heap.size (rowsW w l)).alloc (Nat.le_refl _) ob
  have h3 : (rowsW w l).heap.size = w.heap.size + n := by rw [rows_size, hn]
  rw [← h3]
  exact ⟨Rd.lit _ _ _ _ (by rw [rows_len, hn]) (by unfold maxLen; omega), fun v hv => (rows_ok l w h v hv).below (h2 _), hb.trans ((h1.trans ((h2 _).mono h1.size)).mono hB)⟩

set_option maxRecDepth 20000 in
set_option maxHeartbeats 8000000 in
theorem routeRoads_walk {w : World} (hm : Mx w) (i1 : Int) (hi1 : -9223372036854775808 ≤ i1) (hi2 : i1 ≤ 9223372036854775807) (j1 : Int) (hj1 : -9223372036854775808 ≤ j1) (hj2 : j1 ≤ 9223372036854775807) (s0 : ByteArray) (hs0 : s0.size ≤ maxLen) (more less : Bool) (m0 : ByteArray) (hm0 : m0.size ≤ maxLen) :
    Calls Tryd.prog 6 #[.int .i64 i1, .int .i64 j1, .string s0, .bool more, .bool less, .string m0] w fun e w' => e = .returned (.bool true) ∧ Below w.heap.size w w' := by
  obtain ⟨nm, rfl⟩ : ∃ l : Bs, s0 = ⟨l.toArray⟩ := ⟨s0.data.toList, by cases s0; simp⟩
  obtain ⟨mt, rfl⟩ : ∃ l : Bs, m0 = ⟨l.toArray⟩ := ⟨m0.data.toList, by cases m0; simp⟩
  have hsn := size_mk nm
  have hsm := size_mk mt
  have HM := Lib.hid (fun W (hb : Below w.heap.size w W) => hm.below hb)
  have hs0' := Nat.le_trans hs0 (show maxLen ≤ 9223372036854775807 by decide)
  have hm0' := Nat.le_trans hm0 (show maxLen ≤ 9223372036854775807 by decide)
  rw [hsn] at hs0'
  rw [hsm] at hm0'
  clear hm hs0 hm0
  go_enter Tryd.func6, Tryd.ntmps6
  go_wp2_with fail
  refine (begun_any _ (HM.out _ (Below.refl _ _))).mono ?_
  rintro e w1 ⟨rfl, hb1⟩
  by_cases hn : (100 : Int) < nm.length
  · have hn' : decide ((100 : Int) < nm.length) = true := decide_eq_true hn
    clear hn
    go_wp2_with fail
    go_ret
    exact ⟨rfl, hb1⟩
  have hn' : decide ((100 : Int) < nm.length) = false := decide_eq_false hn
  by_cases hmm : (20 : Int) < mt.length
  · have hm' : decide ((20 : Int) < mt.length) = true := decide_eq_true hmm
    clear hn hmm
    go_wp2_with fail
    go_ret
    exact ⟨rfl, hb1⟩
  have hm' : decide ((20 : Int) < mt.length) = false := decide_eq_false hmm
  have hnm : nm.length ≤ 100 := by omega
  have hmt : mt.length ≤ 20 := by omega
  clear hn hmm hs0' hm0'
  go_upto_region 5 with fail
  go_cut [13] from 32 to 47 (fun v wx => ∃ (A : Option Addr) (vs : List Value), v = .slice A 13 13 ∧ Rd wx 1 A 13 13 vs ∧ (∀ v ∈ vs, RowOk wx v) ∧ Below w.heap.size w wx)
  case first =>
    go_wp2_with (refine wpList_mk (base := w.heap.size) rfl _ _ rfl eb rfl rfl 32 32 rfl rfl (by omega) (by omega) (by unfold maxLen; omega) hb1.size ?_; intro w2 ho2 hg2 hz2)
    have hb2 := hb1.grown hg2 hb1.size (fun g h => by cases h)
    have hr2 : Rd w2 1 (some ⟨w1.heap.size, 0, none⟩) 32 32 ((List.replicate 32 0 : Bs).map b8) := by
      have h1 := ho2.rd
      rw [madeCells_one _ _ rfl] at h1
      rw [List.map_replicate]
      exact h1
    clear hz2 hg2 ho2
    refine (Nm.RHex_any _ 32 32 _ w2 hr2 (by omega)).mono ?_
    rintro e w3 ⟨rfl, hbl3⟩
    have hb3 := hb2.trans (hbl3.mono hb2.size)
    obtain ⟨H, hH⟩ : ∃ H, Nm.hexL (List.replicate 32 0 : Bs) = H := ⟨_, rfl⟩
    have hHl : H.length ≤ 100 := by
      rw [← hH, Nm.hexL_length, List.length_replicate]
      omega
    rw [hH]
    clear hH hr2 hbl3 hb2
    go_wp2_with fail
    go_meet
    exact ⟨_, rowsV w3.heap.size [[[116], [97], [98], H], [[116], [97], [115]], [[116], [97], [115], [51]], [[116], [97], [115], [51], [102, 105, 108, 101, 115]], [[116], [97], [115], [51], [115, 112, 97, 114, 101]], [[116], [97], [107, 101, 121]], [[97], [116], [97]], [[97], [116], [97], [109, 97, 114, 107]], [[97], [116], [97], [115, 119, 101, 101, 112]], [[97], [116, 111, 107, 101, 110]], [[97], [116, 111, 107, 101, 110], [51]], [[97], [108, 111, 103]], [[97], [104, 101, 97, 100]]], rfl, rows_fin (n := 13) (l := [[[116], [97], [98], H], [[116], [97], [115]], [[116], [97], [115], [51]], [[116], [97], [115], [51], [102, 105, 108, 101, 115]], [[116], [97], [115], [51], [115, 112, 97, 114, 101]], [[116], [97], [107, 101, 121]], [[97], [116], [97]], [[97], [116], [97], [109, 97, 114, 107]], [[97], [116], [97], [115, 119, 101, 101, 112]], [[97], [116, 111, 107, 101, 110]], [[97], [116, 111, 107, 101, 110], [51]], [[97], [108, 111, 103]], [[97], [104, 101, 97, 100]]]) rfl (by omega) (by
      intro P hP
      simp only [List.mem_cons, List.not_mem_nil, or_false] at hP
      rcases hP with rfl | rfl | rfl | rfl | rfl | rfl | rfl | rfl | rfl | rfl | rfl | rfl | rfl
      · refine ⟨by simp, by simp, fun p hp => ?_⟩
        simp only [List.mem_cons, List.not_mem_nil, or_false] at hp
        rcases hp with rfl | rfl | rfl | rfl <;> first | exact hHl | decide
      all_goals decide) _ _ hb3 hb3.size⟩
  case rest =>
    obtain ⟨A, vs, rfl, hA, hV, hb⟩ := hcut
    clear hn' hm' hb1
    have hvl : vs.length = 13 := by have := hA.len; omega
    have hp13 := placeP_lt i1 13 (by omega)
    have HP1 : Hid (∀ W, Calls Tryd.prog 17 #[.int .i64 i1, .int .i64 13] W fun e w' => e = .returned (.int .i64 (placeP i1 13 : Nat)) ∧ W = w') := fun W => Place_any i1 13 W hi1 hi2 (by omega)
    obtain ⟨k, hk⟩ : ∃ k, placeP i1 13 = k := ⟨_, rfl⟩
    rw [hk] at HP1 hp13
    have hx : vs[k]? = some (vs[k]'(by omega)) := List.getElem?_eq_getElem _
    generalize vs[k]'(by omega) = v at hx
    obtain ⟨A2, n, P, rfl, hP, hn1, hn5, hpl⟩ := hV v (List.mem_of_getElem? hx)
    have hidx := run_index_rd (P := Tryd.prog) (A := A) (n := 13) (c := 13) ess (Rd.nil hA) (Nat.le_refl _) k hp13
    rw [Nat.mul_one] at hidx
    have hcx := fun ob : Obj => Rd.cell (hA.alloc ob) k _ hx
    have hPn : P.length = n := by have := hP.len; simpa using this
    have hk13 : (k : Int) < 13 := by omega
    clear hV hk hvl
    go_wp2_with fail
    refine (HP1.out _).mono ?_
    rintro e w4 ⟨rfl, rfl⟩
    go_upto_region 7 with (at_builtin; refine wpList_app rfl _ _ rfl Tg.es (Own.lit wc w.heap.size [] _ 0 rfl (by decide) hb.size) rfl (hP.alloc _) rfl (Tg.strV_one _) (by omega) (by unfold maxLen; omega) (by have := hb.size; simp; omega) ?_; intro A4 c4 w5 ho5 hg5 hq5; rw [Nat.zero_add, List.nil_append] at ho5; rw [Nat.zero_add]; have hb5 := (hb.alloc hb.size _).grown hg5 (by have := hb.size; simp; omega) (fun q hq => (by have := hb.size; simp [blk] at hq; omega)))
    clear hg5 hq5 hcx hidx hp13 hk13 hx HP1 hP hA hb
    have HP2 := Lib.hid (fun W => Place_any j1 n W hj1 hj2 (by omega))
    have hq2 := placeP_lt j1 n hn1
    obtain ⟨q, hq⟩ : ∃ q, placeP j1 n = q := ⟨_, rfl⟩
    rw [hq] at HP2 hq2
    have hidx := run_index_rd (P := Tryd.prog) (A := A4) (n := n) (c := c4) Tg.es ho5.rd.nil ho5.rd.le q hq2
    rw [Nat.mul_one] at hidx
    have hPq : P[q]? = some (P[q]'(by omega)) := List.getElem?_eq_getElem _
    generalize P[q]'(by omega) = pq at hPq
    have hcx := ho5.rd.cell q (Tg.strV pq) (by rw [List.getElem?_map, hPq]; rfl)
    unfold Tg.strV at hcx
    have hfr := ho5.free (k := q) (Nat.lt_of_lt_of_le hq2 ho5.rd.le)
    have ho6 := ho5.store (k := q) (Nat.lt_of_lt_of_le hq2 ho5.rd.le) (.string ⟨nm.toArray⟩)
    have hb6 := hb5.grown (grownBy_store (World.grownBy.refl w5 _) ho5 (Nat.lt_of_lt_of_le hq2 ho5.rd.le) (.string ⟨nm.toArray⟩)) hb5.size (fun g hg => (ho5.lt g hg).1)
    have hset : (P.map Tg.strV).set q (.string ⟨nm.toArray⟩) = (P.set q nm).map Tg.strV := by rw [List.map_set]; rfl
    rw [hset] at ho6
    have hPl6 : ∀ p ∈ P.set q nm, p.length ≤ 100 := fun p hp => by
      rcases List.mem_or_eq_of_mem_set hp with h1 | rfl
      · exact hpl p h1
      · exact hnm
    have hn6 : (P.set q nm).length = n := by rw [List.length_set, hPn]
    have hq2' : (q : Int) < n := by omega
    clear hset hq hpl ho5 hb5 hPq
    go_wp2_with fail
    refine (HP2.out _).mono ?_
    rintro e w6 ⟨rfl, rfl⟩
    go_upto_if 64 with fail
    generalize w5.setCell (at_ A4 q) (.string ⟨nm.toArray⟩) = w7 at ho6 hb6 ⊢
    generalize P.set q nm = P6 at ho6 hPl6 hn6
    clear hcx hfr hidx HP2 hq2 hq2' hPn
    go_cut [14] from 64 to 68 (fun v wx => ∃ (A5 : Option Addr) (n5 c5 : Nat) (P5 : List Bs), v = .slice A5 n5 c5 ∧ 1 ≤ n5 ∧ n5 ≤ 6 ∧ P5.length = n5 ∧ (∀ p ∈ P5, p.length ≤ 100) ∧ Own wx w.heap.size 9 1 A5 n5 c5 (P5.map Tg.strV) ∧ Below w.heap.size w wx)
    case first =>
      have hs := hb6.size
      cases more
      · go_wp2_with fail
        go_meet
        exact ⟨A4, n, c4, P6, rfl, hn1, by omega, hn6, hPl6, ho6, hb6⟩
      · go_wp2_with (at_builtin; refine wpList_app rfl _ _ rfl Tg.es (ho6.alloc _) rfl (Rd.lit _ [_] _ 1 rfl (by unfold maxLen; omega)) rfl (by simp [Value.oneCell']) (by omega) (by unfold maxLen; omega) (by simp; omega) ?_; intro A8 c8 w8 ho8 hg8 hq8; have hb8 := below_app hb6 (Nat.le_refl _) ho6 hg8)
        have ho9 : Own w8 w.heap.size 9 1 A8 (n + 1) c8 ((P6 ++ [nm]).map Tg.strV) := by
          rw [List.map_append]
          exact ho8
        go_meet
        exact ⟨A8, n + 1, c8, P6 ++ [nm], rfl, by omega, by omega, by rw [List.length_append, hn6]; rfl, fun p hp => by
          rcases List.mem_append.1 hp with h1 | h1
          · exact hPl6 p h1
          · obtain rfl : p = nm := by simpa using h1
            exact hnm, ho9, hb8⟩
    case rest =>
      clear ho6 hb6 hPl6 hn6 hn1 hn5
      obtain ⟨A5, n5, c5, P5, rfl, hn1, hn5, hP5, hl5, ho5, hb5⟩ := hcut
      go_upto_if 69 with fail
      go_cut [14] from 69 to 74 (fun v wx => ∃ (A5 : Option Addr) (n5 c5 : Nat) (P5 : List Bs), v = .slice A5 n5 c5 ∧ n5 ≤ 6 ∧ P5.length = n5 ∧ (∀ p ∈ P5, p.length ≤ 100) ∧ Own wx w.heap.size 9 1 A5 n5 c5 (P5.map Tg.strV) ∧ Below w.heap.size w wx)
      case first =>
        cases less
        · go_wp2_with fail
          go_meet
          exact ⟨A5, n5, c5, P5, rfl, hn5, hP5, hl5, ho5, hb5⟩
        · have hle := ho5.rd.le
          have hsl := fun W => run_slice_h_rd (P := Tryd.prog) (A := A5) (n := n5) (c := c5) Tg.es (kh := .i64) (n5 - 1) (H := (n5 : Int) - 1) (by omega) (by omega) W
          have ho9 : Own wc w.heap.size 9 1 A5 (n5 - 1) c5 ((P5.take (n5 - 1)).map Tg.strV) := by
            have h1 := ho5.cut0 (hi := n5 - 1) (by omega)
            rw [Nat.mul_one, ← List.map_take] at h1
            exact h1
          have hi5 : (1 : Int) ≤ n5 := by omega
          have hi6 : (n5 : Int) ≤ 6 := by omega
          go_wp2_with fail
          go_meet
          exact ⟨A5, n5 - 1, c5, P5.take (n5 - 1), rfl, by omega, by rw [List.length_take, hP5]; omega, fun p hp => hl5 p (List.mem_of_mem_take hp), ho9, hb5⟩
      case rest =>
        clear ho5 hb5 hl5 hP5 hn1 hn5
        obtain ⟨A6, n6, c6, P6, rfl, hn6, hP6, hl6, ho6, hb6⟩ := hcut
        have HP6 := Lib.hid hP6
        have HL6 := Lib.hid hl6
        have hidx := fun k (hk : k < n6) => run_index_rd (P := Tryd.prog) (A := A6) (n := n6) (c := c6) Tg.es ho6.rd.nil ho6.rd.le k hk
        have HIX := Lib.hid hidx
        clear hP6 hl6 hidx
        go_wp2_with fail
        go_loopw [15, 16] (fun sv iv wr => ∃ (k : Nat) (T : Bs), k ≤ n6 ∧ iv = .int .i64 k ∧ sv = .string ⟨T.toArray⟩ ∧ T.length ≤ 101 * k ∧ wc = wr) (fun _ iv _ => n6 - (intOf iv).toNat)
        case atStart => exact ⟨0, [], by omega, rfl, rfl, by simp, rfl⟩
        case round =>
          obtain ⟨k, T, hk, rfl, rfl, hT, rfl⟩ := hrel
          by_cases hkn : k < n6
          · have hx : P6[k]? = some (P6[k]'(by rw [HP6.out]; exact hkn)) := List.getElem?_eq_getElem _
            generalize P6[k]'(by rw [HP6.out]; exact hkn) = p at hx
            have hpl := HL6.out p (List.mem_of_getElem? hx)
            have hcx := ho6.rd.cell k (Tg.strV p) (by rw [List.getElem?_map, hx]; rfl)
            unfold Tg.strV at hcx
            have hidx := HIX.out k hkn
            rw [Nat.mul_one] at hidx
            have hk' : (k : Int) < n6 := by omega
            obtain ⟨T1, hT1⟩ : ∃ T1, T ++ [47] = T1 := ⟨_, rfl⟩
            obtain ⟨T2, hT2⟩ : ∃ T2, T1 ++ p = T2 := ⟨_, rfl⟩
            have cat1 : (⟨T.toArray⟩ : ByteArray) ++ ⟨#[47]⟩ = ⟨T1.toArray⟩ := by
              rw [← hT1]
              exact cat_mk T [47]
            have cat2 : (⟨T1.toArray⟩ : ByteArray) ++ ⟨p.toArray⟩ = ⟨T2.toArray⟩ := by
              rw [← hT2]
              exact cat_mk T1 p
            have hl1 : T1.length = T.length + 1 := by rw [← hT1, List.length_append]; rfl
            have hl2 : T2.length = T1.length + p.length := by rw [← hT2, List.length_append]
            have hz1 := size_mk T
            have hz2 := size_mk T1
            have hz3 := size_mk p
            have hz4 : (⟨#[47]⟩ : ByteArray).size = 1 := rfl
            have hb1 : T.length ≤ 606 := by omega
            have hb2 : T1.length ≤ 607 := by omega
            have HT2 := Lib.hid (show T2.length ≤ 101 * (k + 1) by omega)
            clear hT1 hT2 hT hl1 hl2 hx hkn
            go_wp2_with fail
            go_roundw
            case rel => exact ⟨k + 1, T2, by omega, by go_num, rfl, HT2.out, by trivial⟩
            case measure => simp [intOf]; omega
          · obtain rfl : k = n6 := by omega
            have hTl : T.length ≤ 4096 := by omega
            clear hkn hT HIX HL6 HP6 ho6
            go_upto_region 18 with (first
              | (refine wpList_alloc_zero rfl _ rfl (rqA rqZ) zero_rq ?_; intro w7 hg7 hb7 hz7; clear hz7)
              | (refine wpList_store_all rfl _ _ _ rfl wc.heap.size rfl _ _ (rqA (rq0 mt T)) rfl hg7 (size_rq _) rfl (rq_one _) ?_; intro w8 hg8 hgr8 hz8; clear hz8))
            have hbl8 : Below wc.heap.size wc w8 := hb7.grown hgr8 hb7.size (fun g hg => by obtain rfl := Option.some.inj hg; exact Nat.le_refl _)
            have hb8 := hb6.trans (hbl8.mono hb6.size)
            clear hg7 hb7 hgr8 hbl8 hb6
            have HT := Lib.hid (To_any (w := w8) (rq0 mt T) (rq0_ok hTl) (HM.out _ hb8))
            dsimp only [rq0] at HT
            obtain ⟨R, hR⟩ : ∃ R, toR mt T = R := ⟨_, rfl⟩
            rw [hR] at HT
            go_wp2_with (refine wpList_load_all (by rfl) _ _ rfl wc.heap.size rfl _ _ _ _ hg8 Tryd.underlying25 rfl (size_rq _) ?_)
            refine HT.out.mono ?_
            rintro e w9 ⟨hbl9, x, rfl, hokx, hx0, hx⟩
            have hb9 := hb8.trans (hbl9.mono hb8.size)
            have hq9 := obj_on hg8 hbl9
            clear HT hg8
            go_upto_region 19 with (first
              | (refine wpList_load_all (by rfl) _ _ rfl wc.heap.size rfl _ _ _ _ hq9 Tryd.underlying25 rfl (size_rq _) ?_)
              | (refine wpList_alloc_zero rfl _ rfl (opA opvZ) zero_op ?_; intro v9 hv9 bv9 zv9; clear zv9)
              | (refine wpList_store_all rfl _ _ _ rfl w9.heap.size rfl _ _ (opA x) rfl hv9 (size_op hokx) ((opA_size opZ_len).trans (opA_size hokx).symm) opA_one ?_; intro u9 hu9 gu9 zu9; clear zu9))
            have bu9 : Below w9.heap.size w9 u9 := bv9.grown gu9 bv9.size (fun g hg => by obtain rfl := Option.some.inj hg; exact Nat.le_refl _)
            clear hv9 bv9 gu9
            have hb10 := hb9.trans (bu9.mono hb9.size)
            have hq10 := obj_on hq9 bu9
            have hX10 : OpB u9 w9.heap.size x := ⟨hokx, hu9⟩
            have HR := Lib.hid (RTo_any (w := u9) (rq0 mt T) (rq0_ok hTl))
            dsimp only [rq0] at HR
            rw [hR] at HR
            go_wp2_with (refine wpList_load_all (by rfl) _ _ rfl wc.heap.size rfl _ _ _ _ hq10 Tryd.underlying25 rfl (size_rq _) ?_)
            refine HR.out.mono ?_
            rintro e w11 ⟨hbl11, y, rfl, hoky, hy0, hy⟩
            have hb11 := hb10.trans (hbl11.mono hb10.size)
            have hX11 := hX10.below hbl11
            go_upto_region 20 with (first
              | (refine wpList_load_all (by rfl) _ _ rfl wc.heap.size rfl _ _ _ _ hq10 Tryd.underlying25 rfl (size_rq _) ?_)
              | (refine wpList_alloc_zero rfl _ rfl (opA opvZ) zero_op ?_; intro v11 hv11 bv11 zv11; clear zv11)
              | (refine wpList_store_all rfl _ _ _ rfl w11.heap.size rfl _ _ (opA y) rfl hv11 (size_op hoky) ((opA_size opZ_len).trans (opA_size hoky).symm) opA_one ?_; intro u11 hu11 gu11 zu11; clear zu11))
            have bu11 : Below w11.heap.size w11 u11 := bv11.grown gu11 bv11.size (fun g hg => by obtain rfl := Option.some.inj hg; exact Nat.le_refl _)
            clear hv11 bv11 gu11
            have hb13 := hb11.trans (bu11.mono hb11.size)
            have hX13 := hX11.below bu11
            have hY13 : OpB u11 w11.heap.size y := ⟨hoky, hu11⟩
            have hboth := said_both hx0 hy0 (fun ro o hro => by
              obtain ⟨h1, h2, h3, h4⟩ := hx ro o hro
              exact ⟨h1, h2, ((h3.below bu9).below hbl11).below bu11, ((h4.below bu9).below hbl11).below bu11⟩) (fun ro o hro => by
              obtain ⟨h1, h2, h3, h4⟩ := hy ro o hro
              exact ⟨h1, h2, h3.below bu11, h4.below bu11⟩)
            obtain ⟨bl, tl, hyd, hyo, ob1, ot1, ob2, ot2⟩ := hboth
            obtain ⟨S, hS⟩ : ∃ S : Int, (R.2 : Int) = S := ⟨_, rfl⟩
            rw [hS]
            have hSS : (S == S) = true := by simp
            obtain ⟨xd, xo, A1, n1, c1, B1, m1, e1⟩ := x
            obtain ⟨yd, yo, A2, n2, c2, B2, m2, e2⟩ := y
            dsimp only at hyd hyo ob1 ot1 ob2 ot2 hokx hoky
            subst hyd
            subst hyo
            have HS := Lib.hid (RSame_eq (d := yd) hokx ob1.rd ob2.rd ot1.rd ot2.rd)
            have hxo := hX13.obj
            have hyo := hY13.obj
            clear hx0 hy0 hx hy ob1 ot1 ob2 ot2 hX13 hY13 hX11 hX10 hbl11 hbl9 bu9 bu11 hu9 hu11 hq9 hq10 HR hS hR hb9 hb10 hb11
            go_wp2_with (first
              | (refine wpList_load_all (by rfl) _ _ rfl w9.heap.size rfl _ _ _ _ hxo Tryd.underlying33 rfl (size_op hokx) ?_)
              | (refine wpList_load_all (by rfl) _ _ rfl w11.heap.size rfl _ _ _ _ hyo Tryd.underlying33 rfl (size_op hoky) ?_))
            refine HS.out.mono ?_
            rintro e w16 ⟨rfl, hbl16⟩
            have hb16 := hb13.trans (hbl16.mono hb13.size)
            go_wp2_with fail
            go_ret
            exact ⟨rfl, hb16⟩

end Go.Proofs.YtaopohacelmglaaDoor
