/-
  Joined texts of this claim's author (each began as a text of its own; each says itself what it holds).
-/
import Derived.Test.YtckkmdigmecagaaGreatDoorG04
import Derived.Test.YtckkmdigmecagaaGreatDoorG01
import Derived.Deep.CutBlock
set_option linter.unusedVariables false
set_option linter.unusedSimpArgs false

/-
  The document's answer to chunk: a chunked body.
-/
namespace Go.Proofs.YtckkmdigmecagaaGreatDoor
open Go.RowKit

/-- What the document tells, out of what Feed does. -/
def toldP (r : Nat × St) : Int × List UInt8 × Int := if r.2.bd = 0 then (if r.2.nx = 9 then ((r.1 : Nat) : Int) else -1, r.2.got, 0) else (0, [], r.2.bd)

theorem feed_step {s : St} {l : List UInt8} {j : Nat} {x : UInt8} {s' : St} {b : Int} (h : l[j]? = some x) (h9 : s.nx ≠ 9) (hb : s.bd = 0) (ht : takeP s x = (s', b)) : feedP s (l.drop j) = ((feedP { s' with bd := b } (l.drop (j + 1))).1 + 1, (feedP { s' with bd := b } (l.drop (j + 1))).2) := by
  rw [feedP_drop h, if_neg (by omega), ht]
/-- One byte on, the state at a place. -/
theorem feed_on {s0 s : St} {l : List UInt8} {j : Nat} {x : UInt8} {s' : St} {b : Int} (hH : feedP s0 l = ((feedP s (l.drop j)).1 + j, (feedP s (l.drop j)).2)) (h : l[j]? = some x) (h9 : s.nx ≠ 9) (hb : s.bd = 0) (ht : takeP s x = (s', b)) :
    feedP s0 l = ((feedP { s' with bd := b } (l.drop (j + 1))).1 + (j + 1), (feedP { s' with bd := b } (l.drop (j + 1))).2) := by
  rw [hH, feed_step h h9 hb ht]
  simp only [Nat.add_assoc, Nat.add_comm 1 j]
theorem feed_end {s0 s : St} {l : List UInt8} {j : Nat} (hH : feedP s0 l = ((feedP s (l.drop j)).1 + j, (feedP s (l.drop j)).2)) (h : (l.length ≤ j) ∨ s.nx = 9 ∨ s.bd ≠ 0) : feedP s0 l = (j, s) := by
  rw [hH]
  rcases h with h | h
  · rw [List.drop_eq_nil_of_le h]
    simp [feedP]
  · rw [feedP_stop h]
    simp

theorem take_digit {sz n : Int} {D : List UInt8} {x : UInt8} (h0 : 0 ≤ digP (x.toNat : Int)) (h8 : n < 8) : takeP ⟨2, sz, n, 0, D⟩ x = (⟨2, sz * 16 + digP (x.toNat : Int), n + 1, 0, D⟩, 0) := by simp [takeP, h0, h8]

theorem take_nodigit {sz n : Int} {D : List UInt8} {x : UInt8} (h : ¬ (0 ≤ digP (x.toNat : Int) ∧ n < 8)) : takeP ⟨2, sz, n, 0, D⟩ x = if n = 0 then (⟨2, sz, n, 0, D⟩, 4) else wantP ⟨2, sz, n, 0, D⟩ (x.toNat : Int) 13 3 := by
  unfold takeP
  rw [if_neg (by dsimp only; omega), if_pos rfl, if_neg h]
theorem take_lf {sz n : Int} {D : List UInt8} {x : UInt8} : takeP ⟨3, sz, n, 0, D⟩ x = if (x.toNat : Int) ≠ 10 then (⟨3, sz, 0, 0, D⟩, 4) else if 4096 - (D.length : Int) < sz then (⟨3, sz, 0, 0, D⟩, 2) else if sz = 0 then (⟨7, sz, 0, 0, D⟩, 0) else (⟨4, sz, 0, 0, D⟩, 0) := by
  unfold takeP
  rw [if_neg (by dsimp only; omega), if_neg (by dsimp only; omega), if_pos rfl]
theorem take_dat {sz : Int} {D : List UInt8} {x : UInt8} : takeP ⟨4, sz, 0, 0, D⟩ x = (⟨if 1 < sz then 4 else 5, sz - 1, 0, 0, D ++ [x]⟩, 0) := by
  unfold takeP
  rw [if_pos (.inr rfl)]
  rfl
theorem pow_step {sz n d : Nat} (h : sz < 16 ^ n) (hn : n < 8) (hd : d < 16) : sz * 16 + d < 16 ^ (n + 1) ∧ sz * 16 + d ≤ 4294967295 := by
  have h1 : (16 : Nat) ^ (n + 1) ≤ 16 ^ 8 := Nat.pow_le_pow_right (by omega) (by omega)
  have h2 : (16 : Nat) ^ 8 = 4294967296 := by decide
  have h3 : (16 : Nat) ^ (n + 1) = 16 ^ n * 16 := Nat.pow_succ ..
  omega

theorem told_set {w : World} {g : Nat} {u0 u1 u2 v0 v1 v2 : Value} {t : TypeId} (h : w.heap[g]? = some (.cells #[u0, u1, u2] t (0, 0))) :
    (((w.setCell ⟨g, 0, none⟩ v0).setCell ⟨g, 1, none⟩ v1).setCell ⟨g, 2, none⟩ v2).heap[g]? = some (.cells #[v0, v1, v2] t (0, 0)) :=
  heap_setCell v2 (heap_setCell v1 (heap_setCell v0 h))
theorem told_set_alloc {w : World} {g : Nat} {u0 u1 u2 v0 v1 v2 : Value} {t : TypeId} (h : w.heap[g]? = some (.cells #[u0, u1, u2] t (0, 0))) (ob : Obj) :
    (((((w.setCell ⟨g, 0, none⟩ v0).setCell ⟨g, 1, none⟩ v1).setCell ⟨g, 2, none⟩ v2).alloc ob).drew).heap[g]? = some (.cells #[v0, v1, v2] t (0, 0)) :=
  (Below.heap_alloc _ _ _ (Array.getElem?_eq_some_iff.1 (told_set h)).1).trans (told_set h)
theorem size_alloc_drew {w : World} {k : Nat} (h : k < w.heap.size) (ob : Obj) : k < ((w.alloc ob).drew).heap.size := by
  show k < (w.heap.push ob).size
  rw [Array.size_push]
  omega
theorem told_facts {w : World} {g : Nat} {t : TypeId} (h : w.heap[g]? = some (.cells #[.int .i64 0, .slice none 0 0, .int .i64 0] t (0, 0))) :
    w.cell? ⟨g, 0, none⟩ = some (.int .i64 0) ∧ w.cell? ⟨g, 1, none⟩ = some (.slice none 0 0) ∧ w.cell? ⟨g, 2, none⟩ = some (.int .i64 0) ∧ w.frozen? ⟨g, 0, none⟩ = false ∧ w.frozen? ⟨g, 1, none⟩ = false ∧ w.frozen? ⟨g, 2, none⟩ = false :=
  ⟨cell_of h rfl, cell_of h rfl, cell_of h rfl, frozen_of h, frozen_of h, frozen_of h⟩
theorem Own.lower {w : World} {b b' size n c : Nat} {e : TypeId} {A : Option Addr} {xs : List Value} (h : Own w b e size A n c xs) (hb : b' ≤ b) : Own w b' e size A n c xs :=
  ⟨h.rd, fun a ha => by
    obtain ⟨h1, h2, h3⟩ := h.own a ha
    exact ⟨h1, Nat.le_trans hb h2, h3⟩⟩
theorem told_world {w wr : World} {A : Option Addr} {n c : Nat} {e : TypeId} {xs : List Value} (hb : Below w.heap.size w wr) (ho : Own wr (w.heap.size + 1) e 1 A n c xs) (v0 v1 v2 : Value) :
    Own (((wr.setCell ⟨w.heap.size, 0, none⟩ v0).setCell ⟨w.heap.size, 1, none⟩ v1).setCell ⟨w.heap.size, 2, none⟩ v2) w.heap.size e 1 A n c xs ∧
    Below w.heap.size w (((wr.setCell ⟨w.heap.size, 0, none⟩ v0).setCell ⟨w.heap.size, 1, none⟩ v1).setCell ⟨w.heap.size, 2, none⟩ v2) := by
  refine ⟨(ho.lower (Nat.le_succ _)).keep fun g hg _ _ => ?_, ⟨hb.os, hb.tape, hb.output, ?_, fun k hk => ?_⟩⟩
  · have hne : w.heap.size ≠ g := by
      have := (ho.lt g hg).1
      omega
    rw [heap_setCell_ne _ hne, heap_setCell_ne _ hne, heap_setCell_ne _ hne]
  · simpa [World.setCell] using hb.size
  · have hne : w.heap.size ≠ k := by omega
    rw [heap_setCell_ne _ hne, heap_setCell_ne _ hne, heap_setCell_ne _ hne, hb.block k hk]

/-- The states behind a chunk's bytes: 13, 10, then the next chunk or the end. -/
def stK (sz k : Nat) : Int := if sz = 0 then (if k = 0 then 7 else if k = 1 then 8 else 9) else (if k = 0 then 5 else if k = 1 then 6 else 2)
theorem take_end (sz k : Nat) (D : List UInt8) (x : UInt8) (hk : k < 2) : takeP ⟨stK sz k, 0, 0, 0, D⟩ x = if (x.toNat : Int) = (if k = 0 then 13 else 10) then (⟨stK sz (k + 1), 0, 0, 0, D⟩, 0) else (⟨stK sz k, 0, 0, 0, D⟩, 4) := by
  have h2 : k = 0 ∨ k = 1 := by omega
  by_cases hz : sz = 0
  all_goals rcases h2 with rfl | rfl
  all_goals simp [stK, takeP, wantP, hz]
theorem stK_ne (sz k : Nat) (hk : k < 2) : stK sz k ≠ 9 := by
  have h2 : k = 0 ∨ k = 1 := by omega
  by_cases hz : sz = 0
  all_goals rcases h2 with rfl | rfl
  all_goals simp [stK, hz]
theorem told_open {j : Nat} {nx : Int} {D : List UInt8} (h : nx ≠ 9) : toldP (j, ⟨nx, 0, 0, 0, D⟩) = (-1, D, 0) := by simp [toldP, h]
theorem told_done {j : Nat} {D : List UInt8} : toldP (j, ⟨9, 0, 0, 0, D⟩) = ((j : Int), D, 0) := by simp [toldP]
theorem Rd.byteCell {W : World} {A : Option Addr} {n c k : Nat} {l : List UInt8} {x : UInt8} (h : Rd W 1 A n c (l.map b8)) (hx : l[k]? = some x) : W.cell? (at_ A k) = some (.int .u8 (x.toNat : Int)) :=
  h.cell k _ (by rw [List.getElem?_map, hx]; rfl)

set_option maxRecDepth 20000 in
set_option maxHeartbeats 40000000 in
theorem RChunked_any {w : World} (B : Option Addr) (m d : Nat) (l : List UInt8) (hl : Rd w 1 B m d (l.map b8)) (hm : m ≤ 1048576) :
    Calls Tryz.prog 29 #[.slice B m d] w fun e w' => ∃ A' n' c', e = .returned (.agg #[.int .i64 (toldP (feedP st0 l)).1, .slice A' n' c', .int .i64 (toldP (feedP st0 l)).2.2]) ∧ Own w' w.heap.size 5 1 A' n' c' ((toldP (feedP st0 l)).2.1.map b8) ∧ Below w.heap.size w w' := by
  have hlen := hl.lenb
  go_enter Tryz.func29, Tryz.ntmps29
  go_wp2_with fail
  go_loopw [3, 4] (fun a i wr => ∃ (j : Nat) (A' : Option Addr) (n' c' : Nat) (D : List UInt8), j ≤ m ∧ a = .slice A' n' c' ∧ i = .int .i64 j ∧ Own wr (w.heap.size + 1) 5 1 A' n' c' (D.map b8) ∧ D.length ≤ 4096 ∧ Below w.heap.size w wr ∧ w.heap.size < wr.heap.size ∧
      Hid (wr.heap[w.heap.size]? = some (.cells #[.int .i64 0, .slice none 0 0, .int .i64 0] 71 (0, 0))) ∧ Hid (feedP st0 l = ((feedP ⟨2, 0, 0, 0, D⟩ (l.drop j)).1 + j, (feedP ⟨2, 0, 0, 0, D⟩ (l.drop j)).2))) (fun _ i _ => m - (intOf i).toNat)
  case atStart => exact ⟨0, none, 0, 0, [], by omega, rfl, rfl, Own.nil_ _ _ _ _, by simp, (Below.refl _ _).alloc (Nat.le_refl _) _, by simp, heap_new _ _, by simp [Hid, st0]⟩
  case round =>
    obtain ⟨j, A', n', c', D, hj, rfl, rfl, ho, hD, hbel, hsz, hcell, hH⟩ := hrel
    have hDn := ho.lenb
    have hlr := hl.below hbel
    have R0 : wr.cell? ⟨w.heap.size, 0, none⟩ = some (.int .i64 0) := cell_of hcell.out rfl
    have R1 : wr.cell? ⟨w.heap.size, 1, none⟩ = some (.slice none 0 0) := cell_of hcell.out rfl
    have R2 : wr.cell? ⟨w.heap.size, 2, none⟩ = some (.int .i64 0) := cell_of hcell.out rfl
    have Q0 := frozen_of (i := 0) hcell.out
    have Q1 := frozen_of (i := 1) hcell.out
    have Q2 := frozen_of (i := 2) hcell.out
    go_upto_block 2 with fail
    go_cut [4, 5, 6] from 9 to 36 (fun i s k wx => wx = wr ∧ ∃ (j2 sz n : Nat), j ≤ j2 ∧ j2 ≤ m ∧ n ≤ 8 ∧ sz ≤ 4294967295 ∧ i = .int .i64 j2 ∧ s = .int .i64 sz ∧ k = .int .i64 n ∧ Hid (sz < 16 ^ n) ∧ Hid (feedP st0 l = ((feedP ⟨2, sz, n, 0, D⟩ (l.drop j2)).1 + j2, (feedP ⟨2, sz, n, 0, D⟩ (l.drop j2)).2)) ∧ (j2 = m ∨ ∃ x, Hid (l[j2]? = some x) ∧ Hid (¬ (0 ≤ digP (x.toNat : Int) ∧ (n : Int) < 8))))
    case first =>
      go_wp2_with fail
      go_loop [4, 5, 6] (fun i s k => ∃ (j2 sz n : Nat), j ≤ j2 ∧ j2 ≤ m ∧ n ≤ 8 ∧ sz ≤ 4294967295 ∧ i = .int .i64 j2 ∧ s = .int .i64 sz ∧ k = .int .i64 n ∧ Hid (sz < 16 ^ n) ∧ Hid (feedP st0 l = ((feedP ⟨2, sz, n, 0, D⟩ (l.drop j2)).1 + j2, (feedP ⟨2, sz, n, 0, D⟩ (l.drop j2)).2))) (fun i _ _ => m - (intOf i).toNat)
      case atStart => exact ⟨j, 0, 0, Nat.le_refl _, hj, by omega, by omega, rfl, rfl, rfl, by simp [Hid], hH⟩
      case round =>
        obtain ⟨j2, sz, n, hj2, hj2m, hn8, hsz2, rfl, rfl, rfl, hsn, hH2⟩ := hrel
        by_cases hjm : j2 < m
        · obtain ⟨x, hx, hidx, hxc, hxb⟩ := hlr.byteAt eb (j2 : Int) j2 rfl hjm
          have hdl := digP_lt (x.toNat : Int)
          have hrd := Lib.hid (rdigit_any x)
          obtain ⟨dd, hdd⟩ : ∃ dd, digP (x.toNat : Int) = dd := ⟨_, rfl⟩
          rw [hdd] at hdl hrd
          have HD := Lib.hid hdd
          clear hdd
          by_cases hgo : n < 8 ∧ 0 ≤ dd
          · obtain ⟨g1, g2⟩ := hgo
            go_wp2_with (go_at_call 44; refine (hrd.out _).mono ?_; rintro e w2 ⟨rfl, rfl⟩)
            refine ⟨⟨j2 + 1, sz * 16 + dd.toNat, n + 1, by omega, by omega, by omega, ?_, by go_num, ?_, by go_num, ?_, ?_⟩, by simp [intOf]; omega⟩
            · have := pow_step hsn.out g1 (by omega : dd.toNat < 16)
              omega
            · congr 1
              omega
            · exact (pow_step hsn.out g1 (by omega : dd.toNat < 16)).1
            · have ht := take_digit (sz := sz) (n := n) (D := D) (x := x) (by rw [HD.out]; exact g2) (by omega)
              rw [HD.out] at ht
              have h2 := feed_on hH2.out hx.out (by show (2 : Int) ≠ 9; omega) rfl ht
              have e1 : ((sz * 16 + dd.toNat : Nat) : Int) = (sz : Int) * 16 + dd := by omega
              have e2 : ((n + 1 : Nat) : Int) = (n : Int) + 1 := by omega
              show _ = _
              rw [e1, e2]
              exact h2
          · have hno : Hid (¬ (0 ≤ digP (x.toNat : Int) ∧ (n : Int) < 8)) := by
              show ¬ _
              rw [HD.out]
              omega
            have hgo2 : 8 ≤ (n : Int) ∨ ((n : Int) < 8 ∧ dd < 0) := by omega
            clear hgo
            rcases hgo2 with g1 | ⟨g1, g2⟩
            all_goals
              go_wp2_with (go_at_call 44; refine (hrd.out _).mono ?_; rintro e w2 ⟨rfl, rfl⟩)
              go_meet
              exact ⟨rfl, j2, sz, n, hj2, hj2m, hn8, hsz2, rfl, rfl, rfl, hsn, hH2, .inr ⟨x, hx, hno⟩⟩
        · go_wp2_with fail
          go_meet
          exact ⟨rfl, j2, sz, n, hj2, hj2m, hn8, hsz2, rfl, rfl, rfl, hsn, hH2, .inl (by omega)⟩
    case rest =>
      obtain ⟨rfl, j2, sz, n, hj2, hj2m, hn8, hsz2, rfl, rfl, rfl, hsn, hH2, hout⟩ := hcut
      rcases hout with e | ⟨x, hx, hno⟩
      · subst e
        have hF := Lib.hid (feed_end hH2.out (.inl (by omega)))
        clear hH hH2
        go_wp2_with fail
        refine bodyPost_ret (results_cell_row rfl _ _ w.heap.size _ _ _ _ rfl (told_set hcell.out) Tryz.underlying71 rfl (by kernel_rfl)) rfl ?_
        obtain ⟨o1, o2⟩ := told_world hbel ho (.int .i64 (-1)) (.slice A' n' c') (.int .i64 0)
        rw [hF.out]
        exact ⟨A', n', c', rfl, o1, o2⟩
      · have hjm : j2 < m := by
          have := (List.getElem?_eq_some_iff.1 hx.out).1
          omega
        obtain ⟨x', hx', hidx, hxc, hxb⟩ := hlr.byteAt eb (j2 : Int) j2 rfl hjm
        obtain rfl : x = x' := by
          have := hx.out.symm.trans hx'.out
          simpa using this
        have Hno := Lib.hid (take_nodigit (sz := sz) (n := n) (D := D) (x := x) hno.out)
        by_cases hn0 : (n : Int) = 0
        · have hn0' : ((n : Int) == 0) = true := by simpa using hn0
          have hF := Lib.hid (feed_end (feed_on hH2.out hx.out (by show (2 : Int) ≠ 9; omega) rfl (Hno.out.trans (if_pos hn0))) (.inr (.inr (by show (4 : Int) ≠ 0; omega))))
          clear hH hH2 hn0
          go_wp2_with fail
          refine bodyPost_ret (results_cell_row rfl _ _ w.heap.size _ _ _ _ rfl (told_set hcell.out) Tryz.underlying71 rfl (by kernel_rfl)) rfl ?_
          obtain ⟨o1, o2⟩ := told_world hbel ho (.int .i64 0) (.slice none 0 0) (.int .i64 4)
          rw [hF.out]
          exact ⟨none, 0, 0, rfl, Own.nil_ _ _ _ _, o2⟩
        · have hn0' : ((n : Int) == 0) = false := by simpa using hn0
          by_cases h13 : (x.toNat : Int) = 13
          · have hw := Hno.out.trans (if_neg hn0)
            rw [h13, wantP, if_pos rfl] at hw
            have hH3 := Lib.hid (feed_on hH2.out hx.out (by show (2 : Int) ≠ 9; omega) rfl hw)
            clear hw hH hH2
            have h13' : ((x.toNat : Int) != 13) = false := by simpa using h13
            clear h13 hn0
            by_cases hj1 : j2 + 1 < m
            · obtain ⟨y, hy, hidy, hyc, hyb⟩ := hlr.byteAt eb ((j2 : Int) + 1) (j2 + 1) (by omega) hj1
              have hj1' : ((j2 : Int) + 1 == m) = false := by
                simp
                omega
              have hjl : (j2 : Int) + 1 < m := by omega
              have hT := Lib.hid (take_lf (sz := sz) (n := n) (D := D) (x := y))
              by_cases h10 : (y.toNat : Int) = 10
              · by_cases hbig : 4096 - (D.length : Int) < sz
                · have hw := hT.out
                  rw [if_neg (by omega), if_pos hbig] at hw
                  have hF := Lib.hid (feed_end (feed_on hH3.out hy.out (by show (3 : Int) ≠ 9; omega) rfl hw) (.inr (.inr (by show (2 : Int) ≠ 0; omega))))
                  have h10' : ((y.toNat : Int) != 10) = false := by simpa using h10
                  have hbig' : 4096 < (n' : Int) + sz := by omega
                  clear hw hH3 h10 hT hbig
                  go_wp2_with fail
                  refine bodyPost_ret (results_cell_row rfl _ _ w.heap.size _ _ _ _ rfl (told_set hcell.out) Tryz.underlying71 rfl (by kernel_rfl)) rfl ?_
                  obtain ⟨o1, o2⟩ := told_world hbel ho (.int .i64 0) (.slice none 0 0) (.int .i64 2)
                  rw [hF.out]
                  exact ⟨none, 0, 0, rfl, Own.nil_ _ _ _ _, o2⟩
                · have hw := hT.out
                  rw [if_neg (by omega), if_neg hbig] at hw
                  have hs1 : takeP ⟨3, sz, n, 0, D⟩ y = (⟨if (0 : Nat) < sz then 4 else if sz = 0 then 7 else 5, (sz : Int) - (0 : Nat), 0, 0, D⟩, 0) := by
                    rw [hw]
                    by_cases hz : sz = 0
                    · subst hz
                      rfl
                    · rw [if_neg (by omega), if_pos (by omega)]
                      simp
                  have hH4 := Lib.hid (feed_on hH3.out hy.out (by show (3 : Int) ≠ 9; omega) rfl hs1)
                  have h10' : ((y.toNat : Int) != 10) = false := by simpa using h10
                  have hbig' : (n' : Int) + sz ≤ 4096 := by omega
                  clear hw hs1 hH3 h10 hT hbig
                  have hjm' : ((j2 : Int) == m) = false := by
                    simp
                    omega
                  go_upto_block 4 with fail
                  go_cut [3, 4, 7] from 75 to 94 (fun a i k wx => ∃ (j3 : Nat) (A3 : Option Addr) (n3 c3 : Nat) (D3 : List UInt8), j2 + 2 ≤ j3 ∧ j3 ≤ m ∧ a = .slice A3 n3 c3 ∧ i = .int .i64 j3 ∧ Own wx (w.heap.size + 1) 5 1 A3 n3 c3 (D3.map b8) ∧ D3.length ≤ 4096 ∧ Below w.heap.size w wx ∧ w.heap.size < wx.heap.size ∧
                      Hid (wx.heap[w.heap.size]? = some (.cells #[.int .i64 0, .slice none 0 0, .int .i64 0] 71 (0, 0))) ∧ Hid (feedP st0 l = ((feedP ⟨if sz = 0 then 7 else 5, 0, 0, 0, D3⟩ (l.drop j3)).1 + j3, (feedP ⟨if sz = 0 then 7 else 5, 0, 0, 0, D3⟩ (l.drop j3)).2)))
                  case first =>
                    go_wp2_with fail
                    go_loopw [3, 4, 7] (fun a i k wx => ∃ (k3 : Nat) (A3 : Option Addr) (n3 c3 : Nat) (D3 : List UInt8), k3 ≤ sz ∧ j2 + 2 + k3 ≤ m ∧ a = .slice A3 n3 c3 ∧ i = .int .i64 (j2 + 2 + k3 : Nat) ∧ k = .int .i64 k3 ∧ Own wx (w.heap.size + 1) 5 1 A3 n3 c3 (D3.map b8) ∧ Hid (D3.length = D.length + k3) ∧ Below w.heap.size w wx ∧ w.heap.size < wx.heap.size ∧
                      Hid (wx.heap[w.heap.size]? = some (.cells #[.int .i64 0, .slice none 0 0, .int .i64 0] 71 (0, 0))) ∧ Hid (feedP st0 l = ((feedP ⟨if k3 < sz then 4 else if sz = 0 then 7 else 5, (sz : Int) - (k3 : Nat), 0, 0, D3⟩ (l.drop (j2 + 2 + k3))).1 + (j2 + 2 + k3), (feedP ⟨if k3 < sz then 4 else if sz = 0 then 7 else 5, (sz : Int) - (k3 : Nat), 0, 0, D3⟩ (l.drop (j2 + 2 + k3))).2))) (fun _ _ k _ => sz - (intOf k).toNat)
                    case atStart => exact ⟨0, A', n', c', D, by omega, by omega, rfl, by go_num, rfl, ho, by simp [Hid], hbel, hsz, hcell, hH4⟩
                    case round =>
                      obtain ⟨k3, A3, n3, c3, D3, hk3, hj3, rfl, rfl, rfl, ho3, hD3, hbel3, hsz3, hcell3, hH5⟩ := hrel
                      obtain ⟨j3, ej3⟩ : ∃ j3, j2 + 2 + k3 = j3 := ⟨_, rfl⟩
                      rw [ej3] at hH5 hj3 ⊢
                      by_cases hk : k3 < sz
                      · rw [if_pos hk] at hH5
                        have hlr3 := hl.below hbel3
                        have hn3 := ho3.lenb
                        have hD3l : D3.length ≤ 4096 := by
                          have := hD3.out
                          omega
                        by_cases hjm3 : j3 < m
                        · obtain ⟨z, hz, hidz, hzc, hzb⟩ := hlr3.byteAt eb (j3 : Int) j3 rfl hjm3
                          have hjm3' : ((j3 : Int) == m) = false := by
                            simp
                            omega
                          have hH6 := Lib.hid (feed_on hH5.out hz.out (by show (4 : Int) ≠ 9; omega) rfl (take_dat (x := z)))
                          clear hH5
                          go_wp2_with (at_builtin; refine wpList_app rfl _ _ rfl eb (ho3.alloc _) rfl (Rd.lit _ [_] _ 1 rfl (by unfold maxLen; omega)) rfl (by simp [Value.oneCell']) (by omega) (by unfold maxLen; omega) (by simp; omega) ?_; intro A4 c4 w4 ho4 hg4 hq4)
                          refine ⟨⟨k3 + 1, A4, n3 + 1, c4, D3 ++ [z], by omega, by omega, rfl, ?_, by go_num, ?_, ?_, ?_, ?_, ?_, ?_⟩, by simp [intOf]; omega⟩
                          · congr 1
                            omega
                          · rw [List.map_append]
                            exact ho4
                          · show _ = _
                            rw [List.length_append, hD3.out]
                            simp
                            omega
                          · exact (hbel3.alloc hbel3.size _).grown hg4 (by simp; omega) (fun g hg => by
                              have := (ho3.lt g hg).1
                              omega)
                          · have := hg4.size
                            simp at this
                            omega
                          · exact (hg4.block w.heap.size (by simp; omega) (fun e => by
                              have := (ho3.lt _ e.symm).1
                              omega)).trans ((Below.heap_alloc _ _ _ hsz3).trans hcell3.out)
                          · have e1 : (if 1 < (sz : Int) - (k3 : Int) then (4 : Int) else 5) = if k3 + 1 < sz then 4 else if sz = 0 then 7 else 5 := by
                              by_cases hq : k3 + 1 < sz
                              · rw [if_pos hq, if_pos (by omega)]
                              · rw [if_neg hq, if_neg (by omega), if_neg (by omega)]
                            have e2 : (sz : Int) - (k3 : Int) - 1 = (sz : Int) - ((k3 + 1 : Nat) : Int) := by omega
                            have e3 : j2 + 2 + (k3 + 1) = j3 + 1 := by omega
                            have h6 := hH6.out
                            rw [e1, e2] at h6
                            show _ = _
                            rw [e3]
                            exact h6
                        · obtain ⟨S0, S1, S2, P0, P1, P2⟩ := told_facts hcell3.out
                          have hF := Lib.hid (feed_end hH5.out (.inl (by omega)))
                          have hjm3' : ((j3 : Int) == m) = true := by
                            simp
                            omega
                          clear hH5
                          go_wp2_with fail
                          refine bodyPost_ret (results_cell_row rfl _ _ w.heap.size _ _ _ _ rfl (told_set hcell3.out) Tryz.underlying71 rfl (by kernel_rfl)) rfl ?_
                          obtain ⟨o1, o2⟩ := told_world hbel3 ho3 (.int .i64 (-1)) (.slice A3 n3 c3) (.int .i64 0)
                          rw [hF.out]
                          exact ⟨A3, n3, c3, rfl, o1, o2⟩
                      · have ek : k3 = sz := by omega
                        subst ek
                        rw [if_neg (Nat.lt_irrefl _), Int.sub_self] at hH5
                        have hl3 : D3.length ≤ 4096 := by
                          have := hD3.out
                          omega
                        go_wp2_with fail
                        go_meet
                        exact ⟨j3, A3, n3, c3, D3, by omega, hj3, rfl, rfl, ho3, hl3, hbel3, hsz3, hcell3, hH5⟩
                  case rest =>
                    obtain ⟨j3, A3, n3, c3, D3, hj23, hj3, rfl, rfl, ho3, hl3, hbel3, hsz3, hcell3, hH5⟩ := hcut
                    go_upto_block 6 with fail
                    go_cut [4, 8] from 95 to 116 (fun i k wx => ∃ (j4 : Nat), j3 < j4 ∧ j4 ≤ m ∧ i = .int .i64 j4 ∧ Own wx (w.heap.size + 1) 5 1 A3 n3 c3 (D3.map b8) ∧ Below w.heap.size w wx ∧ w.heap.size < wx.heap.size ∧
                        Hid (wx.heap[w.heap.size]? = some (.cells #[.int .i64 0, .slice none 0 0, .int .i64 0] 71 (0, 0))) ∧ Hid (feedP st0 l = ((feedP ⟨stK sz 2, 0, 0, 0, D3⟩ (l.drop j4)).1 + j4, (feedP ⟨stK sz 2, 0, 0, 0, D3⟩ (l.drop j4)).2)))
                    case first =>
                      go_wp2_with fail
                      go_loopw [4, 8] (fun i k wx => ∃ (k2 : Nat), k2 ≤ 2 ∧ j3 + k2 ≤ m ∧ i = .int .i64 (j3 + k2 : Nat) ∧ k = .int .i64 k2 ∧ Own wx (w.heap.size + 1) 5 1 A3 n3 c3 (D3.map b8) ∧ Below w.heap.size w wx ∧ w.heap.size < wx.heap.size ∧
                        Hid (wx.heap[w.heap.size]? = some (.cells #[.int .i64 0, .slice none 0 0, .int .i64 0] 71 (0, 0))) ∧ Hid (feedP st0 l = ((feedP ⟨stK sz k2, 0, 0, 0, D3⟩ (l.drop (j3 + k2))).1 + (j3 + k2), (feedP ⟨stK sz k2, 0, 0, 0, D3⟩ (l.drop (j3 + k2))).2))) (fun _ k _ => 2 - (intOf k).toNat)
                      case atStart => exact ⟨0, by omega, by omega, by go_num, rfl, ho3, hbel3, hsz3, hcell3, hH5⟩
                      case round =>
                        obtain ⟨k2, hk2, hj4, rfl, rfl, ho4, hbel4, hsz4, hcell4, hH6⟩ := hrel
                        obtain ⟨j4, ej4⟩ : ∃ j4, j3 + k2 = j4 := ⟨_, rfl⟩
                        have hle3 : j3 ≤ j4 := by omega
                        have hlr4 := hl.below hbel4
                        have hn3 := ho4.lenb
                        rw [ej4] at hH6 hj4 ⊢
                        have hk012 : k2 = 0 ∨ k2 = 1 ∨ k2 = 2 := by omega
                        rcases hk012 with rfl | rfl | rfl
                        rotate_right
                        · go_wp2_with fail
                          go_meet
                          exact ⟨j4, by omega, hj4, rfl, ho4, hbel4, hsz4, hcell4, hH6⟩
                        · have hej := Lib.hid ej4
                          clear ej4
                          obtain ⟨S0, S1, S2, P0, P1, P2⟩ := told_facts hcell4.out
                          by_cases hjm4 : j4 < m
                          · obtain ⟨z, hz, hidz, hzc, hzb⟩ := hlr4.byteAt eb (j4 : Int) j4 rfl hjm4
                            have hjm4' : ((j4 : Int) == m) = false := by
                              simp
                              omega
                            have hz2 := fun ob => (hlr4.alloc ob).byteCell hz.out
                            have hT := take_end sz 0 D3 z (by omega)
                            simp only [Nat.one_ne_zero, if_true, if_false] at hT
                            by_cases hzm : (z.toNat : Int) = 13
                            · rw [if_pos hzm] at hT
                              have hH7 := Lib.hid (feed_on hH6.out hz.out (stK_ne sz 0 (by omega)) rfl hT)
                              have hzm' : ((z.toNat : Int) != 13) = false := by simpa using hzm
                              clear hT hH6 hzm
                              go_wp2_with fail
                              go_region
                              all_goals
                                go_wp2_with fail
                                go_roundw
                                case rel =>
                                  refine ⟨0 + 1, by omega, by have := hej.out; omega, ?_, by go_num, (ho4.alloc _).drew, (hbel4.alloc hbel4.size _).drew, size_alloc_drew hsz4 _, (Below.heap_alloc _ _ _ hsz4).trans hcell4.out, ?_⟩
                                  · have := hej.out
                                    congr 1
                                    omega
                                  · have := hej.out
                                    have e1 : j3 + (0 + 1) = j4 + 1 := by omega
                                    rw [e1]
                                    exact hH7
                                case measure => simp [intOf]
                            · rw [if_neg hzm] at hT
                              have hF := Lib.hid (feed_end (feed_on hH6.out hz.out (stK_ne sz 0 (by omega)) rfl hT) (.inr (.inr (by show (4 : Int) ≠ 0; omega))))
                              have hzm' : ((z.toNat : Int) != 13) = true := by simpa using hzm
                              clear hT hH6 hzm
                              go_wp2_with fail
                              go_region
                              all_goals
                                go_wp2_with fail
                                refine bodyPost_ret (results_cell_row rfl _ _ w.heap.size _ _ _ _ rfl (told_set_alloc hcell4.out _) Tryz.underlying71 rfl (by kernel_rfl)) rfl ?_
                                obtain ⟨o1, o2⟩ := told_world hbel4 ho4 (.int .i64 0) (.slice none 0 0) (.int .i64 4)
                                rw [hF.out]
                                exact ⟨none, 0, 0, rfl, Own.nil_ _ _ _ _, (o2.alloc o2.size _).drew⟩
                          · have hF := Lib.hid ((feed_end hH6.out (.inl (by omega))).trans (Prod.ext rfl rfl))
                            have hTd := Lib.hid (told_open (j := j4) (D := D3) (stK_ne sz 0 (by omega)))
                            have hjm4' : ((j4 : Int) == m) = true := by
                              simp
                              omega
                            clear hH6
                            go_wp2_with fail
                            refine bodyPost_ret (results_cell_row rfl _ _ w.heap.size _ _ _ _ rfl (told_set hcell4.out) Tryz.underlying71 rfl (by kernel_rfl)) rfl ?_
                            obtain ⟨o1, o2⟩ := told_world hbel4 ho4 (.int .i64 (-1)) (.slice A3 n3 c3) (.int .i64 0)
                            rw [hF.out, hTd.out]
                            exact ⟨A3, n3, c3, rfl, o1, o2⟩
                        · have hej := Lib.hid ej4
                          clear ej4
                          obtain ⟨S0, S1, S2, P0, P1, P2⟩ := told_facts hcell4.out
                          by_cases hjm4 : j4 < m
                          · obtain ⟨z, hz, hidz, hzc, hzb⟩ := hlr4.byteAt eb (j4 : Int) j4 rfl hjm4
                            have hjm4' : ((j4 : Int) == m) = false := by
                              simp
                              omega
                            have hz2 := fun ob => (hlr4.alloc ob).byteCell hz.out
                            have hT := take_end sz 1 D3 z (by omega)
                            simp only [Nat.one_ne_zero, if_true, if_false] at hT
                            by_cases hzm : (z.toNat : Int) = 10
                            · rw [if_pos hzm] at hT
                              have hH7 := Lib.hid (feed_on hH6.out hz.out (stK_ne sz 1 (by omega)) rfl hT)
                              have hzm' : ((z.toNat : Int) != 10) = false := by simpa using hzm
                              clear hT hH6 hzm
                              go_wp2_with fail
                              go_region
                              all_goals
                                go_wp2_with fail
                                go_roundw
                                case rel =>
                                  refine ⟨1 + 1, by omega, by have := hej.out; omega, ?_, by go_num, (ho4.alloc _).drew, (hbel4.alloc hbel4.size _).drew, size_alloc_drew hsz4 _, (Below.heap_alloc _ _ _ hsz4).trans hcell4.out, ?_⟩
                                  · have := hej.out
                                    congr 1
                                    omega
                                  · have := hej.out
                                    have e1 : j3 + (1 + 1) = j4 + 1 := by omega
                                    rw [e1]
                                    exact hH7
                                case measure => simp [intOf]
                            · rw [if_neg hzm] at hT
                              have hF := Lib.hid (feed_end (feed_on hH6.out hz.out (stK_ne sz 1 (by omega)) rfl hT) (.inr (.inr (by show (4 : Int) ≠ 0; omega))))
                              have hzm' : ((z.toNat : Int) != 10) = true := by simpa using hzm
                              clear hT hH6 hzm
                              go_wp2_with fail
                              go_region
                              all_goals
                                go_wp2_with fail
                                refine bodyPost_ret (results_cell_row rfl _ _ w.heap.size _ _ _ _ rfl (told_set_alloc hcell4.out _) Tryz.underlying71 rfl (by kernel_rfl)) rfl ?_
                                obtain ⟨o1, o2⟩ := told_world hbel4 ho4 (.int .i64 0) (.slice none 0 0) (.int .i64 4)
                                rw [hF.out]
                                exact ⟨none, 0, 0, rfl, Own.nil_ _ _ _ _, (o2.alloc o2.size _).drew⟩
                          · have hF := Lib.hid ((feed_end hH6.out (.inl (by omega))).trans (Prod.ext rfl rfl))
                            have hTd := Lib.hid (told_open (j := j4) (D := D3) (stK_ne sz 1 (by omega)))
                            have hjm4' : ((j4 : Int) == m) = true := by
                              simp
                              omega
                            clear hH6
                            go_wp2_with fail
                            refine bodyPost_ret (results_cell_row rfl _ _ w.heap.size _ _ _ _ rfl (told_set hcell4.out) Tryz.underlying71 rfl (by kernel_rfl)) rfl ?_
                            obtain ⟨o1, o2⟩ := told_world hbel4 ho4 (.int .i64 (-1)) (.slice A3 n3 c3) (.int .i64 0)
                            rw [hF.out, hTd.out]
                            exact ⟨A3, n3, c3, rfl, o1, o2⟩
                    case rest =>
                      obtain ⟨j4, hj34, hj4, rfl, ho4, hbel4, hsz4, hcell4, hH6⟩ := hcut
                      obtain ⟨S0, S1, S2, P0, P1, P2⟩ := told_facts hcell4.out
                      by_cases hs0 : sz = 0
                      · have hs0' : ((sz : Int) == 0) = true := by simpa using hs0
                        have hnx : stK sz 2 = 9 := by rw [stK, if_pos hs0]; rfl
                        rw [hnx] at hH6
                        have hF := Lib.hid (feed_end hH6.out (.inr (.inl rfl)))
                        have hTd := Lib.hid (told_done (j := j4) (D := D3))
                        clear hH6 hnx hs0
                        go_wp2_with fail
                        refine bodyPost_ret (results_cell_row rfl _ _ w.heap.size _ _ _ _ rfl (told_set hcell4.out) Tryz.underlying71 rfl (by kernel_rfl)) rfl ?_
                        obtain ⟨o1, o2⟩ := told_world hbel4 ho4 (.int .i64 j4) (.slice A3 n3 c3) (.int .i64 0)
                        rw [hF.out, hTd.out]
                        exact ⟨A3, n3, c3, rfl, o1, o2⟩
                      · have hs0' : ((sz : Int) == 0) = false := by simpa using hs0
                        have hnx : stK sz 2 = 2 := by rw [stK, if_neg hs0]; rfl
                        rw [hnx] at hH6
                        clear hnx hs0
                        go_wp2_with fail
                        go_roundw
                        case rel => exact ⟨j4, A3, n3, c3, D3, hj4, rfl, rfl, ho4, hl3, hbel4, hsz4, hcell4, hH6⟩
                        case measure => simp [intOf]; omega
              · have hw := hT.out
                rw [if_pos h10] at hw
                have hF := Lib.hid (feed_end (feed_on hH3.out hy.out (by show (3 : Int) ≠ 9; omega) rfl hw) (.inr (.inr (by show (4 : Int) ≠ 0; omega))))
                have h10' : ((y.toNat : Int) != 10) = true := by simpa using h10
                clear hw hH3 h10 hT
                go_wp2_with fail
                refine bodyPost_ret (results_cell_row rfl _ _ w.heap.size _ _ _ _ rfl (told_set hcell.out) Tryz.underlying71 rfl (by kernel_rfl)) rfl ?_
                obtain ⟨o1, o2⟩ := told_world hbel ho (.int .i64 0) (.slice none 0 0) (.int .i64 4)
                rw [hF.out]
                exact ⟨none, 0, 0, rfl, Own.nil_ _ _ _ _, o2⟩
            · have hF := Lib.hid (feed_end hH3.out (.inl (by omega)))
              have hj1' : (j2 : Int) + 1 = m := by omega
              clear hH3
              go_wp2_with fail
              refine bodyPost_ret (results_cell_row rfl _ _ w.heap.size _ _ _ _ rfl (told_set hcell.out) Tryz.underlying71 rfl (by kernel_rfl)) rfl ?_
              obtain ⟨o1, o2⟩ := told_world hbel ho (.int .i64 (-1)) (.slice A' n' c') (.int .i64 0)
              rw [hF.out]
              exact ⟨A', n', c', rfl, o1, o2⟩
          · have hw := Hno.out.trans (if_neg hn0)
            rw [wantP, if_neg h13] at hw
            have hF := Lib.hid (feed_end (feed_on hH2.out hx.out (by show (2 : Int) ≠ 9; omega) rfl hw) (.inr (.inr (by show (4 : Int) ≠ 0; omega))))
            have h13' : ((x.toNat : Int) != 13) = true := by simpa using h13
            clear hw hH hH2 h13 hn0
            go_wp2_with fail
            refine bodyPost_ret (results_cell_row rfl _ _ w.heap.size _ _ _ _ rfl (told_set hcell.out) Tryz.underlying71 rfl (by kernel_rfl)) rfl ?_
            obtain ⟨o1, o2⟩ := told_world hbel ho (.int .i64 0) (.slice none 0 0) (.int .i64 4)
            rw [hF.out]
            exact ⟨none, 0, 0, rfl, Own.nil_ _ _ _ _, o2⟩

end Go.Proofs.YtckkmdigmecagaaGreatDoor
