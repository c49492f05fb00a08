/-
  The law ReplyTwo.
-/
import Derived.Test.YtogkmlodcdgegaaDoorReN
namespace Go.Proofs.YtogkmlodcdgegaaDoor
open Go.RowKit

theorem rp_0 {w w' : World} {g : Nat} {v : Int} {A : Option Addr} {n c : Nat} {b : Bool} (h : w.heap[g]? = some (.cells (rpA v A n c b) 24 (0, 0))) (hb : w'.heap[g]? = w.heap[g]?) :
    w'.heap[g]? = some (.cells (rpA v A n c b) 24 (0, 0)) ∧ w'.cell? ⟨g, 0, none⟩ = some (.int .i64 v) ∧ w'.cell? ⟨g, 1, none⟩ = some (.slice A n c) ∧ w'.cell? ⟨g, 2, none⟩ = some (.bool b) :=
  ⟨hb.trans h, cell_of (hb.trans h) rfl, cell_of (hb.trans h) rfl, cell_of (hb.trans h) rfl⟩
theorem bytesR_err {v : Int} {l : List UInt8} {c : Bool} (h : isSt v) : (bytesR v l c).2 = 0 := by unfold bytesR; rw [if_pos h]
theorem bytesR_no {v : Int} {l : List UInt8} {c : Bool} (h : ¬ isSt v) : (bytesR v l c).2 = 1 := by unfold bytesR; rw [if_neg h]

set_option maxRecDepth 20000 in
set_option maxHeartbeats 8000000 in
theorem replyTwo_walk {w : World} (ht : Tab w) (v : Int) (A : Option Addr) (n c : Nat) (l : List UInt8) (b : Bool) (_ : -9223372036854775808 ≤ v) (_ : v ≤ 9223372036854775807) (h : Rd w 1 A n c (l.map b8))
    (u : Int) (B : Option Addr) (m d : Nat) (r : List UInt8) (k : Bool) (_ : -9223372036854775808 ≤ u) (_ : u ≤ 9223372036854775807) (h' : Rd w 1 B m d (r.map b8)) :
    Calls Tryd.prog 6 #[.agg (rpA v A n c b), .agg (rpA u B m d k)] w fun e w' => e = .returned (.bool true) ∧ Below w.heap.size w w' := by
  have HB := Lib.hid (fun W (hb : Below w.heap.size w W) => begun_any W (ht.below hb))
  have HT := Lib.hid (fun W (hb : Below w.heap.size w W) => ht.below hb)
  have HH := Lib.hid h
  have HH2 := Lib.hid h'
  have HLN := Lib.hid h.lenb
  have HLM := Lib.hid h'.lenb
  clear h h' ht
  by_cases q1 : (4096 : Int) < n
  · go_enter Tryd.func6, Tryd.ntmps6
    go_wp2_with (first
      | (have := hcA.out; refine wpList_box rfl _ _ rfl (rpA u B m d k) rfl ?_; intro w2 hg2 hb2 hz2; have hlt2 : w1.heap.size < w2.heap.size := (by omega); clear hz2)
      | (refine wpList_box rfl _ _ rfl (rpA v A n c b) rfl ?_; intro w1 hg1 hb1 hz1; have hlt1 : w.heap.size < w1.heap.size := (by omega); clear hz1; have hcA := Lib.hid True.intro))
    have hB2 := hb1.trans (hb2.mono (Nat.le_of_lt hlt1))
    refine (HB.out _ hB2).mono ?_
    rintro e w3 ⟨rfl, hb3⟩
    have hG1 := (hb3.block _ (by omega)).trans ((hb2.block _ hlt1).trans hg1)
    have hG2 := (hb3.block _ hlt2).trans hg2
    have hB3 := hB2.trans (hb3.mono hB2.size)
    have hs3 := hb3.size
    obtain ⟨_, a0, a1, a2⟩ := rp_0 hG1 rfl
    obtain ⟨_, e0, e1, e2⟩ := rp_0 hG2 rfl
    obtain ⟨g1, hg1e⟩ : ∃ g, w1.heap.size = g := ⟨_, rfl⟩
    rw [hg1e] at e0 e1 e2 hG2 hlt1 hlt2 ⊢
    clear hg1 hg2 hb1 hb2 hb3 hcA hg1e hB2
    have q1' : decide ((4096 : Int) < n) = true := decide_eq_true q1
    clear q1 a0 a2 e0 e2
    go_wp2_with fail
    go_ret
    exact ⟨rfl, hB3⟩
  have q1' : decide ((4096 : Int) < n) = false := decide_eq_false q1
  have n4 : n ≤ 4096 := by omega
  clear q1
  by_cases q2 : (4096 : Int) < m
  · go_enter Tryd.func6, Tryd.ntmps6
    go_wp2_with (first
      | (have := hcA.out; refine wpList_box rfl _ _ rfl (rpA u B m d k) rfl ?_; intro w2 hg2 hb2 hz2; have hlt2 : w1.heap.size < w2.heap.size := (by omega); clear hz2)
      | (refine wpList_box rfl _ _ rfl (rpA v A n c b) rfl ?_; intro w1 hg1 hb1 hz1; have hlt1 : w.heap.size < w1.heap.size := (by omega); clear hz1; have hcA := Lib.hid True.intro))
    have hB2 := hb1.trans (hb2.mono (Nat.le_of_lt hlt1))
    refine (HB.out _ hB2).mono ?_
    rintro e w3 ⟨rfl, hb3⟩
    have hG1 := (hb3.block _ (by omega)).trans ((hb2.block _ hlt1).trans hg1)
    have hG2 := (hb3.block _ hlt2).trans hg2
    have hB3 := hB2.trans (hb3.mono hB2.size)
    have hs3 := hb3.size
    obtain ⟨_, a0, a1, a2⟩ := rp_0 hG1 rfl
    obtain ⟨_, e0, e1, e2⟩ := rp_0 hG2 rfl
    obtain ⟨g1, hg1e⟩ : ∃ g, w1.heap.size = g := ⟨_, rfl⟩
    rw [hg1e] at e0 e1 e2 hG2 hlt1 hlt2 ⊢
    clear hg1 hg2 hb1 hb2 hb3 hcA hg1e hB2
    have q2' : decide ((4096 : Int) < m) = true := decide_eq_true q2
    clear q2 a0 a2 e0 e2
    go_wp2_with fail
    go_ret
    exact ⟨rfl, hB3⟩
  have q2' : decide ((4096 : Int) < m) = false := decide_eq_false q2
  have m4 : m ≤ 4096 := by omega
  clear q2
  go_enter Tryd.func6, Tryd.ntmps6
  go_wp2_with (first
    | (have := hcA.out; refine wpList_box rfl _ _ rfl (rpA u B m d k) rfl ?_; intro w2 hg2 hb2 hz2; have hlt2 : w1.heap.size < w2.heap.size := (by omega); clear hz2)
    | (refine wpList_box rfl _ _ rfl (rpA v A n c b) rfl ?_; intro w1 hg1 hb1 hz1; have hlt1 : w.heap.size < w1.heap.size := (by omega); clear hz1; have hcA := Lib.hid True.intro))
  have hB2 := hb1.trans (hb2.mono (Nat.le_of_lt hlt1))
  refine (HB.out _ hB2).mono ?_
  rintro e w3 ⟨rfl, hb3⟩
  have hG1 := (hb3.block _ (by omega)).trans ((hb2.block _ hlt1).trans hg1)
  have hG2 := (hb3.block _ hlt2).trans hg2
  have hB3 := hB2.trans (hb3.mono hB2.size)
  have hs3 := hb3.size
  obtain ⟨_, a0, a1, a2⟩ := rp_0 hG1 rfl
  obtain ⟨_, e0, e1, e2⟩ := rp_0 hG2 rfl
  obtain ⟨g1, hg1e⟩ : ∃ g, w1.heap.size = g := ⟨_, rfl⟩
  rw [hg1e] at e0 e1 e2 hG2 hlt1 hlt2 ⊢
  clear hg1 hg2 hb1 hb2 hb3 hcA hg1e hB2
  have HY := Lib.hid (Bytes_any (HH.out.below hB3) (by omega) v b (HT.out _ hB3))
  have HG1 := Lib.hid hG1
  have HG2 := Lib.hid hG2
  clear a0 a2 e0 e2 hG1 hG2
  have hld1 := HG1.out
  have hld2 := HG2.out
  go_wp2_with (refine wpList_load_all rfl _ _ rfl w.heap.size rfl _ (rpA v A n c b) _ _ HG1.out Tryd.underlying24 rfl (size_rp' _ _ _ _ _) ?_)
  refine HY.out.mono ?_
  rintro e w4 ⟨A4, n4', c4, rfl, ho4, hbl4⟩
  clear hld1 hld2 a1 e1
  have hB4 := hB3.trans (hbl4.mono hB3.size)
  have hG24 := (hbl4.block _ (by omega)).trans HG2.out
  have hG14 := (hbl4.block _ (by omega)).trans HG1.out
  have HG24 := Lib.hid hG24
  have HY2 := Lib.hid (Bytes_any (HH2.out.below hB4) (by omega) u k (HT.out _ hB4))
  have hs4 := hbl4.size
  clear hG24 HY
  go_wp2_with (refine wpList_load_all rfl _ _ rfl g1 rfl _ (rpA u B m d k) _ _ HG24.out Tryd.underlying24 rfl (size_rp' _ _ _ _ _) ?_)
  refine HY2.out.mono ?_
  rintro e w5 ⟨A5, n5, c5, rfl, ho5, hbl5⟩
  have hB5 := hB4.trans (hbl5.mono hB4.size)
  obtain ⟨hG15, a0, a1, a2⟩ := rp_0 hG14 (hbl5.block _ (by omega))
  obtain ⟨hG25, e0, e1, e2⟩ := rp_0 HG24.out (hbl5.block _ (by omega))
  have sx := str_rd (ho4.below hbl5).rd
  have sy := str_rd ho5.rd
  have sl := str_rd (HH.out.below hB5)
  have sr := str_rd (HH2.out.below hB5)
  clear hG14 hG15 hG25 HG24 HG1 HG2 HY2 hbl4 hbl5 hs3 hs4 ho4 ho5 hlt1 hlt2
  by_cases hv : isSt v
  · rw [bytesR_err hv]
    by_cases hu : isSt u
    · rw [bytesR_err hu]
      have hinj := bytes_inj (l := l) (r := r) (c := b) (d := k) hv hu (by rw [HLN.out]; omega) (by rw [HLM.out]; omega)
      obtain ⟨X, hX⟩ : ∃ X, (bytesR v l b).1 = X := ⟨_, rfl⟩
      obtain ⟨Y, hY⟩ : ∃ Y, (bytesR u r k).1 = Y := ⟨_, rfl⟩
      have HXE := Lib.hid hX
      have HYE := Lib.hid hY
      rw [hX] at sx hinj
      rw [hY] at sy hinj
      have HI := Lib.hid hinj
      clear hX hY hinj hv hu
      by_cases c1 : v = u
      · subst c1
        have c1' : (v == v) = true := by simp
        by_cases c2 : b = k
        · subst c2
          have c2' : (b == b) = true := by simp
          by_cases c3 : l = r
          · subst c3
            obtain rfl : X = Y := HXE.out.symm.trans HYE.out
            clear HXE HYE HI
            go_wp2_with fail
            go_ret
            exact ⟨rfl, hB5⟩
          · have hne : (X == Y) = false := by
              rw [beq_eq_false_iff_ne]
              intro e
              exact c3 (HI.out e).2.2
            have hne2 : (l == r) = false := by rw [beq_eq_false_iff_ne]; exact c3
            clear HXE HYE HI c3
            go_wp2_with fail
            go_ret
            exact ⟨rfl, hB5⟩
        · have hne : (X == Y) = false := by
            rw [beq_eq_false_iff_ne]
            intro e
            exact c2 (HI.out e).2.1
          have hne2 : (b == k) = false := by rw [beq_eq_false_iff_ne]; exact c2
          clear HXE HYE HI c2
          go_wp2_with fail
          go_ret
          exact ⟨rfl, hB5⟩
      · have hne : (X == Y) = false := by
          rw [beq_eq_false_iff_ne]
          intro e
          exact c1 (HI.out e).1
        have hne2 : (v == u) = false := by rw [beq_eq_false_iff_ne]; exact c1
        clear HXE HYE HI c1
        go_wp2_with fail
        go_ret
        exact ⟨rfl, hB5⟩
    · rw [bytesR_no hu]
      clear sx sy sl sr hv hu
      go_wp2_with fail
      go_ret
      exact ⟨rfl, hB5⟩
  · rw [bytesR_no hv]
    clear sx sy sl sr hv
    go_wp2_with fail
    go_ret
    exact ⟨rfl, hB5⟩

end Go.Proofs.YtogkmlodcdgegaaDoor
