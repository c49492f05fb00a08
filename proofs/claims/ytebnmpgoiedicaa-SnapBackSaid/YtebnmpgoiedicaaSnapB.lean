/-
  The document's May; Bytes.
-/
import Derived.Test.YtebnmpgoiedicaaSnapA
import Derived.Test.YtebnmpgoiedicaaRefB
import Derived.Test.YtebnmpgoiedicaaStrs
namespace Go.Proofs.Ytebnmpgoiedicaa
open Go.RowKit

theorem mayB_all {t : Int} {s : ByteArray} (h : ∀ k (hk : k < s.size), 32 ≤ (s[k].toNat : Int) ∧ (s[k].toNat : Int) ≤ 126) : mayB t s = (decide (0 ≤ t) && decide (s.size ≤ 64)) := by
  by_cases h0 : 0 ≤ t
  · by_cases h1 : s.size ≤ 64
    · rw [may_good h0 h1 h]
      simp [h0, h1]
    · rw [may_neg (.inr (by omega))]
      simp [h1]
  · rw [may_neg (.inl (by omega))]
    simp [h0]

set_option maxRecDepth 20000 in
set_option maxHeartbeats 2000000 in
theorem RMay_any (R : List UInt8) (t : Int) (s : ByteArray) (hR : R.length = 32) (w : World) (hs : s.size ≤ 9223372036854775807) :
    Calls Try.prog 10 #[.agg (mC R t s)] w fun e w' => e = .returned (.bool (mayB t s)) ∧ Below w.heap.size w w' := by
  have hm := Man.new (t := t) (s := s) w hR
  have h1 := hm.time
  have h2 := hm.label
  have h3 := mC_time (t := t) (s := s) hR
  have h4 := mC_label (t := t) (s := s) hR
  have hb := (Below.refl w.heap.size w).alloc (Nat.le_refl _) (.cells (mC R t s) 25)
  go_enter Try.func10, Try.ntmps10
  go_wp2_with fail
  go_loop [3] (fun i => ∃ k : Nat, k ≤ s.size ∧ i = .int .i64 k ∧ Hid (∀ j (hj : j < s.size), j < k → 32 ≤ (s[j].toNat : Int) ∧ (s[j].toNat : Int) ≤ 126)) (fun i => s.size - (intOf i).toNat)
  case atStart => exact ⟨0, by omega, rfl, (show ∀ j (hj : j < s.size), j < 0 → _ from fun j _ h => absurd h (Nat.not_lt_zero j))⟩
  case round =>
    obtain ⟨k, hk, rfl, hH⟩ := hrel
    by_cases hlt : k < s.size
    · by_cases hx : (s[k].toNat : Int) < 32
      · have HB := Lib.hid (may_bad (t := t) hlt (.inl hx))
        go_wp2_with fail
        go_ret
        rw [HB.out]
        exact ⟨rfl, hb⟩
      · by_cases hy : 126 < (s[k].toNat : Int)
        · have HB := Lib.hid (may_bad (t := t) hlt (.inr hy))
          have hx' : 32 ≤ (s[k].toNat : Int) := by omega
          clear hx
          go_wp2_with fail
          go_ret
          rw [HB.out]
          exact ⟨rfl, hb⟩
        · have hx' : 32 ≤ (s[k].toNat : Int) := by omega
          have hy' : (s[k].toNat : Int) ≤ 126 := by omega
          clear hx hy
          go_wp2_with fail
          refine ⟨⟨k + 1, by omega, by go_num, ?_⟩, by simp [intOf]; omega⟩
          show ∀ j (hj : j < s.size), j < k + 1 → _
          intro j hj hjk
          by_cases e : j = k
          · subst e
            exact ⟨hx', hy'⟩
          · exact hH.out j hj (by omega)
    · have HB := Lib.hid (mayB_all (t := t) (s := s) (fun j hj => hH.out j hj (by omega)))
      by_cases h0 : 0 ≤ t
      · have h0' : decide (0 ≤ t) = true := by simpa using h0
        by_cases h64 : (s.size : Int) ≤ 64
        · have h64' : decide (s.size ≤ 64) = true := by
            simp
            omega
          rw [h0', h64'] at HB
          clear h64'
          go_wp2_with fail
          go_ret
          rw [HB.out]
          exact ⟨rfl, hb⟩
        · have h64' : decide (s.size ≤ 64) = false := by
            simp
            omega
          have h64'' : decide ((s.size : Int) ≤ 64) = false := by simpa using h64
          rw [h0', h64'] at HB
          clear h64 h64'
          go_wp2_with fail
          go_ret
          rw [HB.out]
          exact ⟨rfl, hb⟩
      · have h0' : decide (0 ≤ t) = false := by simpa using h0
        rw [h0', Bool.false_and] at HB
        clear h0
        go_wp2_with fail
        go_ret
        rw [HB.out]
        exact ⟨rfl, hb⟩

/-- What Bytes hands back. -/
def bytesP (R : List UInt8) (t : Int) (s : ByteArray) : List UInt8 × Int := if mayB t s then ([83, 49] ++ R ++ putB t.toNat 8 ++ countB s.size ++ s.data.toList, 0) else ([], 1)

theorem size_man {R : List UInt8} {t : Int} {s : ByteArray} (hR : R.length = 32) : (Try.prog.info? 25).map (·.size) = some (mC R t s).size := by
  rw [mC_size hR]
  kernel_rfl

theorem put8 (l : List UInt8) (t : Int) : putR l t 8 = (l ++ putB t.toNat 8, 0) := by
  unfold putR
  rw [if_neg (by omega), if_neg (by omega)]
  rfl
theorem text_short (l s : List UInt8) (h : s.length ≤ 65536) : textR l s = (l ++ countB s.length ++ s, 0) := if_neg (by omega)
theorem may_time {t : Int} {s : ByteArray} (h : mayB t s = true) : 0 ≤ t := by
  unfold mayB at h
  rw [Bool.and_eq_true, Bool.and_eq_true] at h
  simpa using h.1.1

theorem may_size {t : Int} {s : ByteArray} (h : mayB t s = true) : s.size ≤ 64 := by
  unfold mayB at h
  rw [Bool.and_eq_true, Bool.and_eq_true] at h
  simpa using h.1.2

set_option maxRecDepth 20000 in
set_option maxHeartbeats 2000000 in
theorem Bytes_any (R : List UInt8) (t : Int) (s : ByteArray) (hR : R.length = 32) (w : World) (hs : s.size ≤ 1048576) (ht0 : -9223372036854775808 ≤ t) (ht1 : t ≤ 9223372036854775807) :
    Calls Try.prog 7 #[.agg (mC R t s)] w fun e w' => ∃ A n c, e = .returned (.tuple #[.slice A n c, .int .i64 (bytesP R t s).2]) ∧ Own w' w.heap.size 5 1 A n c ((bytesP R t s).1.map b8) ∧ Below w.heap.size w w' := by
  have hm := Man.new (t := t) (s := s) w hR
  have h1 := hm.time
  have h2 := hm.label
  have h3 := mC_time (t := t) (s := s) hR
  have h4 := mC_label (t := t) (s := s) hR
  have hsz := Lib.hid (size_man (t := t) (s := s) hR)
  have hb := (Below.refl w.heap.size w).alloc (Nat.le_refl _) (.cells (mC R t s) 25)
  have hM := Lib.hid (fun W => May_any R t s hR W (by omega))
  by_cases hmay : mayB t s = true
  · have HB : Hid (bytesP R t s = _) := if_pos hmay
    have ht2 := Lib.hid (may_time hmay)
    have hs64 := may_size hmay
    rw [hmay] at hM
    clear hmay
    go_enter Try.func7, Try.ntmps7
    go_wp2_with (refine wpList_load_row rfl _ _ rfl w.heap.size rfl _ _ _ _ hm.obj Try.underlying25 rfl hsz.out ?_)
    refine (hM.out _).mono ?_
    rintro e w1 ⟨rfl, hbl1⟩
    have hm1 := hm.below hbl1
    have r1 := hm1.time
    have r2 := hm1.label
    have hroot := hm1.root
    have hB1 := hb.trans (hbl1.mono hb.size)
    have hcv := fun (W : World) (C : Array Value) (n c : Nat) => Lib.run_convert_bytes_const (P := Try.prog) W 27 5 C n c Try.underlying27 Try.underlying5
    have hlit := Own.new (base := w1.heap.size) (e := 5) (size := 1) w1 #[.int .u8 83, .int .u8 49] (2, 3) 2 2 (([83, 49] : List UInt8).map b8) (Nat.le_refl _) (Nat.le_refl _) (by decide) (by decide) (by decide) (by simp [b8]) (fun j _ h => by omega)
    have HP := Lib.hid (put8 ([83, 49] ++ R) t)
    have HT := Lib.hid (text_short ([83, 49] ++ R ++ putB t.toNat 8) s.data.toList (by simpa using (by omega : s.size ≤ 65536)))
    have ht : 0 ≤ t := ht2.out
    go_wp2_with (at_builtin; refine wpList_app rfl _ _ rfl eb hlit rfl (hroot.alloc _) rfl (b8_one _) (by omega) (by unfold maxLen; omega) (by simp) ?_; intro A2 c2 w2 ho2 hg2 hq2; rw [← List.map_append] at ho2; have hbl2 := ((Below.refl w1.heap.size w1).alloc (Nat.le_refl _) _).grown hg2 (by simp) (by intro g hg; simp [blk] at hg; omega); have hm2 := hm1.below hbl2; have p1 := hm2.time; have p2 := hm2.label)
    refine (Put_any A2 34 c2 _ t 8 _ ho2.rd (by omega) ht (by omega)).mono ?_
    rintro e w3 ⟨A3, n3, c3, rfl, ho3, hbl3⟩
    rw [HP.out] at ho3 ⊢
    have hn3 := ho3.lenb
    have hm3 := hm2.below hbl3
    have q1 := hm3.time
    have q2 := hm3.label
    have hB3 := hB1.trans ((hbl2.trans (hbl3.mono hbl2.size)).mono hB1.size)
    have hn3' : n3 ≤ 1000 := by
      rw [← hn3]
      simp only [List.length_append, List.length_cons, List.length_nil, putB_length]
      omega
    clear hn3 h1 h2 h3 h4 r1 r2 p1 p2 hg2 hq2 ho2 hlit
    go_wp2_with (refine wpList_s2b rfl _ rfl Try.underlying9 Try.underlying27 Try.underlying5 s rfl (by omega) ?_; intro c4 w4 ho4 hbl4)
    refine (Text_any A3 n3 c3 _ _ s.size c4 _ _ (ho3.below hbl4).rd ho4.rd (by omega) (by omega)).mono ?_
    rintro e w5 ⟨A5, n5, c5, rfl, ho5, hbl5⟩
    rw [HT.out] at ho5 ⊢
    have hB4 := hB3.trans (hbl4.mono hB3.size)
    go_wp2_with fail
    go_ret2
    rw [HB.out]
    exact ⟨A5, n5, c5, rfl, ho5.mono hB4.size, hB4.trans (hbl5.mono hB4.size)⟩
  · have HB : Hid (bytesP R t s = _) := if_neg hmay
    have hmay' : mayB t s = false := by simpa using hmay
    rw [hmay'] at hM
    clear hmay hmay'
    go_enter Try.func7, Try.ntmps7
    go_wp2_with (refine wpList_load_row rfl _ _ rfl w.heap.size rfl _ _ _ _ hm.obj Try.underlying25 rfl hsz.out ?_)
    refine (hM.out _).mono ?_
    rintro e w1 ⟨rfl, hbl1⟩
    go_wp2_with fail
    go_ret2
    rw [HB.out]
    exact ⟨none, 0, 0, rfl, Own.nil_ _ _ _ _, hb.trans (hbl1.mono hb.size)⟩

end Go.Proofs.Ytebnmpgoiedicaa
