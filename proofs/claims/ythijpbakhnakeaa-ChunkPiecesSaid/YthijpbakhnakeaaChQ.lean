/-
  The law ChunkPieces.
-/
import Derived.Test.YthijpbakhnakeaaChP
import Derived.Test.YthijpbakhnakeaaMix
namespace Go.Proofs.Ythijpbakhnakeaa
open Go.RowKit

/-- The pieces that were cut lie where the bytes came in. -/
theorem cut_blocks {W : World} {A : Option Addr} {n c : Nat} {l : List UInt8} (h : Rd W 1 A n c (l.map b8)) {r : Row} (h1 : 1 ≤ r.n) (h2 : r.n ≤ n) (h3 : blk r.A = blk A) : ∀ k, blk r.A = some k → k < W.heap.size := by
  intro k hk
  have hl := h.lenb
  obtain ⟨a, ha, hlt⟩ := h.lt (k := 0) (by simp; omega)
  rw [h3, ha] at hk
  simp [blk] at hk
  omega
/-- One body fed with what was cut. -/
theorem cut_pieces {W w w1 : World} {A : Option Addr} {n c : Nat} {l : List UInt8} (h : Rd W 1 A n c (l.map b8)) (hn : n ≤ 4096) {g : Nat} (hb : Body w W.heap.size g none 0 0 st0) {L : Option Addr} {m d : Nat} {ll : List Row} (hbl : Below w.heap.size w w1) (ho : Own w1 w.heap.size 27 1 L m d (ll.map Row.val))
    (hE : ∀ r ∈ ll, Rd w 1 r.A r.n r.c (r.l.map b8) ∧ 1 ≤ r.n ∧ r.n ≤ n ∧ blk r.A = blk A) (hf : flat ll = l) (hm : m ≤ 101) :
    Calls Try.prog 13 #[.pointer (some ⟨g, 0, none⟩), .slice L m d] w1 fun e w' => ∃ A' n' c', e = .returned (.tuple #[.int .i64 (feedN st0 l), .int .i64 (feedP st0 l).2.bd]) ∧ Body w' W.heap.size g A' n' c' (finP (feedP st0 l).2) ∧ But (Mine g none) w1 w' ∧ ∀ k, blk A' = some k → w1.heap.size ≤ k := by
  have hln := h.lenb
  have hlt := hb.lt
  have hge := hb.ge
  have hsz := hbl.size
  refine (pieces_any (hb.below hbl) ok0 rfl ⟨ho.rd, fun r hr => (hE r hr).1.below hbl⟩ (fun k hk => ?_) (fun r hr => by have := (hE r hr).2.2.1; omega) (by omega) (by rw [hf]; omega)).mono ?_
  · rcases hk with hk | ⟨r, hr, hk⟩
    · have h1 := ho.lt k hk
      refine ⟨fun hM => ?_, h1.2⟩
      rcases hM with h2 | h2
      · omega
      · simp [blk] at h2
    · obtain ⟨_, h1, h2, h3⟩ := hE r hr
      have h4 := cut_blocks h h1 h2 h3 k hk
      refine ⟨fun hM => ?_, by omega⟩
      rcases hM with h2 | h2
      · omega
      · simp [blk] at h2
  · rintro e w' ⟨A', n', c', rfl, hb', hw', hl'⟩
    rw [hf] at hb' ⊢
    refine ⟨A', n', c', rfl, hb', hw', fun k hk => ?_⟩
    rcases hl' k hk with h1 | h1
    · simp [blk] at h1
    · exact h1
theorem Body.but {S : Nat → Prop} {w w' : World} {base g : Nat} {A : Option Addr} {n c : Nat} {s : St} (h : Body w base g A n c s) (hb : But S w w') (h1 : ¬ S g) (h2 : ∀ k, blk A = some k → ¬ S k) : Body w' base g A n c s :=
  h.keep (hb.block g h.lt h1) fun k hk => hb.block k (h.row.lt k hk).2 (h2 k hk)

set_option maxRecDepth 20000 in
set_option maxHeartbeats 16000000 in
theorem chunkPieces_walk {w : World} (A : Option Addr) (n c : Nat) (l : List UInt8) (h : Rd w 1 A n c (l.map b8)) (A2 : Option Addr) (n2 c2 : Nat) (zs : List Int) (h2 : RdI w A2 n2 c2 zs) (A3 : Option Addr) (n3 c3 : Nat) (ys : List Int) (h3 : RdI w A3 n3 c3 ys) :
    Calls Try.prog 4 #[.slice A n c, .slice A2 n2 c2, .slice A3 n3 c3] w fun e w' => e = .returned (.bool true) ∧ Below w.heap.size w w' := by
  have HH := Lib.hid h
  have H2 := Lib.hid h2
  have H3 := Lib.hid h3
  clear h h2 h3
  by_cases hb1 : (4096 : Int) < n
  · go_enter Try.func4, Try.ntmps4
    go_wp2_with (go_at_call 7; refine (begun_any _).mono ?_; rintro e w1 ⟨rfl, hbl1⟩)
    go_ret
    exact ⟨rfl, hbl1⟩
  by_cases hb2 : (100 : Int) < n2
  · have hb1' : decide ((4096 : Int) < n) = false := by simpa using hb1
    clear hb1
    go_enter Try.func4, Try.ntmps4
    go_wp2_with (go_at_call 7; refine (begun_any _).mono ?_; rintro e w1 ⟨rfl, hbl1⟩)
    go_ret
    exact ⟨rfl, hbl1⟩
  by_cases hb3 : (100 : Int) < n3
  · have hb1' : decide ((4096 : Int) < n) = false := by simpa using hb1
    have hb2' : decide ((100 : Int) < n2) = false := by simpa using hb2
    clear hb1 hb2
    go_enter Try.func4, Try.ntmps4
    go_wp2_with (go_at_call 7; refine (begun_any _).mono ?_; rintro e w1 ⟨rfl, hbl1⟩)
    go_ret
    exact ⟨rfl, hbl1⟩
  have hb1' : decide ((4096 : Int) < n) = false := by simpa using hb1
  have hb2' : decide ((100 : Int) < n2) = false := by simpa using hb2
  have hb3' : decide ((100 : Int) < n3) = false := by simpa using hb3
  have hn : n ≤ 4096 := by omega
  have hn2 : n2 ≤ 100 := by omega
  have hn3 : n3 ≤ 100 := by omega
  obtain ⟨S, hS⟩ : ∃ S, finP (feedP st0 l).2 = S := ⟨_, rfl⟩
  obtain ⟨E, hE⟩ : ∃ E, (feedP st0 l).2.bd = E := ⟨_, rfl⟩
  obtain ⟨N, hN⟩ : ∃ N, feedN st0 l = N := ⟨_, rfl⟩
  have hok := fin_ok (feedP_ok l st0 ok0)
  rw [hS] at hok
  have hgl : S.got.length ≤ 4096 := hok.len
  obtain ⟨Dn, hD⟩ : ∃ Dn, (S.nx == 9) = Dn := ⟨_, rfl⟩
  have HS := Lib.hid hS
  have HE := Lib.hid hE
  have HN := Lib.hid hN
  have HD := Lib.hid hD
  clear hS hE hN hok hD hb1 hb2 hb3
  have key : (E == 0) = true ∨ (E == 0) = false := by cases (E == 0) <;> simp
  rcases key with e1 | e1
  all_goals
    have e2 : (E != 0) = !(E == 0) := rfl
    rw [e1] at e2
    go_enter Try.func4, Try.ntmps4
    go_wp2_with fail
    refine (begun_any _).mono ?_
    rintro e w1 ⟨rfl, hbl1⟩
    go_wp2_with fail
    refine (Chunked_any _).mono ?_
    rintro e w2 ⟨rfl, hba, hbl2⟩
    go_wp2_with fail
    refine (Chunked_any _).mono ?_
    rintro e w3 ⟨rfl, hbb, hbl3⟩
    have hz1 := hbl1.size
    have hz2 := hba.lt
    have hz3 := hbl3.size
    have hz4 := hbb.lt
    have hB3 := hbl1.trans ((hbl2.trans (hbl3.mono hbl2.size)).mono hbl1.size)
    have ha3 := (hba.below hbl3).lower hbl1.size
    have hb3 := hbb.lower (Nat.le_trans hbl1.size hbl2.size)
    clear hba hbb hbl1 hbl2 hbl3
    go_wp2_with fail
    refine (Cut_any A n c l (HH.out.below hB3) A2 n2 c2 zs (H2.out.below hB3) (by omega) (by omega)).mono ?_
    rintro e w4 ⟨L4, m4, d4, ll4, rfl, ho4, hE4, hf4, hm4, hbl4⟩
    have HP4 := Lib.hid (cut_pieces HH.out hn ha3 hbl4 ho4 hE4 hf4 (by omega))
    rw [HS.out, HE.out, HN.out] at HP4
    clear ho4 hE4 hf4
    go_wp2_with fail
    refine HP4.out.mono ?_
    rintro e w5 ⟨A5, n5, c5, rfl, hb5, hw5, hl5⟩
    have hz5 := hbl4.size
    have hz6 := hw5.size
    have hB5 := (hB3.trans (hbl4.mono hB3.size)).trans (hw5.below (fun i hi => by
      rcases hi with h1 | h1
      · omega
      · simp [blk] at h1) (by omega))
    have hbb5 := (hb3.below hbl4).but hw5 (fun hi => by
      rcases hi with h1 | h1
      · omega
      · simp [blk] at h1) (fun k hk => by simp [blk] at hk)
    clear HP4 ha3 hb3 hbl4 hw5
    go_wp2_with fail
    refine (Cut_any A n c l (HH.out.below hB5) A3 n3 c3 ys (H3.out.below hB5) (by omega) (by omega)).mono ?_
    rintro e w6 ⟨L6, m6, d6, ll6, rfl, ho6, hE6, hf6, hm6, hbl6⟩
    have HP6 := Lib.hid (cut_pieces HH.out hn hbb5 hbl6 ho6 hE6 hf6 (by omega))
    rw [HS.out, HE.out, HN.out] at HP6
    clear ho6 hE6 hf6
    go_wp2_with fail
    refine HP6.out.mono ?_
    rintro e w7 ⟨A7, n7, c7, rfl, hb7, hw7, hl7⟩
    have hz7 := hbl6.size
    have hB7 := (hB5.trans (hbl6.mono hB5.size)).trans (hw7.below (fun i hi => by
      rcases hi with h1 | h1
      · omega
      · simp [blk] at h1) (by omega))
    have hba7 := (hb5.below hbl6).but hw7 (fun hi => by
      rcases hi with h1 | h1
      · omega
      · simp [blk] at h1) (fun k hk hi => by
      have := hl5 k hk
      rcases hi with h1 | h1
      · omega
      · simp [blk] at h1)
    clear HP6 hb5 hbb5 hbl6 hw7 hl5 hl7 hB3 hB5 hz1 hz2 hz3 hz4 hz5 hz6 hz7
    go_wp2_with fail
    refine wp_region_mixb [0, 1, 2, 3, 4, 5, 6, 7, 8, 9, 10, 11, 12, 13, 15, 14, 16, 17, 18, 19, 20, 23, 21, 22, 24, 25, 26, 27, 28] (by kernel_rfl) (by kernel_rfl) (by rfl) (by kernel_rfl) (fun _ _ _ _ _ h => h) ?_
    iterate 15 (refine mix_read (o := ⟨_, _, _, _, _, _⟩) (by rfl) (by rfl) ?_; go_big_quiet_step (fail); refine wpQuiet_nil ?_)
    have hd7 := (Below.refl w7.heap.size w7).drew
    refine mixb_call_as (o := ⟨_, _, _, _, _, _⟩) (by rfl) (by rfl) (by rfl) (fun K hK => ?_)
    go_wp2_with fail
    refine (Done_any (hba7.below hd7)).mono ?_
    rintro e w8 ⟨rfl, rfl⟩
    rw [HD.out]
    refine hK _ _ hd7 ?_
    clear hK
    refine mixb_call_as (o := ⟨_, _, _, _, _, _⟩) (by rfl) (by rfl) (by rfl) (fun K hK => ?_)
    go_wp2_with fail
    refine (Done_any (hb7.below hd7)).mono ?_
    rintro e w8 ⟨rfl, rfl⟩
    rw [HD.out]
    refine hK _ _ hd7 ?_
    clear hK
    iterate 5 (refine mix_read (o := ⟨_, _, _, _, _, _⟩) (by rfl) (by rfl) ?_; go_big_quiet_step (fail); refine wpQuiet_nil ?_)
    refine mixb_call (o := ⟨_, _, _, _, _, _⟩) (by rfl) (by rfl) (by rfl) (fun K hK => ?_)
    go_wp2_with fail
    refine (Data_any (hba7.below hd7) (by omega)).mono ?_
    rintro e w8 ⟨A8, n8, c8, rfl, ho8, hbl8⟩
    have hbl8' := hd7.trans hbl8
    have hs8 := fun b : Later w8 => str_rd (ho8.below b.below).rd
    refine hK _ w8 hbl8' ?_
    clear hK
    refine mix_read (o := ⟨_, _, _, _, _, _⟩) (by rfl) (by rfl) ?_
    go_big_quiet_step (fail)
    refine wpQuiet_nil ?_
    refine mixb_call (o := ⟨_, _, _, _, _, _⟩) (by rfl) (by rfl) (by rfl) (fun K hK => ?_)
    go_wp2_with fail
    refine (Data_any (hb7.below hbl8') (by omega)).mono ?_
    rintro e w9 ⟨A9, n9, c9, rfl, ho9, hbl9⟩
    have hs9 := fun b : Later w9 => str_rd (ho9.below b.below).rd
    refine hK _ w9 hbl9 ?_
    clear hK
    iterate 4 (refine mix_read (o := ⟨_, _, _, _, _, _⟩) (by rfl) (by rfl) ?_; go_big_quiet_step (fail); refine wpQuiet_nil ?_)
    refine mix_done ?_
    clear hs8 hs9
    go_wp2_with fail
    go_ret
    exact ⟨rfl, (hB7.trans (hbl8'.mono hB7.size)).trans (hbl9.mono (Nat.le_trans hB7.size hbl8'.size))⟩

end Go.Proofs.Ythijpbakhnakeaa
