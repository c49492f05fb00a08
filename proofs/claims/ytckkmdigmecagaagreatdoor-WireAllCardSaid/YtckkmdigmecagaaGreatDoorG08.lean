/-
  Joined texts of this claim's author (each began as a text of its own; each says itself what it holds).
-/
import Derived.Test.YtckkmdigmecagaaGreatDoorG02
import Derived.Test.YtckkmdigmecagaaGreatDoorG07
import Derived.Test.YtckkmdigmecagaaGreatDoorG03
set_option linter.unusedVariables false
set_option linter.unusedSimpArgs false

/-
  The document's answer to field: Line.
-/
namespace Go.Proofs.YtckkmdigmecagaaGreatDoor.Fl
open Go.RowKit

theorem cut1_split (c : UInt8) : ∀ (P R : List UInt8), c ∉ P → cut1 c (P ++ c :: R) = (P, R, true)
  | [], R, _ => by
    rw [List.nil_append, cut1, if_pos rfl]
  | x :: P, R, h => by
    have hx : x ≠ c := fun e => h (by simp [e])
    rw [List.cons_append, cut1, if_neg hx, cut1_split c P R (fun e => h (by simp [e]))]
theorem cut1_no (c : UInt8) : ∀ s : List UInt8, c ∉ s → cut1 c s = (s, [], false)
  | [], _ => rfl
  | x :: s, h => by
    have hx : x ≠ c := fun e => h (by simp [e])
    rw [cut1, if_neg hx, cut1_no c s (fun e => h (by simp [e]))]
theorem cut1_at (c : UInt8) : ∀ (s : List UInt8) (n : Nat) (x : UInt8), (∀ (j : Nat) y, j < n → s[j]? = some y → y ≠ c) → s[n]? = some x → x ≠ c → (cut1 c s).1[n]? = some x
  | [], n, x, _, h, _ => by simp at h
  | y :: s, 0, x, _, h, hx => by
    obtain rfl : y = x := by simpa using h
    rw [cut1, if_neg hx]
    rfl
  | y :: s, n + 1, x, hb, h, hx => by
    have hy := hb 0 y (by omega) rfl
    rw [cut1, if_neg hy]
    exact cut1_at c s n x (fun j z hj hz => hb (j + 1) z (by omega) (by simpa using hz)) (by simpa using h) hx
/-- The cases of a name's byte, by places. -/
theorem name_case2 (x : UInt8) (h58 : x ≠ 58) : ((97 ≤ (x.toNat : Int) ∧ (x.toNat : Int) ≤ 122) ∧ okN x = true) ∨ ((65 ≤ (x.toNat : Int) ∧ (x.toNat : Int) ≤ 90) ∧ okN x = true) ∨ ((48 ≤ (x.toNat : Int) ∧ (x.toNat : Int) ≤ 57) ∧ okN x = true) ∨ ((x.toNat : Int) = 45 ∧ okN x = true) ∨
    (((x.toNat : Int) < 45) ∧ okN x = false) ∨ ((45 < (x.toNat : Int) ∧ (x.toNat : Int) < 48) ∧ okN x = false) ∨ ((57 < (x.toNat : Int) ∧ (x.toNat : Int) < 65) ∧ okN x = false) ∨ ((90 < (x.toNat : Int) ∧ (x.toNat : Int) < 97) ∧ okN x = false) ∨ ((122 < (x.toNat : Int)) ∧ okN x = false) := by
  unfold okN isL
  have h : (97 ≤ x.toNat ∧ x.toNat ≤ 122) ∨ (65 ≤ x.toNat ∧ x.toNat ≤ 90) ∨ (48 ≤ x.toNat ∧ x.toNat ≤ 57) ∨ x.toNat = 45 ∨ x.toNat < 45 ∨ (45 < x.toNat ∧ x.toNat < 48) ∨ (57 < x.toNat ∧ x.toNat < 65) ∨ (90 < x.toNat ∧ x.toNat < 97) ∨ 122 < x.toNat := by omega
  rcases h with h | h | h | h | h | h | h | h | h
  · exact .inl ⟨by omega, by simp; omega⟩
  · exact .inr (.inl ⟨by omega, by simp; omega⟩)
  · exact .inr (.inr (.inl ⟨by omega, by simp; omega⟩))
  · exact .inr (.inr (.inr (.inl ⟨by omega, by simp; omega⟩)))
  · exact .inr (.inr (.inr (.inr (.inl ⟨by omega, by simp; omega⟩))))
  · exact .inr (.inr (.inr (.inr (.inr (.inl ⟨by omega, by simp; omega⟩)))))
  · exact .inr (.inr (.inr (.inr (.inr (.inr (.inl ⟨by omega, by simp; omega⟩))))))
  · exact .inr (.inr (.inr (.inr (.inr (.inr (.inr (.inl ⟨by omega, by simp; omega⟩)))))))
  · exact .inr (.inr (.inr (.inr (.inr (.inr (.inr (.inr ⟨by omega, by simp; omega⟩)))))))

set_option maxRecDepth 20000 in
set_option maxHeartbeats 16000000 in
theorem RLine_any (s : List UInt8) (hs : s.length ≤ 1048576) (w : World) : Calls Tryz.prog 40 #[.string ⟨s.toArray⟩] w (Lined w s) := by
  have hBAD : lineR s = ([], [], 4) → ∀ w', Below w.heap.size w w' → Lined w s (.returned (.tuple #[.agg (fdA [] []), .int .i64 4])) w' := fun h w' hb => by
    unfold Lined
    rw [h]
    exact ⟨rfl, hb⟩
  have HBAD := Lib.hid hBAD
  have hs1 : (s.length : Int) ≤ 1048576 := by omega
  clear hBAD
  go_enter Tryz.func40, Tryz.ntmps40
  go_wp2_with (refine wpList_alloc_zero rfl _ rfl (fdA [] []) zero_fd ?_; intro w1 hg1 hb1 hz1)
  have HG1 := Lib.hid hg1
  have hlt1 : w.heap.size < w1.heap.size := by omega
  clear hg1 hz1
  go_loop [4] (fun i => ∃ n : Nat, n ≤ s.length ∧ i = .int .i64 n ∧ Hid (∀ (j : Nat) x, j < n → s[j]? = some x → okN x = true ∧ x ≠ 58)) (fun i => s.length - (intOf i).toNat)
  case atStart => exact ⟨0, by omega, rfl, (show ∀ (j : Nat) x, j < 0 → _ from fun j x h => absurd h (by omega))⟩
  case round =>
    obtain ⟨n, hn, rfl, hH⟩ := hrel
    by_cases hnl : n < s.length
    · have hx : s[n]? = some (s[n]'hnl) := List.getElem?_eq_getElem hnl
      generalize s[n]'hnl = x at hx
      have hi := run_str_at (P := Tryz.prog) Tryz.underlying9 s n x hx (kl := .i64)
      have hn' : (n : Int) < s.length := by omega
      have hxb : (x.toNat : Int) ≤ 255 := by have := x.toNat_lt; omega
      by_cases h58 : x = 58
      · have h58' : ((x.toNat : Int) != 58) = false := by rw [h58]; rfl
        have hsp : s = s.take n ++ 58 :: s.drop (n + 1) := by
          obtain ⟨h1, h2⟩ := List.getElem?_eq_some_iff.1 hx
          rw [← h58, ← h2, ← List.drop_eq_getElem_cons h1, List.take_append_drop]
        have hnm : (58 : UInt8) ∉ s.take n := fun hm => by
          obtain ⟨j, hj⟩ := List.mem_iff_getElem?.1 hm
          rw [List.getElem?_take] at hj
          split at hj
          · rename_i hjn
            exact (hH.out j 58 hjn hj).2 rfl
          · cases hj
        have hcut : cut1 58 s = (s.take n, s.drop (n + 1), true) := by
          have := cut1_split 58 (s.take n) (s.drop (n + 1)) hnm
          rw [← hsp] at this
          exact this
        have hall : (s.take n).all okN = true := all_of fun j y hy => by
          rw [List.getElem?_take] at hy
          split at hy
          · rename_i hjn
            exact (hH.out j y hjn hy).1
          · cases hy
        have hlb := line_bad (s := s)
        have hlg : (cut1 58 s).2.2 = true → (cut1 58 s).1 ≠ [] → (cut1 58 s).1.all okN = true → (cut1 58 s).2.1.all okV = true → lineR s = (smallL (cut1 58 s).1, trimL (cut1 58 s).2.1, 0) := fun a b c d => if_pos ⟨a, b, c, d⟩
        rw [hcut] at hlb hlg
        dsimp only at hlb hlg
        have HLB := Lib.hid hlb
        have HLG := Lib.hid (fun a b => hlg rfl a hall b)
        have hG := HG1.out
        have hneq : ((n : Int) == (s.length : Int)) = false := by simp; omega
        clear hx h58 hsp hnm hcut hall hlb hlg hH hnl
        by_cases hn0 : n = 0
        · have HE := Lib.hid (HBAD.out (HLB.out (fun h => h.2.1 (by rw [hn0]; rfl))))
          have hn0' : ((n : Int) == 0) = true := by simpa using hn0
          clear hneq hn0
          go_wp2_with (refine wpList_store_all rfl _ _ _ rfl w.heap.size rfl _ (fdA [] []) (fdA [] []) rfl hG (size_fd _ _) rfl (fd_one _ _) ?_; intro w7 hg7 hgr7 hz7)
          refine bodyPost_ret (results_cell_tmp rfl _ _ w.heap.size _ _ _ _ rfl hg7 Tryz.underlying44 rfl (size_fd _ _) _ rfl) rfl ?_
          exact HE.out w7 (hb1.grown hgr7 hb1.size (fun g hg => by obtain rfl := Option.some.inj hg; exact Nat.le_refl _))
        · have hn0' : ((n : Int) == 0) = false := by simpa using hn0
          have hne : s.take n ≠ [] := List.length_pos_iff.1 (by rw [List.length_take]; omega)
          have HNE := Lib.hid hne
          clear hne hn0 hG
          go_wp2_with fail
          go_loop [6] (fun i => ∃ m : Nat, n + 1 ≤ m ∧ m ≤ s.length ∧ i = .int .i64 m ∧ Hid (∀ (j : Nat) x, n + 1 ≤ j → j < m → s[j]? = some x → okV x = true)) (fun i => s.length - (intOf i).toNat)
          case atStart => exact ⟨n + 1, Nat.le_refl _, by omega, by go_num, (show ∀ (j : Nat) x, n + 1 ≤ j → j < n + 1 → _ from fun j x h1 h2 => absurd h1 (by omega))⟩
          case round =>
            obtain ⟨m, hm0, hm, rfl, hH⟩ := hrel
            by_cases hml : m < s.length
            · have hx : s[m]? = some (s[m]'hml) := List.getElem?_eq_getElem hml
              generalize s[m]'hml = y at hx
              have hiy := run_str_at (P := Tryz.prog) Tryz.underlying9 s m y hx (kl := .i64)
              have hm' : (m : Int) < s.length := by omega
              have hyb : (y.toNat : Int) ≤ 255 := by have := y.toNat_lt; omega
              have hnext : okV y = true → ∀ (j : Nat) x, n + 1 ≤ j → j < m + 1 → s[j]? = some x → okV x = true := fun h j z hj0 hj hz => by
                by_cases hjm : j < m
                · exact hH.out j z hj0 hjm hz
                · obtain rfl : j = m := by omega
                  rw [hx] at hz
                  rw [← Option.some.inj hz]
                  exact h
              have hbad : okV y = false → lineR s = ([], [], 4) := fun h => HLB.out (fun h2 => all_at (l := s.drop (n + 1)) (k := m - (n + 1)) (by rw [List.getElem?_drop, ← hx]; congr 1; omega) h h2.2.2.2)
              have HN := Lib.hid hnext
              have HB := Lib.hid hbad
              clear hx hnext hbad hml hH hi
              rcases value_case y with ⟨c1, hok⟩ | ⟨⟨c1, c2⟩, hok⟩ | ⟨⟨c1, c2⟩, hok⟩ | ⟨⟨c1, c2⟩, hok⟩
              · have HN2 := Lib.hid (HN.out hok)
                have c1' : ((y.toNat : Int) != 9) = false := by simpa using c1
                have c2' : (y.toNat : Int) < 32 := by omega
                clear hok c1
                go_wp2_with fail
                go_round
                case rel => exact ⟨m + 1, by omega, by omega, by go_num, HN2.out⟩
                case measure => simp [intOf]; omega
              · have c1' : ((y.toNat : Int) != 9) = true := by simpa using c1
                have HE := Lib.hid (HBAD.out (HB.out hok))
                have hG := HG1.out
                clear hok c1
                go_wp2_with (refine wpList_store_all rfl _ _ _ rfl w.heap.size rfl _ (fdA [] []) (fdA [] []) rfl hG (size_fd _ _) rfl (fd_one _ _) ?_; intro w7 hg7 hgr7 hz7)
                refine bodyPost_ret (results_cell_tmp rfl _ _ w.heap.size _ _ _ _ rfl hg7 Tryz.underlying44 rfl (size_fd _ _) _ rfl) rfl ?_
                exact HE.out w7 (hb1.grown hgr7 hb1.size (fun g hg => by obtain rfl := Option.some.inj hg; exact Nat.le_refl _))
              · have HN2 := Lib.hid (HN.out hok)
                clear hok
                go_wp2_with fail
                go_round
                case rel => exact ⟨m + 1, by omega, by omega, by go_num, HN2.out⟩
                case measure => simp [intOf]; omega
              · have c1' : ((y.toNat : Int) != 9) = true := by simp; omega
                have HE := Lib.hid (HBAD.out (HB.out hok))
                have hG := HG1.out
                clear hok
                go_wp2_with (refine wpList_store_all rfl _ _ _ rfl w.heap.size rfl _ (fdA [] []) (fdA [] []) rfl hG (size_fd _ _) rfl (fd_one _ _) ?_; intro w7 hg7 hgr7 hz7)
                refine bodyPost_ret (results_cell_tmp rfl _ _ w.heap.size _ _ _ _ rfl hg7 Tryz.underlying44 rfl (size_fd _ _) _ rfl) rfl ?_
                exact HE.out w7 (hb1.grown hgr7 hb1.size (fun g hg => by obtain rfl := Option.some.inj hg; exact Nat.le_refl _))
            · obtain rfl : m = s.length := by omega
              have hallV : (s.drop (n + 1)).all okV = true := all_of fun j y hy => by
                rw [List.getElem?_drop] at hy
                exact hH.out (n + 1 + j) y (by omega) (List.getElem?_eq_some_iff.1 hy).1 hy
              have hgood := HLG.out HNE.out hallV
              have HGD := Lib.hid hgood
              have h1 := run_str_h (P := Tryz.prog) Tryz.underlying9 s n (by omega) (kh := .i64)
              have h2 := run_str_l (P := Tryz.prog) Tryz.underlying9 s (n + 1) (by omega) (kl := .i64)
              have h2' : ∀ W, (Instr.sliceAt 9 (.string ⟨s.toArray⟩) (some (.int .i64 ((n : Int) + 1))) none none).run Tryz.prog W = .ok (.string ⟨(s.drop (n + 1)).toArray⟩) W := h2
              have HS := Lib.hid (RSmall_any (s.take n) (by rw [List.length_take]; omega) w1.drew)
              have HT := Lib.hid (fun W => RTrim_any (s.drop (n + 1)) (by rw [List.length_drop]; omega) W)
              have hwr : IntKind.i64.wrap ((n : Int) + 1) = (n : Int) + 1 := IntWalk.i64_in _ (by omega)
              obtain ⟨a, ha⟩ : ∃ a, s.take n = a := ⟨_, rfl⟩
              obtain ⟨b, hbb⟩ : ∃ b, s.drop (n + 1) = b := ⟨_, rfl⟩
              rw [ha] at h1 HS HGD
              rw [hbb] at h2' HT HGD
              have H1 := Lib.hid h1
              have H2 := Lib.hid h2'
              have HW := Lib.hid hwr
              clear hallV hgood hH hml ha hbb h1 h2 h2' hi hwr
              go_wp2_with fail
              have h1 := H1.out
              have h2 := H2.out
              have hwr := HW.out
              refine wp_region_plan (MPlan.reads [0, 1, 2, 4, 5, 6, 7] (.one 3 (MPlan.reads [8, 9] (.one 10 (.read 11 .fin))))) (fun _ => True) (by kernel_rfl) (by kernel_rfl) (by kernel_rfl) (fun _ _ _ _ _ h => h) trivial ?_
              iterate 7 (refine plan_read (o := ⟨_, _, _, _, _, _⟩) (by rfl) (by rfl) ?_; go_big_quiet_step (fail); refine wpQuiet_nil ?_)
              clear h1 h2 hwr
              refine plan_one (o := ⟨_, _, _, _, _, _⟩) (by rfl) (fun K hK => ?_)
              go_wp2_with fail
              refine HS.out.mono ?_
              rintro e w3 ⟨rfl, hb3⟩
              have hb13 : Below w1.heap.size w1 w3 := (Below.refl w1.heap.size w1).drew.trans hb3
              go_wp2_with fail
              refine hK _ _ trivial ?_
              clear hK
              refine plan_quiet (o := ⟨_, _, _, _, _, _⟩) (by rfl) (by rfl) (.string ⟨(trimL b).toArray⟩) (fun W => by go_simp) (fun w' _ => HT.out w') ?_
              simp only [Act.put, List.setIfInBounds_toArray, List.set_cons_succ, List.set_cons_zero]
              refine plan_read (o := ⟨_, _, _, _, _, _⟩) (by rfl) (by rfl) ?_
              go_big_quiet_step (fail)
              refine wpQuiet_nil ?_
              have hG3 := (hb13.block _ hlt1).trans HG1.out
              have hB3 := hb1.trans (hb13.mono hb1.size)
              refine plan_one (o := ⟨_, _, _, _, _, _⟩) (by rfl) (fun K hK => ?_)
              go_wp2_with (refine wpList_store_all rfl _ _ _ rfl w.heap.size rfl _ (fdA [] []) (fdA (smallL a) (trimL b)) rfl hG3 (size_fd _ _) rfl (fd_one _ _) ?_; intro w7 hg7 hgr7 hz7)
              refine hK _ _ trivial ?_
              clear hK
              refine plan_read (o := ⟨_, _, _, _, _, _⟩) (by rfl) (by rfl) ?_
              go_big_quiet_step (fail)
              refine wpQuiet_nil ?_
              refine plan_fin ?_
              go_wp2_with fail
              refine bodyPost_ret (results_cell_tmp rfl _ _ w.heap.size _ _ _ _ rfl hg7 Tryz.underlying44 rfl (size_fd _ _) _ rfl) rfl ?_
              unfold Lined
              rw [HGD.out]
              exact ⟨rfl, hB3.grown hgr7 hB3.size (fun g hg => by obtain rfl := Option.some.inj hg; exact Nat.le_refl _)⟩
      · have h58' : ((x.toNat : Int) != 58) = true := by
          simp
          intro e
          exact h58 (UInt8.toNat_inj.1 (by simpa using (by omega : x.toNat = 58)))
        have hat := cut1_at 58 s n x (fun j y hj hy => (hH.out j y hj hy).2) hx h58
        have hbad : okN x = false → lineR s = ([], [], 4) := fun h => line_bad (fun h2 => all_at hat h h2.2.2.1)
        have hnext : okN x = true → ∀ (j : Nat) y, j < n + 1 → s[j]? = some y → okN y = true ∧ y ≠ 58 := fun h j y hj hy => by
          by_cases hjn : j < n
          · exact hH.out j y hjn hy
          · obtain rfl : j = n := by omega
            rw [hx] at hy
            rw [← Option.some.inj hy]
            exact ⟨h, h58⟩
        have HN := Lib.hid hnext
        have HB := Lib.hid hbad
        have hcs := name_case2 x h58
        clear hx h58 hat hbad hnext hH hnl
        rcases hcs with ⟨⟨c1, c2⟩, hok⟩ | ⟨⟨c1, c2⟩, hok⟩ | ⟨⟨c1, c2⟩, hok⟩ | ⟨c1, hok⟩ | ⟨c1, hok⟩ | ⟨⟨c1, c2⟩, hok⟩ | ⟨⟨c1, c2⟩, hok⟩ | ⟨⟨c1, c2⟩, hok⟩ | ⟨c1, hok⟩
        iterate 3
          · have HN2 := Lib.hid (HN.out hok)
            clear hok
            go_wp2_with fail
            go_round
            case rel => exact ⟨n + 1, by omega, by go_num, HN2.out⟩
            case measure => simp [intOf]; omega
        · have HN2 := Lib.hid (HN.out hok)
          have c1' : ((x.toNat : Int) == 45) = true := by simpa using c1
          have c2' : (x.toNat : Int) < 48 := by omega
          clear hok c1
          go_wp2_with fail
          go_round
          case rel => exact ⟨n + 1, by omega, by go_num, HN2.out⟩
          case measure => simp [intOf]; omega
        all_goals
          have c3' : ((x.toNat : Int) == 45) = false := by simp; omega
          try have d57 : decide ((x.toNat : Int) ≤ 57) = false := decide_eq_false (by omega)
          try have d90 : decide ((x.toNat : Int) ≤ 90) = false := decide_eq_false (by omega)
          try have d122 : decide ((x.toNat : Int) ≤ 122) = false := decide_eq_false (by omega)
          have HE := Lib.hid (HBAD.out (HB.out hok))
          have hG := HG1.out
          clear hok
          go_wp2_with (refine wpList_store_all rfl _ _ _ rfl w.heap.size rfl _ (fdA [] []) (fdA [] []) rfl hG (size_fd _ _) rfl (fd_one _ _) ?_; intro w7 hg7 hgr7 hz7)
          refine bodyPost_ret (results_cell_tmp rfl _ _ w.heap.size _ _ _ _ rfl hg7 Tryz.underlying44 rfl (size_fd _ _) _ rfl) rfl ?_
          exact HE.out w7 (hb1.grown hgr7 hb1.size (fun g hg => by obtain rfl := Option.some.inj hg; exact Nat.le_refl _))
    · obtain rfl : n = s.length := by omega
      have hno : (58 : UInt8) ∉ s := fun hm => by
        obtain ⟨j, hj⟩ := List.mem_iff_getElem?.1 hm
        exact (hH.out j 58 (List.getElem?_eq_some_iff.1 hj).1 hj).2 rfl
      have hbad : lineR s = ([], [], 4) := line_bad (fun h => by rw [cut1_no 58 s hno] at h; cases h.1)
      have HE := Lib.hid (HBAD.out hbad)
      have hG := HG1.out
      have hcc : s.length = 0 ∨ s.length ≠ 0 := by omega
      clear hno hbad hH hnl
      rcases hcc with h0 | h0
      · have h0' : ((s.length : Int) == 0) = true := by simpa using h0
        clear h0
        go_wp2_with (refine wpList_store_all rfl _ _ _ rfl w.heap.size rfl _ (fdA [] []) (fdA [] []) rfl hG (size_fd _ _) rfl (fd_one _ _) ?_; intro w7 hg7 hgr7 hz7)
        refine bodyPost_ret (results_cell_tmp rfl _ _ w.heap.size _ _ _ _ rfl hg7 Tryz.underlying44 rfl (size_fd _ _) _ rfl) rfl ?_
        exact HE.out w7 (hb1.grown hgr7 hb1.size (fun g hg => by obtain rfl := Option.some.inj hg; exact Nat.le_refl _))
      · have h0' : ((s.length : Int) == 0) = false := by simpa using h0
        have h1' : (s.length == 0) = false := by simpa using h0
        clear h0
        go_wp2_with (refine wpList_store_all rfl _ _ _ rfl w.heap.size rfl _ (fdA [] []) (fdA [] []) rfl hG (size_fd _ _) rfl (fd_one _ _) ?_; intro w7 hg7 hgr7 hz7)
        refine bodyPost_ret (results_cell_tmp rfl _ _ w.heap.size _ _ _ _ rfl hg7 Tryz.underlying44 rfl (size_fd _ _) _ rfl) rfl ?_
        exact HE.out w7 (hb1.grown hgr7 hb1.size (fun g hg => by obtain rfl := Option.some.inj hg; exact Nat.le_refl _))

end Go.Proofs.YtckkmdigmecagaaGreatDoor.Fl
