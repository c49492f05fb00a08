/-
  Package field and the document's answer: Count, Get.
-/
import Derived.Test.YtpidakfpoihdkaaDoorOpenF
import Derived.Test.YtpidakfpoihdkaaDoorFiG
namespace Go.Proofs.YtpidakfpoihdkaaDoor
open Go.RowKit

def isF (s : List UInt8) (f : Fd) : Bool := f.1 == s
def cntF (fs : List Fd) (s : List UInt8) : Nat := fs.countP (isF s)
def getF (fs : List Fd) (s : List UInt8) : List UInt8 × Int :=
  if cntF fs s = 0 then ([], 5) else if cntF fs s = 1 then (((fs.find? (isF s)).map (·.2)).getD [], 0) else ([], 6)
theorem cnt_succ {fs : List Fd} {k : Nat} {f : Fd} (h : fs[k]? = some f) (s : List UInt8) : cntF (fs.take (k + 1)) s = cntF (fs.take k) s + if isF s f then 1 else 0 := by
  obtain ⟨hk, hf⟩ := List.getElem?_eq_some_iff.1 h
  unfold cntF
  rw [List.take_succ_eq_append_getElem hk, List.countP_append, hf]
  simp [List.countP_cons]
theorem cnt_le (fs : List Fd) (s : List UInt8) : cntF fs s ≤ fs.length := List.countP_le_length
theorem cell_fd {w : World} {g i : Nat} {cs : Array Value} {t : TypeId} {fr : Nat × Nat} {v : Value} (h : w.heap[g]? = some (.cells cs t fr)) (hv : cs[i]? = some v) : w.cell? ⟨g, i, none⟩ = some v := by
  simp [World.cell?, h, hv]
theorem find_at {fs : List Fd} {s : List UInt8} {k : Nat} {f : Fd} (hb : ∀ (j : Nat) g, j < k → fs[j]? = some g → isF s g = false) (h : fs[k]? = some f) (hf : isF s f = true) : fs.find? (isF s) = some f := by
  induction fs generalizing k with
  | nil => simp at h
  | cons g fs ih =>
    cases k with
    | zero =>
      obtain rfl : g = f := by simpa using h
      rw [List.find?_cons, hf]
    | succ k =>
      have hg := hb 0 g (by omega) rfl
      rw [List.find?_cons, hg]
      exact ih (k := k) (fun j x hj hx => hb (j + 1) x (by omega) (by simpa using hx)) (by simpa using h)

set_option maxRecDepth 20000 in
set_option maxHeartbeats 4000000 in
theorem Count_any {w : World} {A : Option Addr} {n c : Nat} {fs : List Fd} (h : Fds w A n c fs) (hn : n ≤ 1000) (s : List UInt8) :
    Calls Tryd.prog 16 #[.slice A n c, .string ⟨s.toArray⟩] w fun e w' => e = .returned (.int .i64 (cntF fs s)) ∧ Below w.heap.size w w' := by
  have HL := Lib.hid h.len
  go_enter Tryd.func16, Tryd.ntmps16
  go_wp2_with fail
  go_loopw [5, 10] (fun v i wr => ∃ k : Nat, k ≤ n ∧ v = .int .i64 (cntF (fs.take k) s) ∧ i = .int .i64 k ∧ Below w.heap.size w wr) (fun _ i _ => n - (intOf i).toNat)
  case atStart => exact ⟨0, by omega, rfl, rfl, Below.refl _ _⟩
  case round =>
    obtain ⟨k, hk, rfl, rfl, hb⟩ := hrel
    by_cases hkn : k < n
    · have hx : fs[k]? = some (fs[k]'(by rw [HL.out]; exact hkn)) := List.getElem?_eq_getElem _
      generalize fs[k]'(by rw [HL.out]; exact hkn) = f at hx
      have hr := h.below hb
      have hidx := fun W => h.idx hkn W
      have hld := hr.load hx
      have hcs := cnt_succ hx s
      have hle : cntF (fs.take k) s ≤ 1000 := by
        have := cnt_le (fs.take k) s
        rw [List.length_take] at this
        omega
      have hk' : (k : Int) < n := by omega
      have HLD := Lib.hid hld
      obtain ⟨f1, f2⟩ := f
      dsimp only at HLD
      have HCS := Lib.hid hcs
      clear hx hkn hld hcs hr
      obtain ⟨C, hC⟩ : ∃ C, cntF (fs.take k) s = C := ⟨_, rfl⟩
      rw [hC] at HCS hle ⊢
      clear hC
      by_cases he : f1 = s
      · have he' : (f1 == s) = true := by simpa using he
        have HN : Hid (cntF (fs.take (k + 1)) s = C + 1) := by
          show _ = _
          rw [HCS.out, if_pos (show isF s (f1, f2) = true from he')]
        clear he HCS
        go_wp2_with (first
          | (refine wpList_load_run rfl _ _ rfl _ rfl _ HLD.out ?_)
          | (refine wpList_alloc_zero rfl _ rfl (fdA [] []) zero_fd ?_; intro w4 hg4 hb4 hz4; clear hz4)
          | (refine wpList_store_all rfl _ _ _ rfl wr.heap.size rfl _ _ _ rfl hg4 (size_fd _ _) rfl (fd_one _ _) ?_; intro w5 hg5 hgr5 hz5; clear hz5; have hb5 : Below wr.heap.size wr w5 := hb4.grown hgr5 hb4.size (fun g hg => (by obtain rfl := Option.some.inj hg; exact Nat.le_refl _)); have hc0 : w5.cell? ⟨wr.heap.size, 0, none⟩ = some (.string ⟨f1.toArray⟩) := cell_fd hg5 rfl))
        go_roundw
        case rel => exact ⟨k + 1, by omega, by rw [HN.out]; go_num, by go_num, hb.trans (hb5.mono hb.size)⟩
        case measure => simp [intOf]; omega
      · have he' : (f1 == s) = false := by simpa using he
        have HN : Hid (cntF (fs.take (k + 1)) s = C) := by
          show _ = _
          have hne : ¬ isF s (f1, f2) = true := by
            unfold isF
            rw [he']
            exact Bool.false_ne_true
          rw [HCS.out, if_neg hne, Nat.add_zero]
        clear he HCS
        go_wp2_with (first
          | (refine wpList_load_run rfl _ _ rfl _ rfl _ HLD.out ?_)
          | (refine wpList_alloc_zero rfl _ rfl (fdA [] []) zero_fd ?_; intro w4 hg4 hb4 hz4; clear hz4)
          | (refine wpList_store_all rfl _ _ _ rfl wr.heap.size rfl _ _ _ rfl hg4 (size_fd _ _) rfl (fd_one _ _) ?_; intro w5 hg5 hgr5 hz5; clear hz5; have hb5 : Below wr.heap.size wr w5 := hb4.grown hgr5 hb4.size (fun g hg => (by obtain rfl := Option.some.inj hg; exact Nat.le_refl _)); have hc0 : w5.cell? ⟨wr.heap.size, 0, none⟩ = some (.string ⟨f1.toArray⟩) := cell_fd hg5 rfl))
        go_roundw
        case rel => exact ⟨k + 1, by omega, by rw [HN.out], by go_num, hb.trans (hb5.mono hb.size)⟩
        case measure => simp [intOf]; omega
    · obtain rfl : k = n := by omega
      rw [List.take_of_length_le (by rw [HL.out]; exact Nat.le_refl _)]
      clear hkn
      go_wp2_with fail
      go_ret
      exact ⟨rfl, hb⟩

set_option maxRecDepth 20000 in
set_option maxHeartbeats 4000000 in
theorem RCount_any {w : World} {A : Option Addr} {n c : Nat} {fs : List Fd} (h : Fds w A n c fs) (hn : n ≤ 1000) (s : List UInt8) :
    Calls Tryd.prog 17 #[.slice A n c, .string ⟨s.toArray⟩] w fun e w' => e = .returned (.int .i64 (cntF fs s)) ∧ w = w' := by
  have HL := Lib.hid h.len
  go_enter Tryd.func17, Tryd.ntmps17
  go_wp2_with fail
  go_loopw [5, 6] (fun v i wr => ∃ k : Nat, k ≤ n ∧ v = .int .i64 (cntF (fs.take k) s) ∧ i = .int .i64 k ∧ wr = w) (fun _ i _ => n - (intOf i).toNat)
  case atStart => exact ⟨0, by omega, rfl, rfl, rfl⟩
  case round =>
    obtain ⟨k, hk, rfl, rfl, rfl⟩ := hrel
    by_cases hkn : k < n
    · have hx : fs[k]? = some (fs[k]'(by rw [HL.out]; exact hkn)) := List.getElem?_eq_getElem _
      generalize fs[k]'(by rw [HL.out]; exact hkn) = f at hx
      have hidx := fun W => h.idx hkn W
      have hcell := h.name hx
      have hcs := cnt_succ hx s
      have hle : cntF (fs.take k) s ≤ 1000 := by
        have := cnt_le (fs.take k) s
        rw [List.length_take] at this
        omega
      have hk' : (k : Int) < n := by omega
      obtain ⟨f1, f2⟩ := f
      have HCS := Lib.hid hcs
      unfold strV at hcell
      clear hx hkn hcs
      obtain ⟨C, hC⟩ : ∃ C, cntF (fs.take k) s = C := ⟨_, rfl⟩
      rw [hC] at HCS hle ⊢
      clear hC
      by_cases he : f1 = s
      · have he' : (f1 == s) = true := by simpa using he
        have HN : Hid (cntF (fs.take (k + 1)) s = C + 1) := by
          show _ = _
          rw [HCS.out, if_pos (show isF s (f1, f2) = true from he')]
        clear he HCS
        go_wp2_with fail
        go_roundw
        case rel => exact ⟨k + 1, by omega, by rw [HN.out]; go_num, by go_num, by trivial⟩
        case measure => simp [intOf]; omega
      · have he' : (f1 == s) = false := by simpa using he
        have HN : Hid (cntF (fs.take (k + 1)) s = C) := by
          show _ = _
          have hne : ¬ isF s (f1, f2) = true := by
            unfold isF
            rw [he']
            exact Bool.false_ne_true
          rw [HCS.out, if_neg hne, Nat.add_zero]
        clear he HCS
        go_wp2_with fail
        go_roundw
        case rel => exact ⟨k + 1, by omega, by rw [HN.out], by go_num, by trivial⟩
        case measure => simp [intOf]; omega
    · obtain rfl : k = n := by omega
      rw [List.take_of_length_le (by rw [HL.out]; exact Nat.le_refl _)]
      clear hkn
      go_wp2_with fail
      go_ret
      exact ⟨rfl, rfl⟩

end Go.Proofs.YtpidakfpoihdkaaDoor
