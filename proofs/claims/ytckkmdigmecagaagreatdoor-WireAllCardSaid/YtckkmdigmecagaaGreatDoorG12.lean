/-
  Joined texts of this claim's author (each began as a text of its own; each says itself what it holds).
-/
import Derived.Test.YtckkmdigmecagaaGreatDoorG07
import Derived.Test.YtckkmdigmecagaaGreatDoorG06
import Derived.Test.YtckkmdigmecagaaGreatDoorG10
import Derived.Test.YtckkmdigmecagaaGreatDoorG11
import Derived.Test.YtckkmdigmecagaaGreatDoorG00
import Derived.Test.YtckkmdigmecagaaGreatDoorG09
set_option linter.unusedVariables false
set_option linter.unusedSimpArgs false

/-
  The statements about wire, of any pieces: light.
-/
namespace Go.Proofs.YtckkmdigmecagaaGreatDoor
open Go.RowKit

theorem wlight_no {w : World} {A : Option Addr} {n c : Nat} {ll : List Row} (h : Rows2 w A n c ll) (hn : ¬ (n ≤ 80 ∧ sumP 16384 0 ll ≤ 16384)) :
    Calls Tryz.prog 7 #[.slice A n c] w fun e w' => e = .returned (.bool false) ∧ w = w' := by
  have hS := Lib.hid (Sum_any h 16384 (by omega))
  by_cases h80 : (n : Int) ≤ 80
  · obtain ⟨S, hS1⟩ : ∃ S, sumP 16384 0 ll = S := ⟨_, rfl⟩
    rw [hS1] at hS hn
    have hs : decide ((S : Int) ≤ 16384) = false := by
      simp
      omega
    clear hn hS1
    go_enter Tryz.func7, Tryz.ntmps7
    go_wp2_with (go_at_call 22; refine hS.out.mono ?_; rintro e w1 ⟨rfl, rfl⟩)
    go_ret
    exact ⟨rfl, rfl⟩
  · have h80' : (80 : Int) < n := by omega
    clear hn h80
    go_enter Tryz.func7, Tryz.ntmps7
    go_wp2_with fail
    go_ret
    exact ⟨rfl, rfl⟩
theorem wlight_yes {w : World} {A : Option Addr} {n c : Nat} {ll : List Row} (h : Rows2 w A n c ll) (h1 : n ≤ 80) (h2 : sumP 16384 0 ll ≤ 16384) :
    Calls Tryz.prog 7 #[.slice A n c] w fun e w' => e = .returned (.bool true) ∧ w = w' := by
  have hS := Lib.hid (Sum_any h 16384 (by omega))
  obtain ⟨S, hS1⟩ : ∃ S, sumP 16384 0 ll = S := ⟨_, rfl⟩
  rw [hS1] at hS h2
  have hs : ((S : Nat) : Int) ≤ 16384 := by omega
  have h80 : (n : Int) ≤ 80 := by omega
  clear hS1 h1 h2
  go_enter Tryz.func7, Tryz.ntmps7
  go_wp2_with (go_at_call 22; refine hS.out.mono ?_; rintro e w1 ⟨rfl, rfl⟩)
  go_ret
  exact ⟨rfl, rfl⟩

end Go.Proofs.YtckkmdigmecagaaGreatDoor

/-
  What stands while pieces are fed to a wire and read by the document: for WireAll.
-/
namespace Go.Proofs.YtckkmdigmecagaaGreatDoor
open Go.RowKit

/-- What stands at a round. -/
structure XInv (w : World) (ll : List Row) (g : Nat) (wr : World) (j : Nat) (y : WSt) (m1 : WMem) (A : Option Addr) (n c told : Nat) (ov fl : Bool) : Prop where
  W : WireB wr w.heap.size g y m1
  bel : Below w.heap.size w wr
  ok : fl = false → WOk y ∧ y.nx ≤ 4
  bad : fl = true → ov = true ∧ y.nx = 5
  ovT : ov = true → fl = false → y.nx = 4
  ovF : ov = false → Own wr w.heap.size 5 1 A n c ((flat (ll.take j)).map b8) ∧ (∀ k, blk A = some k → ¬ m1.has g k) ∧ ∃ qs, feedW newW (flat (ll.take j)) = (qs, y, 0) ∧ told = qs.length ∧ y.nx ≠ 4
/-- A wire that is over is fed. -/
theorem xfeed_over {w : World} {ll : List Row} {g : Nat} {wr w1 : World} {j : Nat} {y : WSt} {m1 : WMem} {A : Option Addr} {n c told : Nat} {fl : Bool} (h : XInv w ll g wr j y m1 A n c told true fl) (hb1 : Below wr.heap.size wr w1) (hm : Mx w1) (h0 : mxb < w.heap.size) {B : Option Addr} {nB cB : Nat} {bl : Bs} (hb : Rd w1 1 B nB cB (bl.map b8)) (hn : nB ≤ 1048576) (hB : ∀ k, blk B = some k → k < w1.heap.size ∧ wr.heap.size ≤ k) :
    Calls Tryz.prog 10 #[.pointer (some ⟨g, 0, none⟩), .slice B nB cB] w1 fun e w2 => ∃ A' c' m2, e = .returned (.tuple #[.slice A' 0 c', .int .i64 (if fl then 8 else 0)]) ∧ WireB w2 w.heap.size g y m2 ∧ But (m1.has g) w1 w2 ∧ ∀ k, m2.has g k → m1.has g k ∨ w1.heap.size ≤ k := by
  have hW1 := h.W.below hb1
  cases fl with
  | true =>
    obtain ⟨-, h5⟩ := h.bad rfl
    have hc := hW1.cells.1
    rw [h5] at hc
    refine (WFeed_wrong hc _).mono ?_
    rintro e w2 ⟨rfl, rfl⟩
    exact ⟨none, 0, m1, rfl, hW1, But.refl _ _, fun k hk => .inl hk⟩
  | false =>
    have h4 := h.ovT rfl rfl
    obtain ⟨k1, k2⟩ := h.ok rfl
    refine (WFeed_any hW1 k1 k2 hm h0 hb hn (fun k hk => ⟨(hB k hk).1, fun hk2 => ?_⟩)).mono ?_
    · have h1 := (h.W.in_ k hk2).2
      have h2 := (hB k hk).2
      omega
    · rintro e w2 ⟨A', n', c', l, m2, rfl, hW2, hR, hl, hbt, hh, -⟩
      rw [feed_done h4] at hW2 hl ⊢
      have hn' := hR.len
      have e1 : l = [] := by simpa using hl
      rw [e1] at hn'
      have e2 : n' = 0 := hn'.symm
      subst e2
      exact ⟨A', c', m2, rfl, hW2, hbt, hh⟩
theorem xover_next {w : World} {ll : List Row} {g : Nat} {wr w1 w2 w3 : World} {j : Nat} {y : WSt} {m1 m2 : WMem} {A X : Option Addr} {n c told : Nat} {fl : Bool} (h : XInv w ll g wr j y m1 A n c told true fl) (hb1 : Below wr.heap.size wr w1) (hW : WireB w2 w.heap.size g y m2) (hb2 : But (m1.has g) w1 w2) (hh : ∀ k, m2.has g k → m1.has g k ∨ w1.heap.size ≤ k)
    (hg : w2.grownBy w3 (blk X)) (hX : ∀ k, blk X = some k → wr.heap.size ≤ k ∧ k < w1.heap.size) : XInv w ll g w3 (j + 1) y m2 A n c told true fl := by
  have hne : ∀ k, m2.has g k → blk X ≠ some k := fun k hk e => by
    obtain ⟨a1, a2⟩ := hX k e
    rcases hh k hk with h1 | h1
    · have := (h.W.in_ k h1).2
      omega
    · omega
  have hs := h.bel.size
  have hs1 := hb1.size
  have hs2 := hb2.size
  have hbel2 : Below w.heap.size w w2 := (h.bel.trans (hb1.mono hs)).trans (hb2.below (fun i hi => (h.W.in_ i hi).1) (by omega))
  refine ⟨hW.keep fun k hk => hg.block k (hW.in_ k hk).2 (fun e => hne k hk e.symm), hbel2.grown hg hbel2.size (fun k hk => by have := (hX k hk).1; omega), h.ok, h.bad, h.ovT, fun e => by cases e⟩

/-- What stands behind a piece that was fed. -/
structure XMid (w : World) (g : Nat) (wr : World) (y : WSt) (m : WMem) (A : Option Addr) (n c : Nat) (s : Bs) (L : Option Addr) (nL cL : Nat) (l : List RP) : Prop where
  W : WireB wr w.heap.size g y m
  bel : Below w.heap.size w wr
  row : Own wr w.heap.size 5 1 A n c (s.map b8)
  rq : Reqs wr w.heap.size L nL cL l
  rm : ∀ k ∈ reqB L l, ¬ m.has g k ∧ blk A ≠ some k
  am : ∀ k, blk A = some k → ¬ m.has g k
section
variable {w : World} {g : Nat} {wr wz : World} {y : WSt} {m : WMem} {A : Option Addr} {n c : Nat} {s : Bs} {L : Option Addr} {nL cL : Nat} {l : List RP}
theorem XMid.below (h : XMid w g wr y m A n c s L nL cL l) (hb : Below wr.heap.size wr wz) : XMid w g wz y m A n c s L nL cL l :=
  ⟨h.W.below hb, h.bel.trans (hb.mono h.bel.size), h.row.below hb, h.rq.below hb, h.rm, h.am⟩
theorem XMid.app (h : XMid w g wr y m A n c s L nL cL l) {A' : Option Addr} {n' c' : Nat} {t : Bs} (hg : wr.grownBy wz (blk A)) (ho : Own wz w.heap.size 5 1 A' n' c' (s.map b8 ++ t.map b8)) (hA : blk A' = blk A ∨ blk A' = some wr.heap.size) : XMid w g wz y m A' n' c' (s ++ t) L nL cL l := by
  have hlt : ∀ k, k < wr.heap.size → blk A ≠ some k → blk A' ≠ some k := fun k hk h1 e => by
    rcases hA with h2 | h2
    · exact h1 (h2.symm.trans e)
    · have := Option.some.inj (h2.symm.trans e)
      omega
  refine ⟨h.W.keep fun k hk => hg.block k (h.W.in_ k hk).2 (fun e => h.am k e.symm hk), h.bel.grown hg h.bel.size (fun k hk => (h.row.lt k hk).1), by rw [List.map_append]; exact ho, h.rq.keep fun k hk => hg.block k (h.rq.in_ k hk).2 (fun e => (h.rm k hk).2 e.symm), fun k hk => ⟨(h.rm k hk).1, hlt k (h.rq.in_ k hk).2 (h.rm k hk).2⟩, fun k hk hk2 => ?_⟩
  exact hlt k (h.W.in_ k hk2).2 (fun e => h.am k e hk2) hk
end
/-- A piece that was fed, and struck out. -/
theorem xmid_mk {w : World} {ll : List Row} {g : Nat} {wr w1 w2 w3 : World} {j : Nat} {y : WSt} {m1 m2 : WMem} {A X : Option Addr} {n c told : Nat} {fl : Bool} (h : XInv w ll g wr j y m1 A n c told false fl) (hb1 : Below wr.heap.size wr w1) {y2 : WSt} {L : Option Addr} {nL cL : Nat} {l : List RP}
    (hW : WireB w2 w.heap.size g y2 m2) (hR : Reqs w2 w.heap.size L nL cL l) (hb2 : But (m1.has g) w1 w2) (hh : ∀ k, m2.has g k → m1.has g k ∨ w1.heap.size ≤ k) (hr : ∀ k ∈ reqB L l, ¬ m2.has g k ∧ (m1.has g k ∨ w1.heap.size ≤ k)) (hg : w2.grownBy w3 (blk X)) (hX : ∀ k, blk X = some k → wr.heap.size ≤ k ∧ k < w1.heap.size) :
    XMid w g w3 y2 m2 A n c (flat (ll.take j)) L nL cL l := by
  obtain ⟨hA, hAm, -⟩ := h.ovF rfl
  have hne : ∀ k, m1.has g k ∨ w1.heap.size ≤ k → blk X ≠ some k := fun k hk e => by
    obtain ⟨a1, a2⟩ := hX k e
    rcases hk with h1 | h1
    · have := (h.W.in_ k h1).2
      omega
    · omega
  have hs := h.bel.size
  have hs1 := hb1.size
  have hs2 := hb2.size
  have hbel2 : Below w.heap.size w w2 := (h.bel.trans (hb1.mono hs)).trans (hb2.below (fun i hi => (h.W.in_ i hi).1) (by omega))
  have hAlt : ∀ k, blk A = some k → k < wr.heap.size := fun k hk => (hA.lt k hk).2
  have hA2 : Own w2 w.heap.size 5 1 A n c ((flat (ll.take j)).map b8) := (hA.below hb1).keep fun k hk _ hlt => hb2.block k hlt (hAm k hk)
  refine ⟨hW.keep fun k hk => hg.block k (hW.in_ k hk).2 (fun e => hne k (hh k hk) e.symm), hbel2.grown hg hbel2.size (fun k hk => by have := (hX k hk).1; omega), hA2.keep fun k hk _ hlt => hg.block k hlt (fun e => by
    have h1 := (hX k e.symm).1
    have h2 := hAlt k hk
    omega), hR.keep fun k hk => hg.block k (hR.in_ k hk).2 (fun e => hne k (hr k hk).2 e.symm), fun k hk => ⟨(hr k hk).1, fun e => ?_⟩, fun k hk hk2 => ?_⟩
  · rcases (hr k hk).2 with h1 | h1
    · exact hAm k e h1
    · have := hAlt k e
      omega
  · rcases hh k hk2 with h1 | h1
    · exact hAm k hk h1
    · have := hAlt k hk
      omega
/-- The round is done. -/
theorem xmid_next {w : World} {ll : List Row} {g : Nat} {wr wz : World} {j : Nat} {y : WSt} {m : WMem} {A : Option Addr} {n c : Nat} {L : Option Addr} {nL cL : Nat} {l : List RP} (h : XMid w g wr y m A n c (flat (ll.take (j + 1))) L nL cL l) (hb : But (fun k => k ∈ l.flatMap RP.blocks) wr wz) {qs : List Rqp} {E : Int} (hf : feedW newW (flat (ll.take (j + 1))) = (qs, y, E)) (hk : E = 0 → WOk y ∧ y.nx ≤ 4) (hbad : E ≠ 0 → y.nx = 5) :
    XInv w ll g wz (j + 1) y m A n c qs.length (overW y E) (decide (E ≠ 0)) := by
  have hin : ∀ k, k ∈ l.flatMap RP.blocks → k ∈ reqB L l := fun k hk => List.mem_append_right _ hk
  refine ⟨h.W.keep fun k hk => hb.block k (h.W.in_ k hk).2 (fun e => (h.rm k (hin k e)).1 hk), h.bel.trans (hb.below (fun i hi => (h.rq.in_ i (hin i hi)).1) h.bel.size), fun e => hk (by simpa using e), fun e => ?_, fun e1 e2 => ?_, fun e => ?_⟩
  · have hE : E ≠ 0 := by simpa using e
    exact ⟨by simp [overW, hE], hbad hE⟩
  · have hE : E = 0 := by simpa using e2
    simpa [overW, hE] using e1
  · have hE : E = 0 ∧ y.nx ≠ 4 := by
      simp [overW] at e
      exact ⟨e.2, e.1⟩
    refine ⟨h.row.keep fun k hk _ hlt => hb.block k hlt (fun e2 => (h.rm k (hin k e2)).2 hk), h.am, qs, ?_, rfl, hE.2⟩
    rw [hf, hE.1]
/-- The wire tells that it is over just if the document does. -/
theorem over_same {y : WSt} {E : Int} (hk : E = 0 → WOk y ∧ y.nx ≤ 4) (hbad : E ≠ 0 → y.nx = 5) : overB y.nx = overW y E := by
  by_cases hE : E = 0
  · obtain ⟨k1, k2⟩ := hk hE
    have := k1.nx1
    unfold overB overW
    have e0 : (y.nx == 0) = false := by simp; omega
    have e5 : (y.nx == 5) = false := by simp; omega
    rw [e0, e5, hE]
    by_cases h4 : y.nx = 4 <;> simp [h4]
  · rw [hbad hE]
    simp [overB, overW, hE]
theorem feed_e5 {y : WSt} {l : Bs} (h : (feedW y l).2.2 ≠ 0) : (feedW y l).2.1.nx = 5 := by
  induction l generalizing y with
  | nil => exact absurd rfl h
  | cons c l ih =>
    rw [feedW] at h ⊢
    split
    · rename_i h4
      rw [if_pos h4] at h
      exact absurd rfl h
    · rename_i h4
      rw [if_neg h4] at h
      split
      · rfl
      · rename_i h5
        rw [if_neg h5] at h
        exact ih h

/-! ### Fields that are struck out -/
/-- A row of fields of the call's own, whatever they say. -/
def RowF (w : World) (base : Nat) (B : Option Addr) (m : Nat) : Prop := m = 0 ∨ ∃ (g o : Nat) (cur : Array Value) (fr : Nat × Nat), B = some ⟨g, o, none⟩ ∧ base ≤ g ∧ w.heap[g]? = some (.cells cur 44 fr) ∧ o + m * 2 ≤ cur.size ∧ ∀ j, o ≤ j → j < o + m * 2 → ¬ (fr.1 ≤ j ∧ j < fr.2)
theorem RowF.of {w : World} {base m d : Nat} {B : Option Addr} {xs : List Value} (h : Own w base 44 2 B m d xs) : RowF w base B m := by
  cases B with
  | none =>
    have h1 := h.rd.nil rfl
    have h2 := h.rd.le
    exact .inl (by omega)
  | some a =>
    obtain ⟨h1, h2, cur, fr, h3, h4, h5⟩ := h.own a rfl
    have hle := h.rd.le
    obtain ⟨g, o, sp⟩ := a
    dsimp only at h1 h2 h3 h4 h5
    subst h1
    refine .inr ⟨g, o, cur, fr, rfl, h2, h3, by omega, fun j a b => h5 j a (by omega)⟩
theorem build_fd0 (W : World) : (Instr.build 44 #[]).run Tryz.prog W = .ok (.agg (Fl.fdA [] [])) W := by kernel_rfl
section
variable {ops : Array Oper} {rest : List Oper} {o : Oper} {a : Act} {Q : Exit → Act → World → Prop} {w : World}
theorem wpList_store_fd (hw : Region.wanted o (yielded ops a.tmps) = true) (x y : Operand) (ho : o.op = .store 44 x y) {base m : Nat} {B : Option Addr} (hB : RowF w base B m) {k : Nat} (hk : k < m) (hx : a.eval x = .pointer (some (at_ B (k * 2)))) (u v : List UInt8) (hy : a.eval y = .agg (Fl.fdA u v))
    (hK : ∀ w', RowF w' base B m → w.grownBy w' (blk B) → w'.heap.size = w.heap.size → wpList Tryz.prog ops Q rest (a.put o.dst undef) w') : wpList Tryz.prog ops Q (o :: rest) a w := by
  rcases hB with h0 | ⟨g, q, cur, fr, rfl, h2, h3, h4, h5⟩
  · omega
  refine wpList_taken hw fun K hK' => ?_
  have hat : at_ (some ⟨g, q, none⟩) (k * 2) = ⟨g, q + k * 2, none⟩ := by
    rw [at_some]
    unfold Addr.add
    split
    · rename_i h; simp [h]
    · rfl
  have h := run_storeCells_fr Tryz.prog g (q + k * 2) 44 fr (Fl.fdA u v).toList 0 cur w h3 (by simp [Fl.fdA]; omega) (fun j a b => h5 j (by omega) (by simp [Fl.fdA] at b; omega)) (Fl.fd_one u v)
  have hrun : (storeVar 44 ⟨g, q + k * 2, none⟩ (.agg (Fl.fdA u v))).run Tryz.prog w = .ok () (w.setRow g (cur.toList.take (q + k * 2 + 0) ++ (Fl.fdA u v).toList ++ cur.toList.drop (q + k * 2 + 0 + (Fl.fdA u v).toList.length)).toArray) := by
    simp only [storeVar, Sem.run_bind, sizeOf_run (Fl.size_fd u v), Result.andThen_ok, Value.cells, ne_eq, not_true_eq_false, if_false, h]
  rw [hat] at hx
  unfold Oper.wp execOp
  simp only [ho, hx, hy, Instr.storeAt, Instr.sureAddr, Sem.run_bind, Sem.run_pure, Result.andThen_ok, hrun]
  refine hK' _ _ (hK _ (.inr ⟨g, q, _, fr, rfl, h2, setRow_heap w g cur _ 44 fr h3, ?_, h5⟩) ⟨rfl, rfl, rfl, by simp, fun z _ hz => setRow_other w g z _ (fun e => hz (by rw [e]; rfl))⟩ (by simp))
  simp [Fl.fdA]
  omega
end

end Go.Proofs.YtckkmdigmecagaaGreatDoor

/-
  The statement WireAll.
-/
namespace Go.Proofs.YtckkmdigmecagaaGreatDoor
open Go.RowKit

theorem XInv.below {w : World} {ll : List Row} {g : Nat} {wr wz : World} {j : Nat} {y : WSt} {m1 : WMem} {A : Option Addr} {n c told : Nat} {ov fl : Bool} (h : XInv w ll g wr j y m1 A n c told ov fl) (hb : Below wr.heap.size wr wz) : XInv w ll g wz j y m1 A n c told ov fl :=
  ⟨h.W.below hb, h.bel.trans (hb.mono h.bel.size), h.ok, h.bad, h.ovT, fun e => by
    obtain ⟨a1, a2⟩ := h.ovF e
    exact ⟨a1.below hb, a2⟩⟩
/-- Blocks of the first k requests. -/
def fstB (l : List RP) (k : Nat) (b : Nat) : Prop := b ∈ (l.take k).flatMap RP.blocks
theorem fstB_succ {l : List RP} {k : Nat} {p : RP} (h : l[k]? = some p) (b : Nat) : fstB l (k + 1) b ↔ fstB l k b ∨ b ∈ RP.blocks p := by
  obtain ⟨h1, rfl⟩ := List.getElem?_eq_some_iff.1 h
  unfold fstB
  rw [List.take_succ_eq_append_getElem h1, List.flatMap_append, List.mem_append, List.flatMap_cons, List.flatMap_nil, List.append_nil]
theorem fstB_all {l : List RP} {b : Nat} (h : b ∈ l.flatMap RP.blocks) : fstB l l.length b := by
  unfold fstB
  rwa [List.take_length]
/-- What is left of a row of requests of which the first k are struck out. -/
theorem reqs_left {w wr : World} {base n c : Nat} {A : Option Addr} {l : List RP} (h : Reqs w base A n c l) {k : Nat} (hb : But (fstB l k) w wr) : Rd wr 5 A n c (rqL l) ∧ ∀ p, l[k]? = some p → Own wr base 44 2 p.2.F p.2.nF p.2.cF (Fl.fdL p.1.fs) ∧ Own wr base 5 1 p.2.D p.2.nD p.2.cD (p.1.bd.map b8) := by
  have hnd := h.nd
  rw [List.nodup_append] at hnd
  obtain ⟨n1, n2, n3⟩ := hnd
  have hin : ∀ b, fstB l k b → b ∈ l.flatMap RP.blocks := fun b hb => by
    obtain ⟨p, hp, hb2⟩ := List.mem_flatMap.1 hb
    exact List.mem_flatMap.2 ⟨p, List.mem_of_mem_take hp, hb2⟩
  refine ⟨h.row.rd.keep fun q hq hlt => hb.block q hlt (fun e => n3 q (blk_mem hq) q (hin q e) rfl), fun p hp => ?_⟩
  obtain ⟨h3, h4⟩ := h.each p (List.mem_of_getElem? hp)
  obtain ⟨hk, e⟩ := List.getElem?_eq_some_iff.1 hp
  have hno : ∀ b, b ∈ RP.blocks p → ¬ fstB l k b := by
    intro b hb1 hb2
    have e2 : l = l.take k ++ l[k] :: l.drop (k + 1) := by rw [← List.drop_eq_getElem_cons hk, List.take_append_drop]
    rw [e2, List.flatMap_append, List.nodup_append] at n2
    refine n2.2.2 b hb2 b ?_ rfl
    rw [List.flatMap_cons, e]
    exact List.mem_append_left _ hb1
  exact ⟨h3.keep fun q hq _ hlt => hb.block q hlt (hno q (List.mem_append_left _ (blk_mem hq))), h4.keep fun q hq _ hlt => hb.block q hlt (hno q (List.mem_append_right _ (blk_mem hq)))⟩
theorem fstB_in {l : List RP} {k b : Nat} (h : fstB l k b) : b ∈ l.flatMap RP.blocks := by
  obtain ⟨p, hp, hb⟩ := List.mem_flatMap.1 h
  exact List.mem_flatMap.2 ⟨p, List.mem_of_mem_take hp, hb⟩
theorem But.weaken {S T : Nat → Prop} {w w' : World} (h : But S w w') (hs : ∀ i, S i → T i) : But T w w' := ⟨h.os, h.tape, h.output, h.size, fun k hk hn => h.block k hk (fun hS => hn (hs k hS))⟩
/-- A request's fields and its body lie apart. -/
theorem reqs_fd {w : World} {base n c : Nat} {A : Option Addr} {l : List RP} (h : Reqs w base A n c l) {p : RP} (hp : p ∈ l) : ∀ b, blk p.2.F = some b → blk p.2.D ≠ some b := by
  have hnd := h.nd
  rw [List.nodup_append] at hnd
  obtain ⟨s, t, e⟩ := List.append_of_mem hp
  have h2 := hnd.2.1
  rw [e, List.flatMap_append, List.nodup_append] at h2
  have h3 := h2.2.1
  rw [List.flatMap_cons, List.nodup_append] at h3
  have h4 := h3.1
  unfold RP.blocks at h4
  rw [List.nodup_append] at h4
  exact fun b hb hd => h4.2.2 b (blk_mem hb) b (blk_mem hd) rfl
theorem over_quiet {w : World} {g n : Nat} (h : w.cell? ⟨g, 0, none⟩ = some (.int .i64 (n : Int))) {b : Bool} (hb : overB n = b) (nq : Nat) : Calls Tryz.prog 13 #[.pointer (some ⟨g, 0, none⟩)] (w.drewN nq) fun e w' => e = .returned (.bool b) ∧ w' = w.drewN nq := by
  have := Over_any (w := w.drewN nq) (n := n) (g := g) h
  rw [hb] at this
  exact this.mono fun e w' ⟨h1, h2⟩ => ⟨h1, h2.symm⟩
theorem req_cells {w : World} {n c k : Nat} {A : Option Addr} {l : List RP} {p : RP} (h : Rd w 5 A n c (rqL l)) (hx : l[k]? = some p) : w.cell? ⟨(at_ A (k * 5)).block, (at_ A (k * 5)).off + 2, none⟩ = some (.slice p.2.F p.2.nF p.2.cF) ∧ w.cell? ⟨(at_ A (k * 5)).block, (at_ A (k * 5)).off + 3, none⟩ = some (.slice p.2.D p.2.nD p.2.cD) := by
  refine ⟨?_, ?_⟩
  · show w.cell? ((at_ A (k * 5)).add 2) = _
    rw [Fl.at_add2]
    exact h.cell (k * 5 + 2) _ (by rw [Nat.mul_comm k 5, rqL_at l k p hx 2 (by omega)]; rfl)
  · show w.cell? ((at_ A (k * 5)).add 3) = _
    rw [Fl.at_add2]
    exact h.cell (k * 5 + 3) _ (by rw [Nat.mul_comm k 5, rqL_at l k p hx 3 (by omega)]; rfl)
theorem req_load {w : World} {n c k : Nat} {A : Option Addr} {l : List RP} {p : RP} (h : Rd w 5 A n c (rqL l)) (hx : l[k]? = some p) : (loadVar 42 (at_ A (k * 5))).run Tryz.prog w = .ok (.agg (RP.arr p)) w := by
  have hl := run_loadCells_list (P := Tryz.prog) w (at_ A (k * 5)) (RP.arr p).toList (fun j v hv => by
    rw [Fl.at_add2]
    have hj : j < 5 := (List.getElem?_eq_some_iff.1 hv).1
    exact h.cell (k * 5 + j) v (by rw [Nat.mul_comm k 5, rqL_at l k p hx j hj]; exact hv))
  have e : (RP.arr p).toList.length = 5 := rfl
  have e2 : ((RP.arr p).toList).toArray = RP.arr p := rfl
  rw [e, e2] at hl
  simp [loadVar, isAgg, run_underlying Tryz.underlying42, sizeOf_run size_req0, hl]
theorem piece_len {ll : List Row} {j : Nat} {r : Row} (hr : ll[j]? = some r) (h : (flat ll).length ≤ 16384) : r.l.length ≤ 16384 ∧ (flat (ll.take j)).length + r.l.length ≤ 16384 := by
  have e := flat_drop (ll := ll) j
  rw [flat_cons hr] at e
  rw [e] at h
  simp only [List.length_append] at h
  omega
theorem tot_flat {w : World} : ∀ (ll : List Row), (∀ r ∈ ll, Rd w 1 r.A r.n r.c (r.l.map b8)) → (flat ll).length = tot ll
  | [], _ => rfl
  | r :: ll, h => by
    have h1 := (h r (by simp)).lenb
    have h2 := tot_flat ll (fun q hq => h q (by simp [hq]))
    have e : flat (r :: ll) = r.l ++ flat ll := rfl
    rw [e, List.length_append, h2, h1]
    simp [tot]

set_option maxRecDepth 20000 in
set_option maxHeartbeats 16000000 in
theorem wireAll_walk {w : World} (hm : Mx w) (A : Option Addr) (n c : Nat) (ll : List Row) (h : Rows2 w A n c ll) :
    Calls Tryz.prog 3 #[.slice A n c] w fun e w' => e = .returned (.bool true) ∧ Below w.heap.size w w' := by
  have HBG := Lib.hid (wbegun_any w hm (mx_size hm))
  by_cases hl : n ≤ 80 ∧ sumP 16384 0 ll ≤ 16384
  · have H1 := Lib.hid hl.1
    have H2 := Lib.hid hl.2
    have HT := Lib.hid (show (flat ll).length ≤ 16384 by
      rw [tot_flat ll h.each]
      simpa using tot_le ll 0 hl.2)
    have HM := Lib.hid (fun W (hb : Below w.heap.size w W) => hm.below hb)
    have hs0 := mx_size hm
    have hn80 : n ≤ 80 := hl.1
    have H := Lib.hid h
    clear hl hm h
    go_enter Tryz.func3, Tryz.ntmps3
    go_wp2_with fail
    refine HBG.out.mono ?_
    rintro e w1 ⟨rfl, hB1⟩
    have HR1 := Lib.hid (H.out.keep hB1)
    have hs1 : mxb < w1.heap.size := Nat.lt_of_lt_of_le hs0 hB1.size
    have HM1 := Lib.hid (fun W (hb : Below w1.heap.size w1 W) => HM.out W (hB1.trans (hb.mono hB1.size)))
    have HB1 := Lib.hid hB1
    clear HBG HM H hB1 hs0
    go_wp2_with fail
    refine (wlight_yes HR1.out H1.out H2.out).mono ?_
    rintro e w1' ⟨rfl, rfl⟩
    clear H1 H2
    go_wp2_with fail
    refine (New_any w1).mono ?_
    rintro e w2 ⟨rfl, hW2, hb2⟩
    have HST : Hid (XInv w1 ll w1.heap.size w2 0 newW ⟨none, 0, 0, none, 0, 0, none, none, 0, 0⟩ none 0 0 0 false false) := ⟨hW2, hb2, (fun _ => ⟨newOk, by decide⟩), (fun e => by cases e), (fun e => by cases e), fun _ => ⟨by simpa [flat] using Own.nil_ w2 w1.heap.size 5 1, by simp [blk], [], by simp [flat, feedW], rfl, by decide⟩⟩
    clear hW2 hb2
    go_wp2_with fail
    go_loopw [4, 5, 6, 7, 8] (fun a t o f i wr => ∃ (j : Nat) (y : WSt) (m1 : WMem) (A1 : Option Addr) (n1 c1 told : Nat) (ov fl : Bool), j ≤ n ∧ a = .slice A1 n1 c1 ∧ t = .int .i64 (told : Int) ∧ o = .bool ov ∧ f = .bool fl ∧ i = .int .i64 j ∧ Hid (XInv w1 ll w1.heap.size wr j y m1 A1 n1 c1 told ov fl)) (fun _ _ _ _ i _ => n - (intOf i).toNat)
    case atStart => exact ⟨0, newW, _, none, 0, 0, 0, false, false, by omega, rfl, rfl, rfl, rfl, rfl, HST.out⟩
    case round =>
      obtain ⟨j, y, m1, A1, n1, c1, told, ov, fl, hj, rfl, rfl, rfl, rfl, rfl, hI⟩ := hrel
      clear HST
      by_cases hjn : j < n
      · obtain ⟨⟨rA, rn, rc, rl⟩, hr, hidx, hcell, hrd, hrm⟩ := (HR1.out.keep hI.out.bel).at (j : Int) j rfl hjn
        dsimp only at hcell hrd hrm
        have hrl := hrd.lenb
        have hpl := piece_len hr.out HT.out
        dsimp only at hpl
        rw [hrl] at hpl
        have hrn : rn ≤ 16384 := hpl.1
        have hj' : (j : Int) < n := by omega
        have HPL := Lib.hid hpl
        clear hpl hrm
        cases ov with
        | true =>
          go_wp2_with fail
          refine (Twin_any rA rn rc rl wr hrd (by omega)).mono ?_
          rintro e w3 ⟨X, rfl, hoX, hb3⟩
          have hX : ∀ k, blk X = some k → wr.heap.size ≤ k ∧ k < w3.heap.size := hoX.lt
          have hb13 := hI.out.bel.trans (hb3.mono hI.out.bel.size)
          have HF := Lib.hid (xfeed_over hI.out hb3 (HM1.out _ hb13) hs1 (by
            have := hoX.rd.take_ (k := rn) (by omega)
            rw [List.take_left' hrl] at this
            exact this) (by omega) (fun k hk => ⟨(hX k hk).2, (hX k hk).1⟩))
          have HX := Lib.hid hX
          have HOX := Lib.hid hoX
          have HB3 := Lib.hid hb3
          have HB13 := Lib.hid hb13
          clear hrd hcell hX hoX hb3 hb13
          go_wp2_with fail
          refine HF.out.mono ?_
          rintro e w4 ⟨L, cL, m2, rfl, hW4, hbt, hh⟩
          obtain ⟨E, hE⟩ : ∃ E : Int, (if fl then 8 else 0) = E := ⟨_, rfl⟩
          have hE' : (if fl = true then (8 : Int) else 0) = E := by simpa using hE
          simp only [hE']
          have HE := Lib.hid hE'
          have hne : ∀ k, m1.has w1.heap.size k → blk X ≠ some k := fun k hk e => by
            have h1 := (hI.out.W.in_ k hk).2
            have h2 := (HX.out k e).1
            omega
          have hoX4 : Own w4 wr.heap.size 5 1 X (rn + 3) (rn + 3) ((rl ++ e5).map b8) := HOX.out.keep fun k hk _ hlt => hbt.block k hlt (fun e => hne k e hk)
          have hb14 : Below w1.heap.size w1 w4 := HB13.out.trans (hbt.below (fun i hi => (hI.out.W.in_ i hi).1) HB13.out.size)
          obtain ⟨r4, hr4, -, hcell4, hrd4, -⟩ := (HR1.out.keep hb14).at (j : Int) j rfl hjn
          obtain rfl := Option.some.inj (hr.out.symm.trans hr4.out)
          dsimp only at hcell4 hrd4
          have HK := Lib.hid (Kept_true X rn rA rc rl _ hoX4.rd hrd4 (by omega))
          have HS := Lib.hid (Spoil_any wr.heap.size X rn (rn + 3) _ _ (hoX4.cut0 (hi := rn) (by omega)))
          have HW4 := Lib.hid hW4
          have HBT := Lib.hid hbt
          have HH := Lib.hid hh
          clear HF hE hE' hoX4 hb14 hr4 hrd4 hW4 hbt hh hne HOX
          go_wp2_with fail
          refine HK.out.mono ?_
          rintro e w4' ⟨rfl, rfl⟩
          go_wp2_with fail
          refine HS.out.mono ?_
          rintro e w5 ⟨rfl, hg5, -⟩
          have hN := xover_next hI.out HB3.out HW4.out HBT.out HH.out hg5 HX.out
          have hOv := Over_any hN.W.cells.1
          have hov : overB y.nx = true := by
            cases fl with
            | true => rw [(hN.bad rfl).2]; rfl
            | false => rw [hN.ovT rfl rfl]; rfl
          rw [hov] at hOv
          have HN := Lib.hid hN
          have HOv := Lib.hid hOv
          clear HK HS hg5 hN hOv hov HW4 HBT HH HB3 HB13 HX hcell4
          cases fl with
          | true =>
            have hE : 8 = E := HE.out
            subst hE
            go_wp2_with fail
            refine HOv.out.mono ?_
            rintro e w6 ⟨rfl, rfl⟩
            go_wp2_with fail
            go_roundw
            case rel => exact ⟨j + 1, y, m2, A1, n1, c1, told, true, true, by omega, rfl, rfl, rfl, rfl, by go_num, HN.out⟩
            case measure => simp [intOf]; omega
          | false =>
            have hE : 0 = E := HE.out
            subst hE
            go_wp2_with fail
            refine HOv.out.mono ?_
            rintro e w6 ⟨rfl, rfl⟩
            go_wp2_with fail
            go_roundw
            case rel => exact ⟨j + 1, y, m2, A1, n1, c1, told, true, false, by omega, rfl, rfl, rfl, rfl, by go_num, HN.out⟩
            case measure => simp [intOf]; omega
        | false =>
          have hfl : fl = false := by
            cases fl with
            | false => rfl
            | true => cases (hI.out.bad rfl).1
          subst hfl
          go_wp2_with fail
          refine (Twin_any rA rn rc rl wr hrd (by omega)).mono ?_
          rintro e w3 ⟨X, rfl, hoX, hb3⟩
          have hX : ∀ k, blk X = some k → wr.heap.size ≤ k ∧ k < w3.heap.size := hoX.lt
          have hb13 := hI.out.bel.trans (hb3.mono hI.out.bel.size)
          obtain ⟨k1, k2⟩ := hI.out.ok rfl
          obtain ⟨hA, hAm, qs, hqs, htold, hy4⟩ := hI.out.ovF rfl
          have HF := Lib.hid (WFeed_any (hI.out.W.below hb3) k1 k2 (HM1.out _ hb13) hs1 (by
            have := hoX.rd.take_ (k := rn) (by omega)
            rw [List.take_left' hrl] at this
            exact this) (by omega) (fun k hk => ⟨(hX k hk).2, fun hk2 => by
              have h1 := (hI.out.W.in_ k hk2).2
              have h2 := (hX k hk).1
              omega⟩))
          obtain ⟨E, hE⟩ : ∃ E, (feedW y rl).2.2 = E := ⟨_, rfl⟩
          obtain ⟨y2, hy2⟩ : ∃ z, (feedW y rl).2.1 = z := ⟨_, rfl⟩
          have HOK : Hid (E = 0 → WOk y2 ∧ y2.nx ≤ 4) := fun e => by
            have := feed_ok rl y k1 k2 (by rw [hE]; exact e)
            rw [hy2] at this
            exact this
          have HBAD : Hid (E ≠ 0 → y2.nx = 5) := fun e => by
            have := feed_e5 (y := y) (l := rl) (by rw [hE]; exact e)
            rw [hy2] at this
            exact this
          have HALL : Hid (feedW newW (flat (ll.take j) ++ rl) = (qs ++ (feedW y rl).1, y2, E)) := by
            show _ = _
            rw [feed_app _ _ _ (by rw [hqs]), hqs, ← hE, ← hy2]
          have HTK : Hid (flat (ll.take (j + 1)) = flat (ll.take j) ++ rl) := flat_take hr.out
          have HTO := Lib.hid htold
          have HX := Lib.hid hX
          have HOX := Lib.hid hoX
          have HB3 := Lib.hid hb3
          have HB13 := Lib.hid hb13
          have HE := Lib.hid hE
          have HY2 := Lib.hid hy2
          clear hrd hcell hX hoX hb3 hb13 hE hy2 k1 k2 hA hAm hqs htold hy4
          go_wp2_with fail
          refine HF.out.mono ?_
          unfold Fed
          rintro e w4 ⟨L, nL, cL, l, m2, rfl, hW4, hR4, hlm, hbt, hh, hap⟩
          rw [HE.out]
          rw [HY2.out] at hW4
          have hne : ∀ k, m1.has w1.heap.size k → blk X ≠ some k := fun k hk e => by
            have h1 := (hI.out.W.in_ k hk).2
            have h2 := (HX.out k e).1
            omega
          have hoX4 : Own w4 wr.heap.size 5 1 X (rn + 3) (rn + 3) ((rl ++ e5).map b8) := HOX.out.keep fun k hk _ hlt => hbt.block k hlt (fun e => hne k e hk)
          have hb14 : Below w1.heap.size w1 w4 := HB13.out.trans (hbt.below (fun i hi => (hI.out.W.in_ i hi).1) HB13.out.size)
          obtain ⟨r4, hr4, -, hcell4, hrd4, -⟩ := (HR1.out.keep hb14).at (j : Int) j rfl hjn
          obtain rfl := Option.some.inj (hr.out.symm.trans hr4.out)
          dsimp only at hcell4 hrd4
          have HK := Lib.hid (Kept_true X rn rA rc rl _ hoX4.rd hrd4 (by omega))
          have HS := Lib.hid (Spoil_any wr.heap.size X rn (rn + 3) _ _ (hoX4.cut0 (hi := rn) (by omega)))
          have HMK := Lib.hid (fun w5 (hg : w4.grownBy w5 (blk X)) => xmid_mk hI.out HB3.out hW4 hR4 hbt hh hap hg HX.out)
          have HLM := Lib.hid hlm
          have HL := Lib.hid hR4.len
          clear HF hoX4 hb14 hr4 hrd4 hW4 hR4 hbt hh hne HOX hap hlm
          go_wp2_with fail
          refine HK.out.mono ?_
          rintro e w4' ⟨rfl, rfl⟩
          go_wp2_with fail
          refine HS.out.mono ?_
          rintro e w5 ⟨rfl, hg5, -⟩
          have hM5 := HMK.out w5 hg5
          obtain ⟨r5, hr5, -, hcell5, hrd5, -⟩ := (HR1.out.keep hM5.bel).at (j : Int) j rfl hjn
          obtain rfl := Option.some.inj (hr.out.symm.trans hr5.out)
          dsimp only at hcell5 hrd5
          have hbase := hM5.bel.size
          have hln := hM5.row.lenb
          have hn1 : n1 + rn ≤ 16384 := by
            have := HPL.out.2
            omega
          have ho5 := hM5.row
          have HM5 := Lib.hid hM5
          clear HK HS HMK hg5 hM5 hr5 HB3 HB13 HX hcell4 hln
          go_wp2_with (at_builtin; refine wpList_app rfl _ _ rfl eb ho5 rfl hrd5 rfl (b8_one _) (by omega) (by unfold maxLen; omega) hbase ?_; intro A2 c2 w6 ho6 hg6 hq6)
          have hM6 := HM5.out.app hg6 ho6 hq6
          have HRD := Lib.hid (Read_any hM6.row.rd (by omega) (fun k hk => (hM6.row.lt k hk).2))
          have HM6 := Lib.hid hM6
          clear ho5 hrd5 hcell5 hbase ho6 hg6 hq6 hM6 HM5
          go_wp2_with fail
          refine HRD.out.mono ?_
          unfold Readed
          rintro e w7 ⟨L2, nL2, cL2, E2, nE, cE, l2, rfl, hR2, hl2, hb7⟩
          rw [HALL.out] at hl2 ⊢
          dsimp only at hl2 ⊢
          obtain ⟨ov2, hov2⟩ : ∃ b, overW y2 E = b := ⟨_, rfl⟩
          rw [hov2]
          have HOV2 := Lib.hid hov2
          have hnl : nL2 = told + nL := by
            have h1 := hR2.len
            have h2 := congrArg List.length hl2
            have h3 := congrArg List.length HLM.out
            rw [List.length_append, List.length_map] at h2
            rw [List.length_map] at h3
            have h4 := HL.out
            have h5 := HTO.out
            omega
          have HNL := Lib.hid hnl
          have HQL : Hid ((qs ++ (feedW y rl).1).length = nL2) := by
            have h1 := hR2.len
            have h2 := congrArg List.length hl2
            rw [List.length_map] at h2
            show _ = _
            omega
          have hnb : nL2 ≤ 16384 := by
            have h1 := feed_len (flat (ll.take j) ++ rl) newW
            rw [HALL.out] at h1
            have h2 := HM6.out.row.lenb
            have h3 := HQL.out
            dsimp only at h1
            omega
          have hnLb : nL ≤ 16384 := by
            have := HNL.out
            omega
          have HL2 := Lib.hid hl2
          have HR2 := Lib.hid hR2
          have HB7 := Lib.hid hb7
          clear HRD hl2 hR2 hov2 hnl
          go_upto_region 22 with (first
            | (refine wpList_alloc_zero rfl _ rfl (toldW none 0 0 none 0 0 0 false) zero_told ?_; intro w8 hg8 hb8 hz8; clear hz8)
            | (refine wpList_store_all rfl _ _ _ rfl w7.heap.size rfl _ _ (toldW L2 nL2 cL2 E2 nE cE E ov2) rfl hg8 size_told rfl told_one ?_; intro w9 hg9 hgr9 hz9; clear hz9))
          have hb79 : Below w7.heap.size w7 w9 := hb8.grown hgr9 hb8.size (fun q hq => by obtain rfl := Option.some.inj hq; exact Nat.le_refl _)
          have hb69 := HB7.out.trans (hb79.mono HB7.out.size)
          have hM9 := HM6.out.below hb69
          have hR9 := HR2.out.below hb79
          have hov : overB y2.nx = ov2 := (over_same HOK.out HBAD.out).trans HOV2.out
          have ht2 : w9.cell? ⟨w7.heap.size, 2, none⟩ = some (.int .i64 E) := cell_of hg9 rfl
          have ht0 : w9.cell? ⟨w7.heap.size, 0, none⟩ = some (.slice L2 nL2 cL2) := cell_of hg9 rfl
          have ht4 : w9.cell? ⟨w7.heap.size, 4, none⟩ = some (.bool ov2) := cell_of hg9 rfl
          have HOv := Lib.hid (fun nq => over_quiet hM9.W.cells.1 hov nq)
          have hw : IntKind.i64.wrap ((nL2 : Int) - (told : Int)) = (nL : Int) := by
            have := HNL.out
            rw [IntWalk.i64_in _ (by omega)]
            omega
          have HG9 := Lib.hid hg9
          have HM9 := Lib.hid hM9
          have HR9 := Lib.hid hR9
          have h67 : w6.heap.size ≤ w7.heap.size := HB7.out.size
          have h79 : w7.heap.size < w9.heap.size := (Array.getElem?_eq_some_iff.1 hg9).1
          clear hg8 hb8 hg9 hgr9 hb79 hb69 hM9 hR9 hov
          go_quiet ((go_at_call 13; exact Calls.quiet_of_same (HOv.out _)))
          have hM10 := HM9.out.below ((below_drewN (Below.refl w9.heap.size w9) nq))
          have hR10 := HR9.out.below ((below_drewN (Below.refl w9.heap.size w9) nq))
          have hG10 : (w9.drewN nq).heap[w7.heap.size]? = some (.cells (toldW L2 nL2 cL2 E2 nE cE E ov2) 37 (0, 0)) := HG9.out
          generalize w9.drewN nq = w10 at hM10 hR10 hG10 ⊢
          have HM10 := Lib.hid hM10
          have HR10 := Lib.hid hR10
          have HG10 := Lib.hid hG10
          clear HM9 HR9 HG9 HOv hw ht0 ht2 ht4 hM10 hR10 hG10 h79
          go_wp2_with fail
          go_loopw [13] (fun i wz => ∃ k : Nat, k ≤ nL ∧ i = .int .i64 k ∧ Hid (But (fstB l k) w10 wz)) (fun i _ => nL - (intOf i).toNat)
          case atStart => exact ⟨0, by omega, rfl, But.refl _ _⟩
          case round =>
            obtain ⟨k, hk, rfl, hbz⟩ := hrel
            have hlt6 : ∀ b, b ∈ l.flatMap RP.blocks → w1.heap.size ≤ b ∧ b < w6.heap.size := fun b hb => HM6.out.rq.in_ b (List.mem_append_right _ hb)
            have hTz : ∀ wy, But (fstB l k) w10 wy → wy.heap[w7.heap.size]? = some (.cells (toldW L2 nL2 cL2 E2 nE cE E ov2) 37 (0, 0)) := fun wy hb => (hb.block _ (Array.getElem?_eq_some_iff.1 HG10.out).1 (fun hf => by
              have := (hlt6 _ (fstB_in hf)).2
              omega)).trans HG10.out
            by_cases hkn : k < nL
            · have hll := HL.out
              have hx : l[k]? = some (l[k]'(by omega)) := List.getElem?_eq_getElem _
              generalize l[k]'(by omega) = p at hx
              have hnl2 := HNL.out
              have hR2l := HR10.out.len
              have hy : l2[told + k]? = some (l2[told + k]'(by omega)) := List.getElem?_eq_getElem _
              generalize l2[told + k]'(by omega) = q at hy
              have hpq : p.1 = q.1 := by
                have h1 : ((feedW y rl).1)[k]? = some p.1 := by rw [← HLM.out, List.getElem?_map, hx]; rfl
                have h2 : (qs ++ (feedW y rl).1)[told + k]? = some q.1 := by rw [← HL2.out, List.getElem?_map, hy]; rfl
                rw [List.getElem?_append_right (by have := HTO.out; omega), show told + k - qs.length = k by have := HTO.out; omega, h1] at h2
                exact Option.some.inj h2
              obtain ⟨hRz, hOz⟩ := reqs_left HM10.out.rq hbz.out
              obtain ⟨hOF, hOD⟩ := hOz p hx
              have hR2z : Reqs wr w6.heap.size L2 nL2 cL2 l2 := HR10.out.but hbz.out (fun b hb hf => by
                have h1 := (HR10.out.in_ b hb).1
                have h2 := (hlt6 _ (fstB_in hf)).2
                omega)
              have hidx := fun W => run_index_rd (P := Tryz.prog) (A := L) (n := nL) (c := cL) eq_ hRz.nil hRz.le k hkn W
              have hidy : ∀ W, (Instr.indexAt 29 (.slice L2 nL2 cL2) (.int .i64 ((told : Int) + (k : Int)))).run Tryz.prog W = .ok (.pointer (some (at_ L2 ((told + k) * 5)))) W := fun W => by
                have := run_index_rd (P := Tryz.prog) (A := L2) (n := nL2) (c := cL2) eq_ hR2z.row.rd.nil hR2z.row.rd.le (told + k) (by omega) W
                rw [Int.natCast_add] at this
                exact this
              have hwk : IntKind.i64.wrap ((told : Int) + (k : Int)) = (told : Int) + (k : Int) := IntWalk.i64_in _ (by omega)
              have hlx := fun b : Later wr => req_load (hRz.below b.below) hx
              have hly := fun b : Later wr => req_load (hR2z.row.rd.below b.below) hy
              have htz : ∀ b : Later wr, b.at'.cell? ⟨w7.heap.size, 0, none⟩ = some (.slice L2 nL2 cL2) := fun b => cell_of ((b.below.block _ (Array.getElem?_eq_some_iff.1 (hTz wr hbz.out)).1).trans (hTz wr hbz.out)) rfl
              have HSM := Lib.hid (fun b : Later wr => Same_rp hpq ⟨hOF.rd.below b.below, hOD.rd.below b.below⟩ ⟨(hR2z.each q (List.mem_of_getElem? hy)).1.rd.below b.below, (hR2z.each q (List.mem_of_getElem? hy)).2.rd.below b.below⟩)
              have hkn' : (k : Int) < nL := by omega
              have HX := Lib.hid hx
              have HKN := Lib.hid hkn
              have HRZ := Lib.hid hRz
              have HOF := Lib.hid hOF
              have HOD := Lib.hid hOD
              clear hx hy hpq hR2z hOz hRz hOF hOD hTz hR2l hll hnl2 hkn
              go_upto_region 27 with fail
              refine wp_region_plan (MPlan.reads [0, 1, 2, 3, 4, 5, 6, 7, 8, 9, 10] (.one 11 (MPlan.reads [12] .fin))) (fun x => ∃ b : Later wr, x = b.at') (by kernel_rfl) (by kernel_rfl) (by kernel_rfl) (fun _ _ _ _ _ h => h) ⟨⟨wr.drew, (Below.refl _ _).drew⟩, rfl⟩ ?_
              iterate 3 (refine plan_read (o := ⟨_, _, _, _, _, _⟩) (by rfl) (by rfl) ?_; go_big_quiet_step (fail); refine wpQuiet_nil ?_)
              refine plan_load (o := ⟨_, _, _, _, _, _⟩) (by rfl) rfl (by rfl) _ rfl _ (fun w' hS => by obtain ⟨b, rfl⟩ := hS; exact hlx b) ?_
              simp only [Act.put, List.setIfInBounds_toArray, List.set_cons_succ, List.set_cons_zero]
              iterate 6 (refine plan_read (o := ⟨_, _, _, _, _, _⟩) (by rfl) (by rfl) ?_; go_big_quiet_step (fail); refine wpQuiet_nil ?_)
              refine plan_load (o := ⟨_, _, _, _, _, _⟩) (by rfl) rfl (by rfl) _ rfl _ (fun w' hS => by obtain ⟨b, rfl⟩ := hS; exact hly b) ?_
              simp only [Act.put, List.setIfInBounds_toArray, List.set_cons_succ, List.set_cons_zero]
              refine plan_one (o := ⟨_, _, _, _, _, _⟩) (by rfl) (fun K hK => ?_)
              go_wp2_with fail
              refine (HSM.out ⟨wr.drew, (Below.refl _ _).drew⟩).mono ?_
              rintro e w11 ⟨rfl, hb11⟩
              have hb11' : Below wr.heap.size wr w11 := ((Below.refl _ _).drew).trans hb11
              go_wp2_with fail
              refine hK _ _ ⟨⟨w11, hb11'⟩, rfl⟩ ?_
              clear hK
              refine plan_read (o := ⟨_, _, _, _, _, _⟩) (by rfl) (by rfl) ?_
              go_big_quiet_step (fail)
              refine wpQuiet_nil ?_
              refine plan_fin ?_
              have hbt11 : But (fstB l k) w10 w11 := hbz.out.trans (But.of_below hb11' : But (fun _ => False) wr w11) (fun i hi => hi.elim)
              have hR11 := HRZ.out.below hb11'
              obtain ⟨hc2, hc3⟩ := req_cells hR11 HX.out
              have hOF11 := HOF.out.below hb11'
              have hOD11 := HOD.out.below hb11'
              have HSP := Lib.hid (Spoil_any w1.heap.size p.2.D p.2.nD p.2.cD _ w11 hOD11)
              have HBT11 := Lib.hid hbt11
              have HOF11 := Lib.hid hOF11
              clear HSM hlx hly htz hidy hwk hb11 hb11' hbt11 hR11 hOF11 hOD11 hbz HRZ HOF HOD hc2
              go_wp2_with fail
              refine HSP.out.mono ?_
              rintro e w12 ⟨rfl, hg12, -⟩
              have hpb : ∀ b, b ∈ RP.blocks p → fstB l (k + 1) b := fun b hb => (fstB_succ HX.out b).2 (.inr hb)
              have hf12 : RowF w12 w1.heap.size p.2.F p.2.nF := RowF.of (HOF11.out.grown hg12 (fun b hb e => reqs_fd HM10.out.rq (List.mem_of_getElem? HX.out) b hb e))
              have hbt12 : But (fstB l (k + 1)) w10 w12 := (HBT11.out.weaken (fun i hi => (fstB_succ HX.out i).2 (.inl hi))).trans (But.of_grown hg12 (S := fun b => b ∈ RP.blocks p) (fun b hb => List.mem_append_right _ (blk_mem hb))) (fun i hi => .inl (hpb i hi))
              have HSUB : Hid (∀ b, blk p.2.F = some b → fstB l (k + 1) b) := fun b hb => hpb b (List.mem_append_left _ (blk_mem hb))
              have hfn := HOF11.out.rd.nil
              have hfl := HOF11.out.rd.le
              have hfm : p.2.nF ≤ maxLen := Nat.le_trans hfl HOF11.out.rd.max
              have hidf := fun (m : Nat) (hm : m < p.2.nF) W => run_index_rd (P := Tryz.prog) (A := p.2.F) (n := p.2.nF) (c := p.2.cF) Fl.ef hfn hfl m hm W
              have HIDF := Lib.hid hidf
              have HBT12 := Lib.hid hbt12
              unfold maxLen at hfm
              obtain ⟨F, hF⟩ : ∃ F, p.2.F = F := ⟨_, rfl⟩
              obtain ⟨nF, hnF⟩ : ∃ nF, p.2.nF = nF := ⟨_, rfl⟩
              obtain ⟨cF, hcF⟩ : ∃ cF, p.2.cF = cF := ⟨_, rfl⟩
              rw [hF, hnF] at hf12
              rw [hF, hnF, hcF] at HIDF
              rw [hF] at HSUB
              rw [hnF] at hfm
              have HPF := Lib.hid (show p.2.F = F ∧ p.2.nF = nF ∧ p.2.cF = cF from ⟨hF, hnF, hcF⟩)
              clear HSP hc3 hg12 hpb hbt12 HBT11 HOF11 hidf hfn hfl hF hnF hcF
              go_wp2_with fail
              go_loopw [14] (fun i wy => ∃ m : Nat, m ≤ nF ∧ i = .int .i64 m ∧ RowF wy w1.heap.size F nF ∧ Hid (But (fstB l (k + 1)) w10 wy)) (fun i _ => nF - (intOf i).toNat)
              case atStart => exact ⟨0, by omega, rfl, hf12, HBT12.out⟩
              case round =>
                obtain ⟨m, hm, rfl, hfr, hby⟩ := hrel
                clear hf12 HBT12
                obtain ⟨hRy, -⟩ := reqs_left HM10.out.rq hby.out
                obtain ⟨hc2, -⟩ := req_cells hRy HX.out
                rw [HPF.out.1, HPF.out.2.1, HPF.out.2.2] at hc2
                clear hRy
                by_cases hmn : m < nF
                · have hidf := HIDF.out m hmn
                  have hm' : (m : Int) < nF := by omega
                  go_wp2_with (first
                    | (refine wpList_build_run rfl _ _ rfl #[] (by rfl) _ (build_fd0 _) ?_)
                    | (refine wpList_store_fd rfl _ _ rfl hfr hmn rfl [] [] rfl ?_; intro w13 hf13 hg13 hz13; clear hz13))
                  have hb13 : But (fstB l (k + 1)) w10 w13 := hby.out.trans (But.of_grown hg13 (S := fun b => blk F = some b) (fun b hb => hb)) (fun i hi => .inl (HSUB.out i hi))
                  go_roundw
                  case rel => exact ⟨m + 1, by omega, by go_num, hf13, hb13⟩
                  case measure => simp [intOf]; omega
                · obtain rfl : m = nF := by omega
                  clear hmn hfr
                  go_wp2_with fail
                  go_roundw
                  case rel => exact ⟨k + 1, by have := HKN.out; omega, by go_num, hby.out⟩
                  case measure => simp [intOf]; have := HKN.out; omega
            · obtain rfl : k = nL := by omega
              have hTw := hTz wr hbz.out
              have hM10 := HM10.out
              rw [← HTK.out] at hM10
              have hXN := fun (wz : World) (hb : Below wr.heap.size wr wz) => (xmid_next hM10 (hbz.out.weaken (fun i hi => fstB_in hi)) (by rw [HTK.out]; exact HALL.out) HOK.out HBAD.out).below hb
              rw [HQL.out, HOV2.out] at hXN
              have HXN := Lib.hid hXN
              have ht2 : wr.cell? ⟨w7.heap.size, 2, none⟩ = some (.int .i64 E) := cell_of hTw rfl
              have ht0 : wr.cell? ⟨w7.heap.size, 0, none⟩ = some (.slice L2 nL2 cL2) := cell_of hTw rfl
              have ht4 : wr.cell? ⟨w7.heap.size, 4, none⟩ = some (.bool ov2) := cell_of hTw rfl
              clear hTw hM10 hXN hTz hlt6 hkn HM10
              by_cases hE0 : E = 0
              · subst hE0
                go_wp2_with fail
                go_quiet (fail)
                have hX := HXN.out _ (below_drewN (Below.refl wr.heap.size wr) nq)
                have HX := Lib.hid hX
                clear hX HXN
                go_wp2_with fail
                go_roundw
                case rel => exact ⟨j + 1, y2, m2, A2, n1 + rn, c2, nL2, ov2, false, by omega, rfl, rfl, rfl, rfl, by go_num, HX.out⟩
                case measure => simp [intOf]; omega
              · have hE1 : (E == 0) = false := by simpa using hE0
                have hE2 : decide (E ≠ 0) = true := by simpa using hE0
                rw [hE2] at HXN
                clear hE0 hE2
                go_wp2_with fail
                go_quiet (fail)
                have hX := HXN.out _ (below_drewN (Below.refl wr.heap.size wr) nq)
                have HX := Lib.hid hX
                clear hX HXN
                go_wp2_with fail
                go_roundw
                case rel => exact ⟨j + 1, y2, m2, A2, n1 + rn, c2, nL2, ov2, true, by omega, rfl, rfl, rfl, by rw [bne, hE1]; rfl, by go_num, HX.out⟩
                case measure => simp [intOf]; omega
      · obtain rfl : j = n := by omega
        have HB := Lib.hid (HB1.out.trans (hI.out.bel.mono HB1.out.size))
        clear hI
        go_wp2_with fail
        go_ret
        exact ⟨rfl, HB.out⟩
  · have HL := Lib.hid hl
    have H := Lib.hid h
    clear hl hm h
    go_enter Tryz.func3, Tryz.ntmps3
    go_wp2_with fail
    refine HBG.out.mono ?_
    rintro e w1 ⟨rfl, hB1⟩
    go_wp2_with fail
    refine (wlight_no (H.out.keep hB1) HL.out).mono ?_
    rintro e w2 ⟨rfl, rfl⟩
    go_wp2_with fail
    go_ret
    exact ⟨rfl, hB1⟩

end Go.Proofs.YtckkmdigmecagaaGreatDoor

/-
  Plain: a request that was made, as a wire takes it.
-/
namespace Go.Proofs.YtckkmdigmecagaaGreatDoor
open Go.RowKit

theorem text_crlf (t : Bs) : textF (t ++ [13, 10]) = some t := by
  unfold textF
  have h1 : (t ++ [13, 10]).length - 2 = t.length := by simp
  rw [h1, List.drop_left, List.take_left]
  rfl
/-- A line that stands there whole is looked at. -/
theorem line_step {x : WSt} (hb : x.bo = none) (h4 : x.nx ≠ 4) (hl : x.ln = []) {t l : Bs} (ht : (10 : UInt8) ∉ t) (hn : t.length ≤ 1022) : feedW x (t ++ 13 :: 10 :: l) = afterL (judgeS x t) l := by
  have e1 : (t ++ 13 :: 10 :: l)[t.length + 1]? = some 10 := by
    rw [List.getElem?_append_right (by omega), show t.length + 1 - t.length = 1 by omega]
    rfl
  have e2 : (t ++ 13 :: 10 :: l).take (t.length + 1) = t ++ [13] := by
    rw [List.take_append, List.take_of_length_le (by omega), show t.length + 1 - t.length = 1 by omega]
    rfl
  have e3 : (t ++ 13 :: 10 :: l).take (t.length + 1 + 1) = t ++ [13, 10] := by
    rw [List.take_append, List.take_of_length_le (by omega), show t.length + 1 + 1 - t.length = 2 by omega]
    rfl
  have e4 : (t ++ 13 :: 10 :: l).drop (t.length + 1 + 1) = l := by
    rw [List.drop_append, List.drop_eq_nil_of_le (by omega), show t.length + 1 + 1 - t.length = 2 by omega]
    rfl
  rw [feed_line _ x (t.length + 1) hb h4 e1 (by
    rw [e2]
    intro hm
    rcases List.mem_append.1 hm with h1 | h1
    · exact ht h1
    · cases h1 with
      | tail _ h2 => cases h2) (by rw [hl]; simp; omega), hl, List.nil_append, e3, e4, judge_text (text_crlf t)]
/-- A field's line. -/
theorem field_step {M T t l : Bs} {fs : List Fl.Fd} {N V : Bs} (ht : (10 : UInt8) ∉ t) (hn : t.length ≤ 1022) (hne : t ≠ []) (hf : fs.length ≠ 32) (h : Fl.lineR t = (N, V, 0)) : feedW (hdW M T fs) (t ++ 13 :: 10 :: l) = feedW (hdW M T (fs ++ [(N, V)])) l := by
  rw [line_step rfl (by show (2 : Nat) ≠ 4; decide) rfl ht hn, (line_field hne hf).2 (by rw [h]), h]
/-- The line that ends a head. -/
theorem end_step {M T l : Bs} {fs : List Fl.Fd} : feedW (hdW M T fs) (13 :: 10 :: l) = afterL (emptyJ M T fs) l := by
  have h := line_step (x := hdW M T fs) rfl (by show (2 : Nat) ≠ 4; decide) rfl (t := []) (l := l) (by simp) (by simp)
  rw [List.nil_append] at h
  rw [h, empty_feed]
/-- A first line that is made. -/
theorem first_step {M T l : Bs} (h1 : 1 ≤ M.length) (h2 : M.length ≤ 10) (hu : M.all upB = true) (h3 : 1 ≤ T.length) (h4 : T.length ≤ 900) (hv : T.all viB = true) : feedW newW (M ++ 32 :: (T ++ (verS ++ 13 :: 10 :: l))) = feedW (hdW M T []) l := by
  have hc1 : cut1 32 (M ++ 32 :: (T ++ 32 :: verW)) = (M, T ++ 32 :: verW, true) := cut1_of 32 _ _ (no_up hu)
  have hc2 : cut1 32 (T ++ 32 :: verW) = (T, verW, true) := cut1_of 32 _ _ (no_vi hv)
  have hf : firstF (M ++ 32 :: (T ++ 32 :: verW)) = some (M, T) := by
    have hp : FirstP (M ++ 32 :: (T ++ 32 :: verW)) := by
      unfold FirstP
      rw [hc1]
      dsimp only
      rw [hc2]
      refine ⟨rfl, rfl, rfl, h1, h2, fun e => ?_, hu, hv⟩
      have e' : T = [] := e
      rw [e'] at h3
      simp at h3
    unfold firstF
    rw [if_pos hp, hc1]
    dsimp only
    rw [hc2]
  have hno : (10 : UInt8) ∉ M ++ 32 :: (T ++ 32 :: verW) := by
    intro hm
    rcases List.mem_append.1 hm with h5 | h5
    · have := List.all_eq_true.1 hu _ h5
      simp [upB] at this
    · rcases List.mem_cons.1 h5 with h6 | h6
      · cases h6
      · rcases List.mem_append.1 h6 with h7 | h7
        · have := List.all_eq_true.1 hv _ h7
          simp [viB] at this
        · revert h7
          decide
  have hlen : (M ++ 32 :: (T ++ 32 :: verW)).length ≤ 1022 := by
    have : verW.length = 8 := rfl
    simp only [List.length_append, List.length_cons, this]
    omega
  have e : M ++ 32 :: (T ++ (verS ++ 13 :: 10 :: l)) = (M ++ 32 :: (T ++ 32 :: verW)) ++ 13 :: 10 :: l := by
    simp [verS, verW]
  rw [e, line_step rfl (by show (1 : Nat) ≠ 4; decide) rfl hno hlen, first_feed.2 M T hf]

end Go.Proofs.YtckkmdigmecagaaGreatDoor

/-
  Feeding what was chunked: all comes back, and too much is told.
-/
namespace Go.Proofs.YtckkmdigmecagaaGreatDoor.Hx
open Go.RowKit

/-- At a chunk's beginning. -/
def stA (got : List UInt8) : St := ⟨2, 0, 0, 0, got⟩
theorem feed_cons {s s1 : St} {e : Int} {x : UInt8} (l : List UInt8) (h9 : s.nx ≠ 9) (h0 : s.bd = 0) (ht : takeP s x = (s1, e)) : feedP s (x :: l) = ((feedP { s1 with bd := e } l).1 + 1, (feedP { s1 with bd := e } l).2) := by
  rw [feedP, if_neg (by rintro (h | h); exact h9 h; exact h h0), ht]
theorem digP_hexD : ∀ d : Fin 16, digP ((hexD d.1).toNat : Int) = d.1 := by decide +kernel
theorem take_hex (got : List UInt8) (v L d : Nat) (hd : d < 16) (hL : L < 8) : takeP ⟨2, v, L, 0, got⟩ (hexD d) = (⟨2, ((v * 16 + d : Nat) : Int), ((L + 1 : Nat) : Int), 0, got⟩, 0) := by
  have h1 := digP_hexD ⟨d, hd⟩
  dsimp only at h1
  unfold takeP
  dsimp only
  rw [if_neg (by omega), if_pos rfl, h1, if_pos ⟨by omega, by omega⟩]
  simp only [Prod.mk.injEq, St.mk.injEq, true_and, and_true]
  exact ⟨by omega, by omega⟩
theorem feed_hex (got : List UInt8) (v : Nat) : v < 16 ^ 8 → ∀ x, feedP (stA got) (hex0 v ++ x) = ((feedP ⟨2, v, (hex0 v).length, 0, got⟩ x).1 + (hex0 v).length, (feedP ⟨2, v, (hex0 v).length, 0, got⟩ x).2) := by
  induction v using Nat.strongRecOn with
  | ind v ih =>
    intro hv x
    by_cases h0 : v = 0
    · subst h0
      rw [hex0_zero]
      rfl
    · have hl7 := hex0_len 7 (v / 16) (by omega)
      rw [hex0_pos (by omega), List.append_assoc, ih (v / 16) (by omega) (by omega)]
      have ht := take_hex got (v / 16) (hex0 (v / 16)).length (v % 16) (by omega) (by omega)
      have e : v / 16 * 16 + v % 16 = v := by omega
      rw [e] at ht
      rw [List.singleton_append, feed_cons x (by dsimp only; omega) rfl ht]
      simp only [List.length_append, List.length_cons, List.length_nil, Nat.zero_add]
      rw [Nat.add_assoc, Nat.add_comm 1]
theorem hex0_ne {v : Nat} (h : 0 < v) : 0 < (hex0 v).length := by
  rw [hex0_pos h]
  simp
/-- The line behind a size. -/
theorem feed_line (got : List UInt8) (v L : Nat) (hv : 0 < v) (hL : 0 < L) (x : List UInt8) (hg : got.length + v ≤ 4096) :
    feedP ⟨2, v, L, 0, got⟩ (13 :: 10 :: x) = ((feedP ⟨4, v, 0, 0, got⟩ x).1 + 2, (feedP ⟨4, v, 0, 0, got⟩ x).2) := by
  have t1 : takeP ⟨2, v, L, 0, got⟩ 13 = (⟨3, v, L, 0, got⟩, 0) := by
    unfold takeP
    dsimp only
    rw [if_neg (by omega), if_pos rfl, if_neg (by intro h; exact absurd h.1 (by decide)), if_neg (by omega)]
    rfl
  have t2 : takeP ⟨3, v, L, 0, got⟩ 10 = (⟨4, v, 0, 0, got⟩, 0) := by
    unfold takeP
    dsimp only
    rw [if_neg (by omega), if_neg (by omega), if_pos rfl, if_neg (by decide), if_neg (by omega), if_neg (by omega)]
  rw [feed_cons _ (by dsimp only; omega) rfl t1]
  dsimp only
  rw [feed_cons _ (by dsimp only; omega) rfl t2]
theorem feed_line_bad (got : List UInt8) (v L : Nat) (hv : 0 < v) (hL : 0 < L) (x : List UInt8) (hg : 4096 < got.length + v) :
    (feedP ⟨2, v, L, 0, got⟩ (13 :: 10 :: x)).2.bd = 2 := by
  have t1 : takeP ⟨2, v, L, 0, got⟩ 13 = (⟨3, v, L, 0, got⟩, 0) := by
    unfold takeP
    dsimp only
    rw [if_neg (by omega), if_pos rfl, if_neg (by intro h; exact absurd h.1 (by decide)), if_neg (by omega)]
    rfl
  have t2 : takeP ⟨3, v, L, 0, got⟩ 10 = (⟨3, v, 0, 0, got⟩, 2) := by
    unfold takeP
    dsimp only
    rw [if_neg (by omega), if_neg (by omega), if_pos rfl, if_neg (by decide), if_pos (by omega)]
  rw [feed_cons _ (by dsimp only; omega) rfl t1]
  dsimp only
  rw [feed_cons _ (by dsimp only; omega) rfl t2]
  dsimp only
  rw [feedP_stop (.inr (by dsimp only; decide))]
theorem feed_data : ∀ (l : List UInt8) (got x : List UInt8), 0 < l.length → feedP ⟨4, (l.length : Nat), 0, 0, got⟩ (l ++ x) = ((feedP ⟨5, 0, 0, 0, got ++ l⟩ x).1 + l.length, (feedP ⟨5, 0, 0, 0, got ++ l⟩ x).2)
  | [], _, _, h => absurd h (by simp)
  | a :: l, got, x, _ => by
    have t : takeP ⟨4, ((a :: l).length : Nat), 0, 0, got⟩ a = (⟨if 0 < l.length then 4 else 5, (l.length : Nat), 0, 0, got ++ [a]⟩, 0) := by
      unfold takeP
      dsimp only
      rw [if_pos (.inr rfl)]
      simp only [List.length_cons, Prod.mk.injEq, St.mk.injEq, and_true, true_and]
      refine ⟨?_, by omega⟩
      by_cases h : 0 < l.length
      · rw [if_pos (by omega), if_pos h]
      · rw [if_neg (by omega), if_neg h, if_neg (by omega)]
    rw [List.cons_append, feed_cons _ (by dsimp only; omega) rfl t]
    dsimp only
    by_cases h : 0 < l.length
    · rw [if_pos h, feed_data l (got ++ [a]) x h]
      simp only [List.append_assoc, List.singleton_append, List.length_cons, Nat.add_assoc]
    · obtain rfl : l = [] := List.eq_nil_of_length_eq_zero (by omega)
      rw [if_neg h]
      rfl
theorem feed_after (got x : List UInt8) : feedP ⟨5, 0, 0, 0, got⟩ (13 :: 10 :: x) = ((feedP (stA got) x).1 + 2, (feedP (stA got) x).2) := by
  have t1 : takeP ⟨5, 0, 0, 0, got⟩ 13 = (⟨6, 0, 0, 0, got⟩, 0) := rfl
  have t2 : takeP ⟨6, 0, 0, 0, got⟩ 10 = (⟨2, 0, 0, 0, got⟩, 0) := rfl
  rw [feed_cons _ (by dsimp only; omega) rfl t1]
  dsimp only
  rw [feed_cons _ (by dsimp only; omega) rfl t2]
  rfl
theorem feed_last (got x : List UInt8) (hg : got.length ≤ 4096) : feedP (stA got) ([48, 13, 10, 13, 10] ++ x) = (5, ⟨9, 0, 0, 0, got⟩) := by
  have t1 : takeP (stA got) 48 = (⟨2, 0, 1, 0, got⟩, 0) := rfl
  have t2 : takeP ⟨2, 0, 1, 0, got⟩ 13 = (⟨3, 0, 1, 0, got⟩, 0) := rfl
  have t3 : takeP ⟨3, 0, 1, 0, got⟩ 10 = (⟨7, 0, 0, 0, got⟩, 0) := by
    unfold takeP
    dsimp only
    rw [if_neg (by omega), if_neg (by omega), if_pos rfl, if_neg (by decide), if_neg (by omega), if_pos rfl]
  have t4 : takeP ⟨7, 0, 0, 0, got⟩ 13 = (⟨8, 0, 0, 0, got⟩, 0) := rfl
  have t5 : takeP ⟨8, 0, 0, 0, got⟩ 10 = (⟨9, 0, 0, 0, got⟩, 0) := rfl
  simp only [List.cons_append, List.nil_append]
  rw [feed_cons _ (by unfold stA; dsimp only; omega) rfl t1]
  dsimp only
  rw [feed_cons _ (by dsimp only; omega) rfl t2]
  dsimp only
  rw [feed_cons _ (by dsimp only; omega) rfl t3]
  dsimp only
  rw [feed_cons _ (by dsimp only; omega) rfl t4]
  dsimp only
  rw [feed_cons _ (by dsimp only; omega) rfl t5]
  dsimp only
  rw [feedP_stop (.inl rfl)]

/-- All comes back. -/
theorem feed_chunks (k : Nat) (hk : 1 ≤ k) (x : List UInt8) : ∀ (f : Nat) (l got : List UInt8), l.length ≤ f → got.length + l.length ≤ 4096 → feedP (stA got) (chunksL k f l ++ x) = ((chunksL k f l).length, ⟨9, 0, 0, 0, got ++ l⟩)
  | 0, l, got, hf, hg => by
    obtain rfl : l = [] := List.eq_nil_of_length_eq_zero (by omega)
    rw [chunksL_nil, feed_last got x (by omega), List.append_nil]
    rfl
  | f + 1, l, got, hf, hg => by
    by_cases h : l = []
    · subst h
      rw [chunksL_nil, feed_last got x (by simp at hg; omega), List.append_nil]
      rfl
    · have hl : 0 < l.length := List.length_pos_iff.2 h
      obtain ⟨m, hm⟩ : ∃ m, min k l.length = m := ⟨_, rfl⟩
      have hm0 : 0 < m := by omega
      have hml : m ≤ l.length := by omega
      have htl : (l.take m).length = m := by rw [List.length_take]; omega
      have hdl : (l.drop m).length = l.length - m := List.length_drop
      have ih := feed_chunks k hk x f (l.drop m) (got ++ l.take m) (by omega) (by rw [List.length_append]; omega)
      have hd := feed_data (l.take m) got (13 :: 10 :: (chunksL k f (l.drop m) ++ x)) (by omega)
      rw [htl] at hd
      rw [chunksL_step h, hm]
      simp only [List.append_assoc, List.cons_append, List.nil_append]
      rw [feed_hex got m (by omega), feed_line got m _ hm0 (hex0_ne hm0) _ (by omega), hd, feed_after, ih]
      simp only [List.length_append, List.length_cons, htl, List.append_assoc, List.take_append_drop, Prod.mk.injEq, and_true]
      omega
/-- Too much is told. -/
theorem feed_over (k : Nat) (hk : 1 ≤ k) : ∀ (f : Nat) (l got : List UInt8), l.length ≤ f → got.length ≤ 4096 → 4096 < got.length + l.length → l.length < 65536 → (feedP (stA got) (chunksL k f l)).2.bd = 2
  | 0, l, got, hf, h1, h2, _ => by omega
  | f + 1, l, got, hf, h1, h2, h3 => by
    have h : l ≠ [] := by
      intro e
      rw [e] at h2
      simp at h2
      omega
    have hl : 0 < l.length := List.length_pos_iff.2 h
    obtain ⟨m, hm⟩ : ∃ m, min k l.length = m := ⟨_, rfl⟩
    have hm0 : 0 < m := by omega
    have hml : m ≤ l.length := by omega
    have htl : (l.take m).length = m := by rw [List.length_take]; omega
    have hdl : (l.drop m).length = l.length - m := List.length_drop
    rw [chunksL_step h, hm]
    simp only [List.append_assoc, List.cons_append, List.nil_append]
    rw [feed_hex got m (by omega)]
    by_cases h4 : 4096 < got.length + m
    · dsimp only
      rw [feed_line_bad got m _ hm0 (hex0_ne hm0) _ h4]
    · have ih := feed_over k hk f (l.drop m) (got ++ l.take m) (by omega) (by rw [List.length_append]; omega) (by rw [List.length_append]; omega) (by omega)
      have hd := feed_data (l.take m) got (13 :: 10 :: chunksL k f (l.drop m)) (by omega)
      rw [htl] at hd
      rw [feed_line got m _ hm0 (hex0_ne hm0) _ (by omega), hd, feed_after]
      exact ih

end Go.Proofs.YtckkmdigmecagaaGreatDoor.Hx

/-
  The document's Print: numbers in decimal.
-/
namespace Go.Proofs.YtckkmdigmecagaaGreatDoor
open Go.RowKit

def dgt (d : Nat) : UInt8 := UInt8.ofNat (48 + d)
theorem cat1 (x : UInt8) (T : List UInt8) : (⟨#[x]⟩ : ByteArray) ++ ⟨T.toArray⟩ = ⟨(x :: T).toArray⟩ := by
  apply ByteArray.ext
  apply Array.ext'
  simp
/-- A number's decimal digits. -/
def decL (v : Nat) : List UInt8 := if v < 10 then [dgt v] else decL (v / 10) ++ [dgt (v % 10)]
termination_by v
decreasing_by omega
theorem decL_small (v : Nat) (h : v < 10) : decL v = [dgt v] := by rw [decL, if_pos h]
theorem decL_big (v : Nat) (h : 10 ≤ v) : decL v = decL (v / 10) ++ [dgt (v % 10)] := by rw [decL, if_neg (by omega)]
def hexDigits : ByteArray := ⟨#[48, 49, 50, 51, 52, 53, 54, 55, 56, 57, 97, 98, 99, 100, 101, 102]⟩
theorem run_digit0 (W : World) : (Instr.sliceAt 9 (.string ⟨#[48, 49, 50, 51, 52, 53, 54, 55, 56, 57, 97, 98, 99, 100, 101, 102]⟩) (some (.int .i64 0)) (some (.int .i64 1)) none).run Tryz.prog W = .ok (.string ⟨#[48]⟩) W := by kernel_rfl
theorem run_digit1 (W : World) : (Instr.sliceAt 9 (.string ⟨#[48, 49, 50, 51, 52, 53, 54, 55, 56, 57, 97, 98, 99, 100, 101, 102]⟩) (some (.int .i64 1)) (some (.int .i64 2)) none).run Tryz.prog W = .ok (.string ⟨#[49]⟩) W := by kernel_rfl
theorem run_digit2 (W : World) : (Instr.sliceAt 9 (.string ⟨#[48, 49, 50, 51, 52, 53, 54, 55, 56, 57, 97, 98, 99, 100, 101, 102]⟩) (some (.int .i64 2)) (some (.int .i64 3)) none).run Tryz.prog W = .ok (.string ⟨#[50]⟩) W := by kernel_rfl
theorem run_digit3 (W : World) : (Instr.sliceAt 9 (.string ⟨#[48, 49, 50, 51, 52, 53, 54, 55, 56, 57, 97, 98, 99, 100, 101, 102]⟩) (some (.int .i64 3)) (some (.int .i64 4)) none).run Tryz.prog W = .ok (.string ⟨#[51]⟩) W := by kernel_rfl
theorem run_digit4 (W : World) : (Instr.sliceAt 9 (.string ⟨#[48, 49, 50, 51, 52, 53, 54, 55, 56, 57, 97, 98, 99, 100, 101, 102]⟩) (some (.int .i64 4)) (some (.int .i64 5)) none).run Tryz.prog W = .ok (.string ⟨#[52]⟩) W := by kernel_rfl
theorem run_digit5 (W : World) : (Instr.sliceAt 9 (.string ⟨#[48, 49, 50, 51, 52, 53, 54, 55, 56, 57, 97, 98, 99, 100, 101, 102]⟩) (some (.int .i64 5)) (some (.int .i64 6)) none).run Tryz.prog W = .ok (.string ⟨#[53]⟩) W := by kernel_rfl
theorem run_digit6 (W : World) : (Instr.sliceAt 9 (.string ⟨#[48, 49, 50, 51, 52, 53, 54, 55, 56, 57, 97, 98, 99, 100, 101, 102]⟩) (some (.int .i64 6)) (some (.int .i64 7)) none).run Tryz.prog W = .ok (.string ⟨#[54]⟩) W := by kernel_rfl
theorem run_digit7 (W : World) : (Instr.sliceAt 9 (.string ⟨#[48, 49, 50, 51, 52, 53, 54, 55, 56, 57, 97, 98, 99, 100, 101, 102]⟩) (some (.int .i64 7)) (some (.int .i64 8)) none).run Tryz.prog W = .ok (.string ⟨#[55]⟩) W := by kernel_rfl
theorem run_digit8 (W : World) : (Instr.sliceAt 9 (.string ⟨#[48, 49, 50, 51, 52, 53, 54, 55, 56, 57, 97, 98, 99, 100, 101, 102]⟩) (some (.int .i64 8)) (some (.int .i64 9)) none).run Tryz.prog W = .ok (.string ⟨#[56]⟩) W := by kernel_rfl
theorem run_digit9 (W : World) : (Instr.sliceAt 9 (.string ⟨#[48, 49, 50, 51, 52, 53, 54, 55, 56, 57, 97, 98, 99, 100, 101, 102]⟩) (some (.int .i64 9)) (some (.int .i64 10)) none).run Tryz.prog W = .ok (.string ⟨#[57]⟩) W := by kernel_rfl
theorem run_digit (d : Nat) (hd : d < 10) (W : World) : (Instr.sliceAt 9 (.string ⟨#[48, 49, 50, 51, 52, 53, 54, 55, 56, 57, 97, 98, 99, 100, 101, 102]⟩) (some (.int .i64 (d : Int))) (some (.int .i64 ((d : Int) + 1))) none).run Tryz.prog W = .ok (.string ⟨[dgt d].toArray⟩) W := by
  have h : d = 0 ∨ d = 1 ∨ d = 2 ∨ d = 3 ∨ d = 4 ∨ d = 5 ∨ d = 6 ∨ d = 7 ∨ d = 8 ∨ d = 9 := by omega
  rcases h with rfl | rfl | rfl | rfl | rfl | rfl | rfl | rfl | rfl | rfl
  · exact run_digit0 W
  · exact run_digit1 W
  · exact run_digit2 W
  · exact run_digit3 W
  · exact run_digit4 W
  · exact run_digit5 W
  · exact run_digit6 W
  · exact run_digit7 W
  · exact run_digit8 W
  · exact run_digit9 W

set_option maxRecDepth 20000 in
set_option maxHeartbeats 2000000 in
theorem Print_nonneg (v : Nat) (w : World) (hv : (v : Int) ≤ 9223372036854775806) :
    Calls Tryz.prog 32 #[.int .i64 (v : Int)] w fun e w' => e = .returned (.string ⟨(decL v).toArray⟩) ∧ w = w' := by
  have hv0 : (0 : Int) ≤ v := by omega
  go_enter Tryz.func32, Tryz.ntmps32
  go_wp2_with fail
  go_loop [0, 3, 5, 6] (fun n s i _ => ∃ (m j : Nat) (T : List UInt8), n = .int .i64 m ∧ s = .string ⟨T.toArray⟩ ∧ i = .int .i64 j ∧ j + m ≤ v + 1 ∧ T.length ≤ j ∧ Hid ((j = 0 ∧ m = v ∧ T = []) ∨ (0 < j ∧ decL v = if m = 0 then T else decL m ++ T))) (fun n _ i _ => (intOf n).toNat + (1 - (intOf i).toNat))
  case atStart => exact ⟨v, 0, [], rfl, rfl, rfl, by omega, by simp, .inl ⟨rfl, rfl, rfl⟩⟩
  case round =>
    obtain ⟨m, j, T, rfl, rfl, rfl, hjm, hTj, hH⟩ := hrel
    by_cases hgo : j = 0 ∨ m ≠ 0
    · have hm : (m : Int) ≤ 9223372036854775806 := by
        rcases hH.out with ⟨h1, h2, _⟩ | ⟨h1, _⟩ <;> omega
      obtain ⟨d, hd⟩ : ∃ d, m % 10 = d := ⟨_, rfl⟩
      obtain ⟨q, hq⟩ : ∃ q, m / 10 = q := ⟨_, rfl⟩
      have hmod : (m : Int) % 10 = (d : Int) := by omega
      have hdiv : (m : Int) / 10 = (q : Int) := by omega
      have hd10 : d < 10 := by omega
      have hd10' : (d : Int) ≤ 9 := by omega
      have hrun := run_digit d hd10
      have hnext : decL v = if q = 0 then dgt d :: T else decL q ++ (dgt d :: T) := by
        have hm2 : decL m = if q = 0 then [dgt d] else decL q ++ [dgt d] := by
          by_cases h10 : m < 10
          · rw [if_pos (by omega), decL_small m h10]
            congr 2
            omega
          · rw [if_neg (by omega), decL_big m (by omega), hq, hd]
        rcases hH.out with ⟨_, h2, h3⟩ | ⟨h1, h2⟩
        · subst h2 h3
          rw [hm2]
        · rw [h2, if_neg (by omega), hm2]
          split <;> simp
      have HNX := Lib.hid hnext
      have HQ := Lib.hid hq
      have hq2 : j + 1 + q ≤ v + 1 := by
        rcases hH.out with ⟨h1, h2, _⟩ | ⟨h1, _⟩ <;> omega
      have hq3 : q + (1 - (j + 1)) < m + (1 - j) := by omega
      clear hnext hd hq hH
      have hj2 : (j : Int) ≤ 9223372036854775806 := by omega
      have hTl : ¬ (9223372036854775807 < 1 + T.length) := by omega
      have fin : ∃ (m' j' : Nat) (T' : List UInt8), Value.int .i64 (q : Int) = .int .i64 m' ∧ Value.string (⟨#[dgt d]⟩ ++ ⟨T.toArray⟩) = .string ⟨T'.toArray⟩ ∧ Value.int .i64 ((j : Int) + 1) = .int .i64 j' ∧ j' + m' ≤ v + 1 ∧ T'.length ≤ j' ∧ Hid ((j' = 0 ∧ m' = v ∧ T' = []) ∨ (0 < j' ∧ decL v = if m' = 0 then T' else decL m' ++ T')) :=
        ⟨q, j + 1, dgt d :: T, rfl, by rw [cat1], by go_num, by omega, by simp; omega, .inr ⟨by omega, HNX.out⟩⟩
      have Fin := Lib.hid fin
      clear fin hTj hjm hq2
      by_cases hj : j = 0
      · subst hj
        go_wp2_with fail
        refine ⟨Fin.out, ?_⟩
        simp [intOf]
        omega
      · have hj0 : ((j : Int) == 0) = false := by simpa using hj
        have hm0 : ((m : Int) != 0) = true := by
          simp
          omega
        clear hj hgo
        go_wp2_with fail
        refine ⟨Fin.out, ?_⟩
        simp [intOf]
        omega
    · obtain rfl : m = 0 := by omega
      have hj1 : ((j : Int) == 0) = false := by
        simp
        omega
      have hF : decL v = T := by
        rcases hH.out with ⟨h1, _⟩ | ⟨_, h2⟩
        · omega
        · rw [h2, if_pos rfl]
      have HF := Lib.hid hF
      clear hF hH hgo hjm hTj
      go_wp2_with fail
      go_ret
      rw [HF.out]
      exact ⟨rfl, rfl⟩

end Go.Proofs.YtckkmdigmecagaaGreatDoor

/-
  Plain: requests that are made, as a wire takes them.
-/
namespace Go.Proofs.YtckkmdigmecagaaGreatDoor
open Go.RowKit

/-! ### A length's digits -/
theorem dgt_fin : ∀ d : Fin 10, dgB (dgt d.1) = true ∧ (dgt d.1).toNat - 48 = d.1 ∧ Fl.okV (dgt d.1) = true ∧ Fl.isB (dgt d.1) = false ∧ dgt d.1 ≠ 10 := by decide
theorem mval_snoc (x : UInt8) : ∀ (l : Bs) (v : Nat), valF (l ++ [x]) v = 10 * valF l v + (x.toNat - 48)
  | [], v => rfl
  | y :: l, v => by
    rw [List.cons_append, valF, valF, mval_snoc x l]
theorem dec_props : ∀ n : Nat, (decL n).all dgB = true ∧ valF (decL n) 0 = n ∧ decL n ≠ [] ∧ (decL n).all Fl.okV = true ∧ (decL n).all (fun x => !Fl.isB x) = true ∧ (10 : UInt8) ∉ decL n := by
  intro n
  induction n using Nat.strongRecOn with
  | ind n ih =>
    by_cases h : n < 10
    · obtain ⟨a, b, c, d, e⟩ := dgt_fin ⟨n, h⟩
      dsimp only at a b c d e
      rw [decL_small n h]
      exact ⟨by simp [a], by simp only [valF]; omega, by simp, by simp [c], by simp [d], by simp [Ne.symm e]⟩
    · obtain ⟨a, b, c, d, e⟩ := dgt_fin ⟨n % 10, by omega⟩
      dsimp only at a b c d e
      obtain ⟨i1, i2, i3, i4, i5, i6⟩ := ih (n / 10) (by omega)
      rw [decL_big n (by omega)]
      refine ⟨by rw [List.all_append, i1]; simp [a], by rw [mval_snoc, i2, b]; omega, by simp, by rw [List.all_append, i4]; simp [c], by rw [List.all_append, i5]; simp [d], fun hm => ?_⟩
      rcases List.mem_append.1 hm with h1 | h1
      · exact i6 h1
      · exact e (List.mem_singleton.1 h1).symm
theorem dec_len : ∀ (k n : Nat), n < 10 ^ k → 1 ≤ k → (decL n).length ≤ k
  | 0, _, _, h => absurd h (by omega)
  | k + 1, n, h, _ => by
    by_cases h1 : n < 10
    · rw [decL_small n h1]
      simp
    · rw [decL_big n (by omega), List.length_append]
      have hk : 1 ≤ k := by
        rcases Nat.eq_zero_or_pos k with e | e
        · subst e
          simp at h
          omega
        · exact e
      have := dec_len k (n / 10) (by rw [Nat.pow_succ] at h; exact Nat.div_lt_of_lt_mul (by omega)) hk
      simp only [List.length_cons, List.length_nil]
      omega
theorem lenF_dec {n : Nat} (h : n ≤ 4096) : lenF (decL n) = some n := by
  obtain ⟨a, b, c, -⟩ := dec_props n
  have h1 := dec_len 4 n (by omega) (by omega)
  have h2 : 1 ≤ (decL n).length := by
    rcases Nat.eq_zero_or_pos (decL n).length with e | e
    · exact absurd (List.eq_nil_of_length_eq_zero e) c
    · exact e
  unfold lenF
  rw [if_pos ⟨h2, by omega, a⟩, b]

/-! ### The lines -/
def hoT : Bs := [72, 79, 83, 84, 58, 32, 32, 97]
def coT : Bs := [67, 111, 110, 110, 101, 99, 116, 105, 111, 110, 58, 32, 120, 44, 32, 67, 108, 111, 115, 101]
def coV : Bs := [120, 44, 32, 67, 108, 111, 115, 101]
def clT : Bs := [99, 111, 110, 116, 101, 110, 116, 45, 108, 101, 110, 103, 116, 104, 58, 32]
def teT : Bs := [84, 114, 97, 110, 115, 102, 101, 114, 45, 69, 110, 99, 111, 100, 105, 110, 103, 58, 32, 67, 104, 117, 110, 107, 101, 100]
def teV : Bs := [67, 104, 117, 110, 107, 101, 100]
def hoG : Fl.Fd := (hoW, [97])
def coG : Fl.Fd := (coW, coV)
theorem line_ho : Fl.lineR hoT = (hoW, [97], 0) := by decide +kernel
theorem line_co : Fl.lineR coT = (coW, coV, 0) := by decide +kernel
theorem line_te : Fl.lineR teT = (teW, teV, 0) := by decide +kernel
theorem dropWhile_no {p : UInt8 → Bool} {l : Bs} (h : l.all (fun x => !p x) = true) : l.dropWhile p = l := by
  cases l with
  | nil => rfl
  | cons x l =>
    have hx : p x = false := by
      rw [List.all_cons, Bool.and_eq_true] at h
      simpa using h.1
    rw [List.dropWhile_cons, hx]
    rfl
theorem line_cl (n : Nat) : Fl.lineR (clT ++ decL n) = (clW, decL n, 0) := by
  obtain ⟨-, -, hne, hv, hb, -⟩ := dec_props n
  have e : clT ++ decL n = clW ++ 58 :: (32 :: decL n) := rfl
  have hc : cut1 58 (clT ++ decL n) = (clW, 32 :: decL n, true) := by
    rw [e]
    exact cut1_of 58 _ _ (by decide)
  unfold Fl.lineR
  rw [hc]
  dsimp only
  have hv2 : (32 :: decL n).all Fl.okV = true := by
    rw [List.all_cons, hv]
    rfl
  have ht : Fl.trimL (32 :: decL n) = decL n := by
    rw [Fl.trim_other]
    have h1 : (32 :: decL n).dropWhile Fl.isB = decL n := by
      rw [List.dropWhile_cons]
      have : Fl.isB 32 = true := by decide
      rw [this]
      exact dropWhile_no hb
    rw [h1]
    unfold Lib.trimRightS
    have h2 : (decL n).reverse.all (fun x => !Fl.isB x) = true := by rw [List.all_reverse]; exact hb
    have h3 := dropWhile_no h2
    unfold Fl.isB at h3
    rw [h3, List.reverse_reverse]
  rw [if_pos ⟨rfl, by decide, by decide, hv2⟩, ht]
  rfl

/-! ### The heads -/
def flds (last : Bool) (f : Fl.Fd) : List Fl.Fd := if last then [hoG, coG, f] else [hoG, f]
theorem made_cl {last : Bool} {v : Bs} {n : Nat} (h : lenF v = some n) (hn : n ≤ 4096) : emptyF (flds last (clW, v)) = (0, some (stN n)) := by
  have g1 : Fl.getF (flds last (clW, v)) clW = (v, 0) := by cases last <;> rfl
  have g2 : Fl.getF (flds last (clW, v)) teW = ([], 5) := by cases last <;> rfl
  have g3 : Fl.cntF (flds last (clW, v)) hoW = 1 := by cases last <;> rfl
  have hs : sizeF (flds last (clW, v)) = some n := by
    unfold sizeF
    rw [g1, if_pos rfl, h]
  unfold emptyF
  rw [g1, g2, g3, hs, if_neg (by simp), if_neg (by simp), if_neg (by simp; omega), if_neg (by decide)]
  rfl
theorem made_te {last : Bool} : emptyF (flds last (teW, teV)) = (0, some st0) := by cases last <;> rfl
theorem closes_cl {last : Bool} {v : Bs} : closesF (flds last (clW, v)) = last := by cases last <;> rfl
theorem closes_te {last : Bool} : closesF (flds last (teW, teV)) = last := by cases last <;> decide +kernel
/-- The head's lines up to the last one. -/
def headT (M T : Bs) (last : Bool) (l : Bs) : Bs := M ++ 32 :: (T ++ (verS ++ 13 :: 10 :: (hoT ++ 13 :: 10 :: (if last then coT ++ 13 :: 10 :: l else l))))
def okA (M T : Bs) : Prop := 1 ≤ M.length ∧ M.length ≤ 10 ∧ M.all upB = true ∧ 1 ≤ T.length ∧ T.length ≤ 900 ∧ T.all viB = true
theorem head_feed {M T : Bs} (h : okA M T) (last : Bool) (l : Bs) : feedW newW (headT M T last l) = feedW (hdW M T (if last then [hoG, coG] else [hoG])) l := by
  obtain ⟨h1, h2, h3, h4, h5, h6⟩ := h
  unfold headT
  rw [first_step h1 h2 h3 h4 h5 h6, field_step (N := hoW) (V := [97]) (by decide) (by decide) (by decide) (by decide) line_ho]
  cases last with
  | false => rfl
  | true => exact field_step (N := coW) (V := coV) (by decide) (by decide) (by decide) (by decide) line_co
/-- What comes behind a request. -/
def nextW (last : Bool) : WSt := if last then ⟨4, [], [], [], [], false, none⟩ else newW
theorem told_feed {M T : Bs} {fs : List Fl.Fd} {st : St} {b l : Bs} {last : Bool} (hk : Ok st) (h0 : st.bd = 0) (he : emptyF fs = (0, some st)) (hc : closesF fs = last) {got : Bs} {k : Nat} (hf : feedP st (b ++ l) = (k, ⟨9, 0, 0, 0, got⟩)) (hb : b.length = k) :
    feedW (hdW M T fs) (13 :: 10 :: (b ++ l)) = (⟨M, T, fs, got, !last⟩ :: (feedW (nextW last) l).1, (feedW (nextW last) l).2) := by
  rw [end_step, emptyJ_ok he, hc]
  have ht := (after_told (M := M) (T := T) (fs := fs) (kp := !last) (l := b ++ l) hk h0).2.2 (by rw [hf]) (by rw [hf])
  rw [ht.2, hf]
  dsimp only
  rw [← hb, List.drop_left]
  have : (⟨if (!last) = true then 1 else 4, [], [], [], [], false, none⟩ : WSt) = nextW last := by cases last <;> rfl
  rw [this]
/-- A request that is made. -/
def madeT (M T bd : Bs) (sz : Int) (last : Bool) : Bs :=
  headT M T last (if sz = 0 then clT ++ (decL bd.length ++ 13 :: 10 :: 13 :: 10 :: bd) else teT ++ 13 :: 10 :: 13 :: 10 :: Hx.chunksL (max sz 1).toNat bd.length bd)
def madeF (bd : Bs) (sz : Int) (last : Bool) : List Fl.Fd := flds last (if sz = 0 then (clW, decL bd.length) else (teW, teV))
theorem made_feed {M T bd : Bs} {sz : Int} {last : Bool} (h : okA M T) (hb : bd.length ≤ 4096) (l : Bs) : feedW newW (madeT M T bd sz last ++ l) = (⟨M, T, madeF bd sz last, bd, !last⟩ :: (feedW (nextW last) l).1, (feedW (nextW last) l).2) := by
  have happ : ∀ x : Bs, headT M T last x ++ l = headT M T last (x ++ l) := by
    intro x
    unfold headT
    cases last <;> simp
  unfold madeT madeF
  rw [happ, head_feed h]
  have hfs : ∀ f, (if last then [hoG, coG] else [hoG]) ++ [f] = flds last f := by
    intro f
    cases last <;> rfl
  have h32 : (if last then [hoG, coG] else [hoG]).length ≠ 32 := by cases last <;> decide
  by_cases hs : sz = 0
  · rw [if_pos hs, if_pos hs]
    obtain ⟨-, -, hne, -, -, h10⟩ := dec_props bd.length
    have hl := dec_len 4 bd.length (by omega) (by omega)
    have e : (clT ++ (decL bd.length ++ 13 :: 10 :: 13 :: 10 :: bd)) ++ l = (clT ++ decL bd.length) ++ 13 :: 10 :: (13 :: 10 :: (bd ++ l)) := by simp
    rw [e, field_step (N := clW) (V := decL bd.length) (fun hm => by
      rcases List.mem_append.1 hm with h1 | h1
      · revert h1
        decide
      · exact h10 h1) (by
      rw [List.length_append]
      have : clT.length = 16 := rfl
      omega) (by simp [clT]) h32 (line_cl _), hfs]
    have hst : feedP (stN bd.length) (bd ++ l) = (bd.length, ⟨9, 0, 0, 0, bd⟩) := by
      unfold stN
      by_cases h0 : bd.length = 0
      · rw [if_pos h0]
        obtain rfl := List.eq_nil_of_length_eq_zero h0
        exact feedP_stop (s := ⟨9, 0, 0, 0, []⟩) (.inl rfl) _
      · rw [if_neg h0, feed_plain _ _ _ (by omega), if_neg (by simp), List.take_left]
        rfl
    exact told_feed (okN _ hb) (stN_got _) (made_cl (lenF_dec hb) hb) closes_cl hst rfl
  · rw [if_neg hs, if_neg hs]
    have e : (teT ++ 13 :: 10 :: 13 :: 10 :: Hx.chunksL (max sz 1).toNat bd.length bd) ++ l = teT ++ 13 :: 10 :: (13 :: 10 :: (Hx.chunksL (max sz 1).toNat bd.length bd ++ l)) := by simp
    rw [e, field_step (N := teW) (V := teV) (by decide) (by decide) (by decide) h32 line_te, hfs]
    have hst := Hx.feed_chunks (max sz 1).toNat (by omega) l bd.length bd [] (Nat.le_refl _) (by simpa using hb)
    exact told_feed ok0 rfl made_te closes_te hst rfl

end Go.Proofs.YtckkmdigmecagaaGreatDoor
