/-
  Joined texts of this claim's author (each began as a text of its own; each says itself what it holds).
-/
import Derived.Test.YtckkmdigmecagaaGreatDoorG02
import Derived.Test.YtckkmdigmecagaaGreatDoorG00
import Derived.IntWalk
set_option linter.unusedVariables false
set_option linter.unusedSimpArgs false

/-
  Regions that draw their order, once more (see Mix): here a call that leaves the world as it is, and hands back a value that hangs on no world, counts as a read: it need not be the only operation that may come up.
-/
namespace Go.Proofs.YtckkmdigmecagaaGreatDoor
open Go.RowKit

section
variable {P : Program} {ops : Array Oper} {Q : Exit → Act → World → Prop} {md : Region.Mode} {S : World → Prop}

/-- What was run handed back v and left w. -/
def YR (P : Program) (w : World) (v : Value) : Result Next → Prop
  | .ok (.value u) w' => u = v ∧ w' = w
  | .ok (.enter f args) w' => w' = w ∧ Calls P f args w fun e w'' => e = .returned v ∧ w'' = w
  | _ => False
/-- Whenever it comes up in a world of S, it does so; or it is not reached. -/
def YC (P : Program) (ops : Array Oper) (S : World → Prop) (o : Oper) (v : Value) (a : Act) : Prop :=
  (Region.wanted o (yielded ops a.tmps) = true ∧ ∀ w, S w → YR P w v ((execOp a.eval o).run P w)) ∨ (Region.wanted o (yielded ops a.tmps) = false ∧ v = undef)
theorem YC.same {o : Oper} {v : Value} {a a' : Act} (hy : YC P ops S o v a) (he : execOp a'.eval o = execOp a.eval o) (hw : Region.wanted o (yielded ops a'.tmps) = Region.wanted o (yielded ops a.tmps)) : YC P ops S o v a' := by
  unfold YC at *
  rwa [he, hw]
theorem YC.go {i : Nat} {o : Oper} {v : Value} {a : Act} (hi : ops[i]? = some o) (hy : YC P ops S o v a) {K : Act → World → Prop} {w : World} (hS : S w) (h : K (a.put o.dst v) w) : wpOp P ops Q i K a w := by
  unfold wpOp
  rw [hi]
  dsimp only
  rcases hy with ⟨hw, hr⟩ | ⟨hw, rfl⟩
  · rw [if_pos hw]
    left
    have hr := hr w hS
    unfold Oper.wp
    generalize (execOp a.eval o).run P w = res at hr
    match res, hr with
    | .ok (.value u) w', hr =>
      obtain ⟨rfl, rfl⟩ := hr
      exact h
    | .ok (.enter f args) w', hr =>
      obtain ⟨rfl, hc⟩ := hr
      rw [Oper.upon_enter]
      refine hc.mono ?_
      rintro e w2 ⟨rfl, rfl⟩
      exact h
  · rw [if_neg (by rw [hw]; decide)]
    exact h
/-- Another operation, apart from it, comes up ahead of it. -/
theorem YC.swap {j : Nat} {oi oj : Oper} {v : Value} (hj : ops[j]? = some oj) (hap : oi.apart ops oj = true) (si : ∀ cs b, oi.op ≠ .select cs b) (sj : ∀ cs b, oj.op ≠ .select cs b)
    (hQ : ∀ c a w, Q (.panic c) (a.put oi.dst v) w → Q (.panic c) a w) {K : Act → World → Prop} {a : Act} {w : World} (hy : YC P ops S oi v a) (h : wpOp P ops Q j K (a.put oi.dst v) w) :
    wpOp P ops Q j (fun a' w' => YC P ops S oi v a' ∧ K (a'.put oi.dst v) w') a w := by
  obtain ⟨p1, p2, p3⟩ := Oper.apart_spec hap
  have k1 : ∀ (b : Act) (u : Value), YC P ops S oi v b → YC P ops S oi v (b.put oj.dst u) := fun b u hb => hb.same (execOp_put oi si b oj.dst u p3) (wanted_put oi b oj.dst u p3)
  have k2 : ∀ (b : Act) (u : Value), K ((b.put oi.dst v).put oj.dst u) w → K ((b.put oj.dst u).put oi.dst v) w := fun b u hb => by rwa [← Act.put_comm b v u p2]
  unfold wpOp at *
  rw [hj] at *
  dsimp only at *
  rw [wanted_put oj a oi.dst v p1] at h
  by_cases hw : Region.wanted oj (yielded ops a.tmps) = true
  · rw [if_pos hw] at h ⊢
    rcases h with h | ⟨h1, h2⟩
    · left
      unfold Oper.wp at *
      rw [execOp_put oj sj a oi.dst v p1] at h
      generalize (execOp a.eval oj).run P w = res at *
      match res, h with
      | .ok (.value u) w', h => exact ⟨k1 _ _ hy, by rw [← Act.put_comm a v u p2]; exact h⟩
      | .ok .skip w', h => exact ⟨k1 _ _ hy, by rw [← Act.put_comm a v undef p2]; exact h⟩
      | .ok (.defer d) w', h => exact ⟨k1 _ _ (hy.same rfl rfl), by rw [← Act.put_comm _ v undef p2, ← Act.put_defers]; exact h⟩
      | .ok (.enter f args) w', h =>
        rw [Oper.upon_enter] at h ⊢
        refine h.mono fun e w2 he => ?_
        match e, he with
        | .returned u, he => exact ⟨k1 _ _ hy, by rw [← Act.put_comm a v u p2]; exact he⟩
        | .panicked c, he => exact hQ _ _ _ he
        | .outgrown, he => exact he
      | .ok (.row r args) w', h =>
        rw [Oper.upon_row] at h ⊢
        exact Rows.mono h fun u w2 he => ⟨k1 _ _ hy, by rw [← Act.put_comm a v u p2]; exact he⟩
      | .halt (.panic u) w', h => exact hQ _ _ _ h
    · right
      refine ⟨?_, h2⟩
      unfold Oper.asks at *
      rwa [execOp_put oj sj a oi.dst v p1] at h1
  · rw [if_neg hw] at h ⊢
    exact ⟨k1 _ _ hy, k2 _ _ h⟩

theorem YC.first {i : Nat} {oi : Oper} {v : Value} (hi : ops[i]? = some oi) (hsel : ∀ (j : Nat) (o : Oper) cs b, ops[j]? = some o → o.op ≠ .select cs b) (hQ : ∀ c a w, Q (.panic c) (a.put oi.dst v) w → Q (.panic c) a w) :
    ∀ (fuel : Nat) (listed : Array Bool) (a : Act) (w : World), (∀ j oj, ops[j]? = some oj → j ≠ i → listed.getD j true = false → (∀ e ∈ oj.after, Region.binds md e = true → e.on ≠ i) → oi.apart ops oj = true) →
      i ∈ Region.ready md ops listed → YC P ops S oi v a → S w → wpAnyH P md ops Q S fuel (listed.setIfInBounds i true) (a.put oi.dst v) w → wpAnyH P md ops Q S (fuel + 1) listed a w
  | fuel, listed, a, w, hfree, hr, hy, hS, H => by
    refine ⟨fun h0 => (by rw [h0] at hr; cases hr), fun j hj => ?_⟩
    by_cases e : j = i
    · subst e
      exact hy.go hi hS ⟨hS, H⟩
    · match fuel, H with
      | 0, H =>
        have := ready_mono hj e
        rw [H.1] at this
        cases this
      | fuel + 1, H =>
        obtain ⟨hun, oj, hoj, hall⟩ := mem_ready.1 hj
        have hun2 := (mem_ready.1 hr).1
        have hno : ∀ x ∈ oj.after, Region.binds md x = true → x.on ≠ i := by
          intro x hx hb hxi
          have h1 := hall x hx hb
          rw [hxi] at h1
          by_cases hlt : i < listed.size
          · simp [hlt] at h1 hun2
            rw [h1] at hun2
            cases hun2
          · simp [Array.getElem?_eq_none (Nat.le_of_not_lt hlt)] at h1
        have h2 := YC.swap hoj (hfree j oj hoj e hun hno) (fun cs b => hsel i oi cs b hi) (fun cs b => hsel j oj cs b hoj) hQ hy (H.2 j (ready_mono hj e))
        refine wpOp_mono (fun a' w' h3 => ⟨h3.2.1, YC.first hi hsel hQ fuel (listed.setIfInBounds j true) a' w' ?_ (ready_mono hr (Ne.symm e)) h3.1 h3.2.1 ?_⟩) h2
        · intro k ok hk hki hku hkn
          refine hfree k ok hk hki ?_ hkn
          by_cases hjk : j = k
          · subst hjk
            exact hun
          · rwa [getD_set_ne true hjk] at hku
        · rw [Array.setIfInBounds_comm _ _ e]
          exact h3.2.2

/-- One operation, as in a walk in the order of the text. -/
def wpOne (P : Program) (ops : Array Oper) (Q : Exit → Act → World → Prop) (o : Oper) (K : Act → World → Prop) (a : Act) (w : World) : Prop :=
  if Region.wanted o (yielded ops a.tmps) = true then o.wp P a w K Q ∨ (o.asks P a w ∧ LetsOut Q) else K (a.put o.dst undef) w
/-- The walk: the operations by their numbers; with true: one that must be the only one that may come up. -/
def wpMixC (P : Program) (ops : Array Oper) (Q : Exit → Act → World → Prop) : List (Nat × Bool) → (World → Prop) → Act → World → Prop
  | [], _, a, w => Q .normal a w
  | (i, b) :: r, S, a, w =>
    match ops[i]? with
    | none => False
    | some o =>
      if b then wpOne P ops Q o (fun a' w' => S w' ∧ ∃ S' : World → Prop, (∀ x, S' x → S x) ∧ S' w' ∧ wpMixC P ops Q r S' a' w') a w
      else ∃ v, YC P ops S o v a ∧ wpMixC P ops Q r S (a.put o.dst v) w

def mixCB (md : Region.Mode) (ops : Array Oper) : List (Nat × Bool) → Array Bool → Bool
  | [], listed => (Region.ready md ops listed).isEmpty
  | (i, b) :: r, listed =>
    (match ops[i]? with
     | none => false
     | some _ => if b then Region.ready md ops listed == [i] else (Region.ready md ops listed).contains i && Region.free md ops listed i) &&
    mixCB md ops r (listed.setIfInBounds i true)

theorem mixc_anyH (hns : Region.noSelect ops = true) (hQ : ∀ c a d v w, Q (.panic c) (Act.put a d v) w → Q (.panic c) a w) :
    ∀ (l : List (Nat × Bool)) (listed : Array Bool) (S : World → Prop) (a : Act) (w : World), mixCB md ops l listed = true → S w → wpMixC P ops Q l S a w → wpAnyH P md ops Q S l.length listed a w
  | [], listed, S, a, w, hB, _, h => ⟨by simpa [mixCB] using hB, h⟩
  | (i, b) :: r, listed, S, a, w, hB, hS, h => by
    rw [mixCB, Bool.and_eq_true] at hB
    obtain ⟨h1, h2⟩ := hB
    rw [wpMixC] at h
    cases ho : ops[i]? with
    | none => simp [ho] at h1
    | some o =>
      simp only [ho] at h h1
      cases b with
      | false =>
        simp only [Bool.false_eq_true, if_false, Bool.and_eq_true] at h h1
        obtain ⟨v, hy, hr⟩ := h
        exact YC.first ho (Region.noSelect_spec hns) (fun c a w => hQ c a o.dst v w) r.length listed a w (Region.free_spec ho h1.2) (by simpa using h1.1) hy hS (mixc_anyH hns hQ r _ S _ w h2 hS hr)
      | true =>
        simp only [if_true, beq_iff_eq] at h h1
        refine ⟨fun h0 => (by rw [h1] at h0; cases h0), fun j hj => ?_⟩
        rw [h1] at hj
        obtain rfl : j = i := by simpa using hj
        have e : ∀ K, wpOne P ops Q o K a w → wpOp P ops Q j K a w := by
          intro K hK
          unfold wpOp
          rw [ho]
          exact hK
        refine e _ ?_
        have h3 : ∀ a' w', (S w' ∧ ∃ S' : World → Prop, (∀ x, S' x → S x) ∧ S' w' ∧ wpMixC P ops Q r S' a' w') → S w' ∧ wpAnyH P md ops Q S r.length (listed.setIfInBounds j true) a' w' := fun a' w' ⟨hs1, S', hs2, hs3, hm⟩ =>
          ⟨hs1, anyH_weaken hs2 _ _ _ _ (mixc_anyH hns hQ r _ S' a' w' h2 hs3 hm)⟩
        unfold wpOne at h ⊢
        split at h
        · rename_i hw
          rw [if_pos hw]
          exact h.imp (Oper.wp_mono h3) id
        · rename_i hw
          rw [if_neg hw]
          exact h3 _ _ h

theorem wp_region_mixg {id : Nat} {a : Act} {w : World} (l : List (Nat × Bool)) (S : World → Prop) (hm : P.follows .mixedOrders = true) (hns : Region.noSelect ops = true) (hlen : l.length = ops.size) (hB : mixCB .any ops l (Array.replicate ops.size false) = true)
    (hQ : ∀ c a d v w, Q (.panic c) (Act.put a (some d) v) w → Q (.panic c) a w) (hS : S w.drew) (h : wpMixC P ops Q l S a w.drew) : (Code.region id ops true).wp P Q a w :=
  wp_region_held (S := S) hm (by
    have := mixc_anyH hns (fun c a d v w hp => match d, hp with | none, hp => hp | some d, hp => hQ c a d v w hp) l (Array.replicate ops.size false) _ a w.drew hB hS h
    rw [hlen] at this
    exact this)
theorem wp_region_mixc {id : Nat} {a : Act} {w : World} (l : List (Nat × Bool)) (hm : P.follows .mixedOrders = true) (hns : Region.noSelect ops = true) (hlen : l.length = ops.size) (hB : mixCB .any ops l (Array.replicate ops.size false) = true)
    (hQ : ∀ c a d v w, Q (.panic c) (Act.put a (some d) v) w → Q (.panic c) a w) (h : wpMixC P ops Q l (fun x => ∃ b : Later w, x = b.at') a w.drew) : (Code.region id ops true).wp P Q a w :=
  wp_region_held (S := fun x => ∃ b : Later w, x = b.at') hm (by
    have := mixc_anyH hns (fun c a d v w hp => match d, hp with | none, hp => hp | some d, hp => hQ c a d v w hp) l (Array.replicate ops.size false) _ a w.drew hB ⟨⟨w.drew, (Below.refl _ _).drew⟩, rfl⟩ h
    rw [hlen] at this
    exact this)

/-- The numbers up to n, those of s alone. -/
def mixL (n : Nat) (s : List Nat) : List (Nat × Bool) := (List.range n).map fun i => (i, s.contains i)

theorem mixc_read {i : Nat} {o : Oper} {r : List (Nat × Bool)} {a : Act} {w : World} (ho : ops[i]? = some o) (hrd : reads o = true)
    (h : wpQuiet P ops S (fun a' => wpMixC P ops Q r S a' w) [o] a) : wpMixC P ops Q ((i, false) :: r) S a w := by
  rw [wpMixC]
  simp only [ho, Bool.false_eq_true, if_false]
  unfold wpQuiet at h
  split at h
  · rename_i hw
    obtain ⟨v, hv, hn⟩ := h
    refine ⟨v, .inl ⟨hw, fun w' hS => ?_⟩, hn⟩
    have h1 := hv w' hS
    unfold Oper.quietAt at h1
    have h2 := isVal_reads a.eval o hrd P w'
    generalize (execOp a.eval o).run P w' = res at *
    cases res with
    | ok n x =>
      obtain ⟨u, rfl⟩ := h2 x n rfl
      simp only [Oper.quietUpon] at h1
      exact ⟨h1.2, h1.1⟩
    | halt y x => simp only [Oper.quietUpon] at h1
  · rename_i hw
    exact ⟨undef, .inr ⟨by simpa using hw, rfl⟩, h⟩
/-- A load, a build, whose run is known in each such world. -/
theorem mixc_run {i : Nat} {o : Oper} {r : List (Nat × Bool)} {a : Act} {w : World} (ho : ops[i]? = some o) (hw : Region.wanted o (yielded ops a.tmps) = true) (v : Value) (hrun : ∀ w', S w' → (execOp a.eval o).run P w' = .ok (.value v) w')
    (h : wpMixC P ops Q r S (a.put o.dst v) w) : wpMixC P ops Q ((i, false) :: r) S a w := by
  rw [wpMixC]
  simp only [ho, Bool.false_eq_true, if_false]
  exact ⟨v, .inl ⟨hw, fun w' hS => by rw [hrun w' hS]; exact ⟨rfl, rfl⟩⟩, h⟩
/-- A quiet call. -/
theorem mixc_quiet {i : Nat} {o : Oper} {r : List (Nat × Bool)} {a : Act} {w : World} (ho : ops[i]? = some o) (hw : Region.wanted o (yielded ops a.tmps) = true) {f : FuncId} {args : Array Value} (v : Value) (hc : ∀ W, (execOp a.eval o).run P W = .ok (.enter f args) W) (hrun : ∀ w', S w' → Calls P f args w' fun e w'' => e = .returned v ∧ w' = w'')
    (h : wpMixC P ops Q r S (a.put o.dst v) w) : wpMixC P ops Q ((i, false) :: r) S a w := by
  rw [wpMixC]
  simp only [ho, Bool.false_eq_true, if_false]
  exact ⟨v, .inl ⟨hw, fun w' hS => by rw [hc w']; exact ⟨rfl, (hrun w' hS).mono fun _ _ ⟨h1, h2⟩ => ⟨h1, h2.symm⟩⟩⟩, h⟩
/-- One that is not reached. -/
theorem mixc_skip {i : Nat} {o : Oper} {r : List (Nat × Bool)} {a : Act} {w : World} (ho : ops[i]? = some o) (hw : Region.wanted o (yielded ops a.tmps) = false) (h : wpMixC P ops Q r S (a.put o.dst undef) w) : wpMixC P ops Q ((i, false) :: r) S a w := by
  rw [wpMixC]
  simp only [ho, Bool.false_eq_true, if_false]
  exact ⟨undef, .inr ⟨hw, rfl⟩, h⟩
theorem mixc_skip1 {i : Nat} {o : Oper} {r : List (Nat × Bool)} {a : Act} {w : World} (ho : ops[i]? = some o) (hw : Region.wanted o (yielded ops a.tmps) = false) (hS : S w) (h : wpMixC P ops Q r S (a.put o.dst undef) w) : wpMixC P ops Q ((i, true) :: r) S a w := by
  rw [wpMixC]
  simp only [ho, if_true]
  unfold wpOne
  rw [if_neg (by rw [hw]; decide)]
  exact ⟨hS, S, fun _ h => h, hS, h⟩
theorem mixc_done {a : Act} {w : World} (h : Q .normal a w) : wpMixC P ops Q [] S a w := h
/-- One that comes up alone; what stood behind it stands from then on. -/
theorem mixc_call {i : Nat} {o : Oper} {r : List (Nat × Bool)} {W : World} {a : Act} {w : World} (ho : ops[i]? = some o) (hw : Region.wanted o (yielded ops a.tmps) = true)
    (h : ∀ K : Act → World → Prop, (∀ a' w', Below W.heap.size W w' → wpMixC P ops Q r (fun x => ∃ b : Later w', x = b.at') a' w' → K a' w') → o.wp P a w K Q) : wpMixC P ops Q ((i, true) :: r) (fun x => ∃ b : Later W, x = b.at') a w := by
  rw [wpMixC]
  simp only [ho, if_true]
  unfold wpOne
  rw [if_pos hw]
  exact .inl (h _ fun a' w' hb hn => ⟨⟨⟨w', hb⟩, rfl⟩, fun x => ∃ b : Later w', x = b.at', fun x ⟨b, e⟩ => ⟨⟨x, by subst e; exact hb.trans (b.below.mono hb.size)⟩, rfl⟩, ⟨⟨w', Below.refl _ _⟩, rfl⟩, hn⟩)
/-- The same; the facts of the beginning stay in use. -/
theorem mixc_call_as {i : Nat} {o : Oper} {r : List (Nat × Bool)} {W : World} {a : Act} {w : World} (ho : ops[i]? = some o) (hw : Region.wanted o (yielded ops a.tmps) = true)
    (h : ∀ K : Act → World → Prop, (∀ a' w', Below W.heap.size W w' → wpMixC P ops Q r (fun x => ∃ b : Later W, x = b.at') a' w' → K a' w') → o.wp P a w K Q) : wpMixC P ops Q ((i, true) :: r) (fun x => ∃ b : Later W, x = b.at') a w := by
  rw [wpMixC]
  simp only [ho, if_true]
  unfold wpOne
  rw [if_pos hw]
  exact .inl (h _ fun a' w' hb hn => ⟨⟨⟨w', hb⟩, rfl⟩, _, fun _ h => h, ⟨⟨w', hb⟩, rfl⟩, hn⟩)

/-- Q, but for what goes on. -/
def QK (K : Act → World → Prop) (Q : Exit → Act → World → Prop) : Exit → Act → World → Prop
  | .normal, a, w => K a w
  | e, a, w => Q e a w
theorem upon_QK {o : Oper} {a : Act} {K K' : Act → World → Prop} : ∀ {r : Result Next}, o.upon P a K (QK K' Q) r → o.upon P a K Q r
  | .ok (.value _) _, h => h
  | .ok .skip _, h => h
  | .ok (.defer _) _, h => h
  | .ok (.enter f args) w', h => by
    rw [Oper.upon_enter] at h ⊢
    refine Calls.mono h fun e w2 he => ?_
    match e, he with
    | .returned u, he => exact he
    | .panicked c, he => exact he
    | .outgrown, he => exact he
  | .ok (.row _ _) _, h => h
  | .halt (.panic _) _, h => h
/-- One that comes up alone, walked as in a region that does not draw. -/
theorem mixc_one {i : Nat} {o : Oper} {r : List (Nat × Bool)} {a : Act} {w : World} (ho : ops[i]? = some o)
    (h : ∀ K : Act → World → Prop, (∀ a' w', S w' → wpMixC P ops Q r S a' w' → K a' w') → wpList P ops (QK K Q) [o] a w) : wpMixC P ops Q ((i, true) :: r) S a w := by
  rw [wpMixC]
  simp only [ho, if_true]
  obtain ⟨K, hK⟩ : ∃ K : Act → World → Prop, K = fun a' w' => S w' ∧ ∃ S' : World → Prop, (∀ x, S' x → S x) ∧ S' w' ∧ wpMixC P ops Q r S' a' w' := ⟨_, rfl⟩
  rw [← hK]
  have h1 := h K (fun a' w' hs hm => by rw [hK]; exact ⟨hs, S, fun _ h => h, hs, hm⟩)
  unfold wpOne
  unfold wpList at h1
  split at h1
  · rename_i hw
    rw [if_pos hw]
    exact h1.imp (fun h2 => upon_QK h2) id
  · rename_i hw
    rw [if_neg hw]
    exact h1
end

end Go.Proofs.YtckkmdigmecagaaGreatDoor

/-
  Regions that draw their order (see Mix, MixC): a plan with forks, where two operations that make memory may come up in either order.
-/
namespace Go.Proofs.YtckkmdigmecagaaGreatDoor
open Go.RowKit

inductive MPlan where
  | fin
  | read (i : Nat) (p : MPlan)
  | one (i : Nat) (p : MPlan)
  | two (i j : Nat) (p q : MPlan)
  | three (i j k : Nat) (p q r : MPlan)
def MPlan.reads : List Nat → MPlan → MPlan
  | [], p => p
  | i :: l, p => .read i (MPlan.reads l p)

section
variable {P : Program} {ops : Array Oper} {Q : Exit → Act → World → Prop} {md : Region.Mode} {S : World → Prop}

def wpOneAt (P : Program) (ops : Array Oper) (Q : Exit → Act → World → Prop) (i : Nat) (K : Act → World → Prop) (a : Act) (w : World) : Prop :=
  match ops[i]? with
  | none => False
  | some o => wpOne P ops Q o K a w
theorem wpOneAt_op {i : Nat} {K : Act → World → Prop} {a : Act} {w : World} (h : wpOneAt P ops Q i K a w) : wpOp P ops Q i K a w := by
  unfold wpOneAt at h
  unfold wpOp
  cases ho : ops[i]? with
  | none => simp [ho] at h
  | some o =>
    rw [ho] at h
    exact h

def wpPlan (P : Program) (ops : Array Oper) (Q : Exit → Act → World → Prop) (S : World → Prop) : MPlan → Act → World → Prop
  | .fin, a, w => Q .normal a w
  | .read i p, a, w => match ops[i]? with
    | none => False
    | some o => ∃ v, YC P ops S o v a ∧ wpPlan P ops Q S p (a.put o.dst v) w
  | .one i p, a, w => wpOneAt P ops Q i (fun a' w' => S w' ∧ wpPlan P ops Q S p a' w') a w
  | .two i j p q, a, w => wpOneAt P ops Q i (fun a' w' => S w' ∧ wpPlan P ops Q S p a' w') a w ∧ wpOneAt P ops Q j (fun a' w' => S w' ∧ wpPlan P ops Q S q a' w') a w
  | .three i j k p q r, a, w => wpOneAt P ops Q i (fun a' w' => S w' ∧ wpPlan P ops Q S p a' w') a w ∧ wpOneAt P ops Q j (fun a' w' => S w' ∧ wpPlan P ops Q S q a' w') a w ∧ wpOneAt P ops Q k (fun a' w' => S w' ∧ wpPlan P ops Q S r a' w') a w

def planB (md : Region.Mode) (ops : Array Oper) : Nat → MPlan → Array Bool → Bool
  | 0, .fin, listed => (Region.ready md ops listed).isEmpty
  | f + 1, .read i p, listed => (match ops[i]? with
    | none => false
    | some _ => (Region.ready md ops listed).contains i && Region.free md ops listed i) && planB md ops f p (listed.setIfInBounds i true)
  | f + 1, .one i p, listed => (Region.ready md ops listed == [i]) && planB md ops f p (listed.setIfInBounds i true)
  | f + 1, .two i j p q, listed => (Region.ready md ops listed == [i, j]) && planB md ops f p (listed.setIfInBounds i true) && planB md ops f q (listed.setIfInBounds j true)
  | f + 1, .three i j k p q r, listed => (Region.ready md ops listed == [i, j, k]) && planB md ops f p (listed.setIfInBounds i true) && planB md ops f q (listed.setIfInBounds j true) && planB md ops f r (listed.setIfInBounds k true)
  | _, _, _ => false

theorem plan_anyH (hns : Region.noSelect ops = true) (hQ : ∀ c a d v w, Q (.panic c) (Act.put a d v) w → Q (.panic c) a w) :
    ∀ (f : Nat) (p : MPlan) (listed : Array Bool) (a : Act) (w : World), planB md ops f p listed = true → S w → wpPlan P ops Q S p a w → wpAnyH P md ops Q S f listed a w
  | 0, .fin, listed, a, w, hB, _, h => ⟨by simpa [planB] using hB, h⟩
  | f + 1, .read i p, listed, a, w, hB, hS, h => by
    rw [planB, Bool.and_eq_true] at hB
    obtain ⟨h1, h2⟩ := hB
    rw [wpPlan] at h
    cases ho : ops[i]? with
    | none => simp [ho] at h1
    | some o =>
      simp only [ho, Bool.and_eq_true] at h h1
      obtain ⟨v, hy, hr⟩ := h
      exact YC.first ho (Region.noSelect_spec hns) (fun c a w => hQ c a o.dst v w) f listed a w (Region.free_spec ho h1.2) (by simpa using h1.1) hy hS (plan_anyH hns hQ f p _ _ w h2 hS hr)
  | f + 1, .one i p, listed, a, w, hB, hS, h => by
    rw [planB, Bool.and_eq_true, beq_iff_eq] at hB
    obtain ⟨h1, h2⟩ := hB
    refine ⟨fun h0 => (by rw [h1] at h0; cases h0), fun j hj => ?_⟩
    rw [h1] at hj
    obtain rfl : j = i := by simpa using hj
    rw [wpPlan] at h
    exact wpOp_mono (fun a' w' ⟨hs, hp⟩ => ⟨hs, plan_anyH hns hQ f p _ a' w' h2 hs hp⟩) (wpOneAt_op h)
  | f + 1, .two i j p q, listed, a, w, hB, hS, h => by
    rw [planB, Bool.and_eq_true, Bool.and_eq_true, beq_iff_eq] at hB
    obtain ⟨⟨h1, h2⟩, h3⟩ := hB
    refine ⟨fun h0 => (by rw [h1] at h0; cases h0), fun k hk => ?_⟩
    rw [h1] at hk
    rw [wpPlan] at h
    obtain ⟨ha, hb⟩ := h
    have hk2 : k = i ∨ k = j := by simpa using hk
    rcases hk2 with rfl | rfl
    · exact wpOp_mono (fun a' w' ⟨hs, hp⟩ => ⟨hs, plan_anyH hns hQ f p _ a' w' h2 hs hp⟩) (wpOneAt_op ha)
    · exact wpOp_mono (fun a' w' ⟨hs, hp⟩ => ⟨hs, plan_anyH hns hQ f q _ a' w' h3 hs hp⟩) (wpOneAt_op hb)
  | f + 1, .three i j k p q r, listed, a, w, hB, hS, h => by
    rw [planB, Bool.and_eq_true, Bool.and_eq_true, Bool.and_eq_true, beq_iff_eq] at hB
    obtain ⟨⟨⟨h1, h2⟩, h3⟩, h4⟩ := hB
    refine ⟨fun h0 => (by rw [h1] at h0; cases h0), fun m hm => ?_⟩
    rw [h1] at hm
    rw [wpPlan] at h
    obtain ⟨ha, hb, hc⟩ := h
    have hm2 : m = i ∨ m = j ∨ m = k := by simpa using hm
    rcases hm2 with rfl | rfl | rfl
    · exact wpOp_mono (fun a' w' ⟨hs, hp⟩ => ⟨hs, plan_anyH hns hQ f p _ a' w' h2 hs hp⟩) (wpOneAt_op ha)
    · exact wpOp_mono (fun a' w' ⟨hs, hp⟩ => ⟨hs, plan_anyH hns hQ f q _ a' w' h3 hs hp⟩) (wpOneAt_op hb)
    · exact wpOp_mono (fun a' w' ⟨hs, hp⟩ => ⟨hs, plan_anyH hns hQ f r _ a' w' h4 hs hp⟩) (wpOneAt_op hc)
  | 0, .three .., _, _, _, hB, _, _ => by simp [planB] at hB
  | 0, .read .., _, _, _, hB, _, _ => by simp [planB] at hB
  | 0, .one .., _, _, _, hB, _, _ => by simp [planB] at hB
  | 0, .two .., _, _, _, hB, _, _ => by simp [planB] at hB
  | _ + 1, .fin, _, _, _, hB, _, _ => by simp [planB] at hB

theorem wp_region_plan {id : Nat} {a : Act} {w : World} (p : MPlan) (S : World → Prop) (hm : P.follows .mixedOrders = true) (hns : Region.noSelect ops = true) (hB : planB .any ops ops.size p (Array.replicate ops.size false) = true)
    (hQ : ∀ c a d v w, Q (.panic c) (Act.put a (some d) v) w → Q (.panic c) a w) (hS : S w.drew) (h : wpPlan P ops Q S p a w.drew) : (Code.region id ops true).wp P Q a w :=
  wp_region_held (S := S) hm (plan_anyH hns (fun c a d v w hp => match d, hp with | none, hp => hp | some d, hp => hQ c a d v w hp) _ p (Array.replicate ops.size false) a w.drew hB hS h)

theorem plan_read {i : Nat} {o : Oper} {p : MPlan} {a : Act} {w : World} (ho : ops[i]? = some o) (hrd : reads o = true)
    (h : wpQuiet P ops S (fun a' => wpPlan P ops Q S p a' w) [o] a) : wpPlan P ops Q S (.read i p) a w := by
  rw [wpPlan]
  simp only [ho]
  unfold wpQuiet at h
  split at h
  · rename_i hw
    obtain ⟨v, hv, hn⟩ := h
    refine ⟨v, .inl ⟨hw, fun w' hS => ?_⟩, hn⟩
    have h1 := hv w' hS
    unfold Oper.quietAt at h1
    have h2 := isVal_reads a.eval o hrd P w'
    generalize (execOp a.eval o).run P w' = res at *
    cases res with
    | ok n x =>
      obtain ⟨u, rfl⟩ := h2 x n rfl
      simp only [Oper.quietUpon] at h1
      exact ⟨h1.2, h1.1⟩
    | halt y x => simp only [Oper.quietUpon] at h1
  · rename_i hw
    exact ⟨undef, .inr ⟨by simpa using hw, rfl⟩, h⟩
theorem plan_run {i : Nat} {o : Oper} {p : MPlan} {a : Act} {w : World} (ho : ops[i]? = some o) (hw : Region.wanted o (yielded ops a.tmps) = true) (v : Value) (hrun : ∀ w', S w' → (execOp a.eval o).run P w' = .ok (.value v) w')
    (h : wpPlan P ops Q S p (a.put o.dst v) w) : wpPlan P ops Q S (.read i p) a w := by
  rw [wpPlan]
  simp only [ho]
  exact ⟨v, .inl ⟨hw, fun w' hS => by rw [hrun w' hS]; exact ⟨rfl, rfl⟩⟩, h⟩
theorem plan_load {i : Nat} {o : Oper} {p : MPlan} {a : Act} {w : World} (ho : ops[i]? = some o) {ty : TypeId} {x : Operand} (hop : o.op = .load ty x) (hw : Region.wanted o (yielded ops a.tmps) = true) (ad : Addr) (hx : a.eval x = .pointer (some ad)) (v : Value) (hrun : ∀ w', S w' → (loadVar ty ad).run P w' = .ok v w')
    (h : wpPlan P ops Q S p (a.put o.dst v) w) : wpPlan P ops Q S (.read i p) a w :=
  plan_run ho hw v (fun w' hS => by
    unfold execOp
    simp only [hop, hx, Instr.loadAt, Instr.sureAddr, Sem.run_bind, Sem.run_pure, Result.andThen_ok, hrun w' hS]) h
theorem plan_arr {i : Nat} {o : Oper} {p : MPlan} {a : Act} {w : World} (ho : ops[i]? = some o) {ty : TypeId} {x : Operand} (hop : o.op = .sliceToArrayPointer ty x) (hw : Region.wanted o (yielded ops a.tmps) = true) (u : Value) (hx : a.eval x = u) (v : Value) (hrun : ∀ w', (Instr.arrayAt ty u).run P w' = .ok v w')
    (h : wpPlan P ops Q S p (a.put o.dst v) w) : wpPlan P ops Q S (.read i p) a w :=
  plan_run ho hw v (fun w' _ => by
    unfold execOp
    simp only [hop, hx, Sem.run_bind, Sem.run_pure, Result.andThen_ok, hrun w']) h
theorem plan_quiet {i : Nat} {o : Oper} {p : MPlan} {a : Act} {w : World} (ho : ops[i]? = some o) (hw : Region.wanted o (yielded ops a.tmps) = true) {f : FuncId} {args : Array Value} (v : Value) (hc : ∀ W, (execOp a.eval o).run P W = .ok (.enter f args) W) (hrun : ∀ w', S w' → Calls P f args w' fun e w'' => e = .returned v ∧ w' = w'')
    (h : wpPlan P ops Q S p (a.put o.dst v) w) : wpPlan P ops Q S (.read i p) a w := by
  rw [wpPlan]
  simp only [ho]
  exact ⟨v, .inl ⟨hw, fun w' hS => by rw [hc w']; exact ⟨rfl, (hrun w' hS).mono fun _ _ ⟨h1, h2⟩ => ⟨h1, h2.symm⟩⟩⟩, h⟩
theorem plan_skip {i : Nat} {o : Oper} {p : MPlan} {a : Act} {w : World} (ho : ops[i]? = some o) (hw : Region.wanted o (yielded ops a.tmps) = false) (h : wpPlan P ops Q S p (a.put o.dst undef) w) : wpPlan P ops Q S (.read i p) a w := by
  rw [wpPlan]
  simp only [ho]
  exact ⟨undef, .inr ⟨hw, rfl⟩, h⟩
theorem oneAt {i : Nat} {o : Oper} {p : MPlan} {a : Act} {w : World} (ho : ops[i]? = some o)
    (h : ∀ K : Act → World → Prop, (∀ a' w', S w' → wpPlan P ops Q S p a' w' → K a' w') → wpList P ops (QK K Q) [o] a w) : wpOneAt P ops Q i (fun a' w' => S w' ∧ wpPlan P ops Q S p a' w') a w := by
  unfold wpOneAt
  rw [ho]
  dsimp only
  obtain ⟨K, hK⟩ : ∃ K : Act → World → Prop, K = fun a' w' => S w' ∧ wpPlan P ops Q S p a' w' := ⟨_, rfl⟩
  rw [← hK]
  have h1 := h K (fun a' w' hs hm => by rw [hK]; exact ⟨hs, hm⟩)
  unfold wpOne
  unfold wpList at h1
  split at h1
  · rename_i hw
    rw [if_pos hw]
    exact h1.imp (fun h2 => upon_QK h2) id
  · rename_i hw
    rw [if_neg hw]
    exact h1
theorem plan_one {i : Nat} {o : Oper} {p : MPlan} {a : Act} {w : World} (ho : ops[i]? = some o)
    (h : ∀ K : Act → World → Prop, (∀ a' w', S w' → wpPlan P ops Q S p a' w' → K a' w') → wpList P ops (QK K Q) [o] a w) : wpPlan P ops Q S (.one i p) a w := by
  rw [wpPlan]
  exact oneAt ho h
theorem plan_two {i j : Nat} {oi oj : Oper} {p q : MPlan} {a : Act} {w : World} (hi : ops[i]? = some oi) (hj : ops[j]? = some oj)
    (h : ∀ K : Act → World → Prop, (∀ a' w', S w' → wpPlan P ops Q S p a' w' → K a' w') → wpList P ops (QK K Q) [oi] a w)
    (h2 : ∀ K : Act → World → Prop, (∀ a' w', S w' → wpPlan P ops Q S q a' w' → K a' w') → wpList P ops (QK K Q) [oj] a w) : wpPlan P ops Q S (.two i j p q) a w := by
  rw [wpPlan]
  exact ⟨oneAt hi h, oneAt hj h2⟩
theorem plan_three {i j k : Nat} {oi oj ok : Oper} {p q r : MPlan} {a : Act} {w : World} (hi : ops[i]? = some oi) (hj : ops[j]? = some oj) (hk : ops[k]? = some ok)
    (h : ∀ K : Act → World → Prop, (∀ a' w', S w' → wpPlan P ops Q S p a' w' → K a' w') → wpList P ops (QK K Q) [oi] a w)
    (h2 : ∀ K : Act → World → Prop, (∀ a' w', S w' → wpPlan P ops Q S q a' w' → K a' w') → wpList P ops (QK K Q) [oj] a w)
    (h3 : ∀ K : Act → World → Prop, (∀ a' w', S w' → wpPlan P ops Q S r a' w' → K a' w') → wpList P ops (QK K Q) [ok] a w) : wpPlan P ops Q S (.three i j k p q r) a w := by
  rw [wpPlan]
  exact ⟨oneAt hi h, oneAt hj h2, oneAt hk h3⟩
theorem plan_fin {a : Act} {w : World} (h : Q .normal a w) : wpPlan P ops Q S .fin a w := h
end

/-- The worlds in which block g is as it was. -/
structure Keep1 (w : World) (g : Nat) where
  at' : World
  same : at'.heap[g]? = w.heap[g]?
instance (w : World) (g : Nat) : Nonempty (Keep1 w g) := ⟨⟨w, rfl⟩⟩

end Go.Proofs.YtckkmdigmecagaaGreatDoor

/-
  Fields held against each other; begun.
-/
namespace Go.Proofs.YtckkmdigmecagaaGreatDoor.Fl
open Go.RowKit

/-- Are two fields the same? -/
def fdEq (a b a2 b2 : List UInt8) : Bool := (a == a2) && (b == b2)
section
variable {a b a2 b2 : List UInt8}
theorem part_fn (W : World) : (part 9 (fdA a b) 0).run Tryz.prog W = .ok (.string ⟨a.toArray⟩) W := by
  simp [part, isAgg, run_underlying Tryz.underlying9, fdA]
theorem part_fv (W : World) : (part 9 (fdA a b) 1).run Tryz.prog W = .ok (.string ⟨b.toArray⟩) W := by
  simp [part, isAgg, run_underlying Tryz.underlying9, fdA]
theorem equal_fd (W : World) : (Op.equalIn 10000 44 (.agg (fdA a b)) (.agg (fdA a2 b2))).run Tryz.prog W = .ok (fdEq a b a2 b2) W := by
  have hS : Tryz.prog.underlying 44 = some (.struct (Tryz.prog.fieldsOf 44)) := by kernel_rfl
  have hp : Tryz.prog.stoodInHeld 44 = false := by kernel_rfl
  have h1 : (Op.equalIn 9999 9 (.string ⟨a.toArray⟩) (.string ⟨a2.toArray⟩)).run Tryz.prog W = .ok (a == a2) W := by
    rw [show (9999 : Nat) = 9998 + 1 from rfl, run_equalIn_string W 9998 9 _ _ Tryz.underlying9, ByteArray.toList_eq, ByteArray.toList_eq]
  have h2 : (Op.equalIn 9999 9 (.string ⟨b.toArray⟩) (.string ⟨b2.toArray⟩)).run Tryz.prog W = .ok (b == b2) W := by
    rw [show (9999 : Nat) = 9998 + 1 from rfl, run_equalIn_string W 9998 9 _ _ Tryz.underlying9, ByteArray.toList_eq, ByteArray.toList_eq]
  rw [show (10000 : Nat) = 9999 + 1 from rfl, run_equalIn_agg W 9999 44 _ _ hS hp]
  simp only [Program.fieldsOf, Tryz.underlying44]
  unfold fdEq
  generalize (a == a2) = B1 at *
  generalize (b == b2) = B2 at *
  cases B1 <;> cases B2 <;> simp [Op.eqFields, part_fn, part_fv, h1, h2, Result.andThen]
theorem eql_fd (W : World) : (binOp .eql 44 (.agg (fdA a b)) (.agg (fdA a2 b2))).run Tryz.prog W = .ok (.bool (fdEq a b a2 b2)) W := by
  rw [run_eql_struct, equal_fd]
  rfl
end
section
variable {ops : Array Oper} {rest : List Oper} {o : Oper} {a : Act} {Q : Exit → Act → World → Prop} {w : World} {x y x2 y2 : List UInt8}
theorem wpList_eql_fd (hw : Region.wanted o (yielded ops a.tmps) = true) (u v : Operand) (ho : o.op = .binOp .eql 44 u v 44) (hu : a.eval u = .agg (fdA x y)) (hv : a.eval v = .agg (fdA x2 y2))
    (k : wpList Tryz.prog ops Q rest (a.put o.dst (.bool (fdEq x y x2 y2))) w) : wpList Tryz.prog ops Q (o :: rest) a w := by
  refine wpList_taken hw fun K hK => ?_
  have hg := run_eqGuard_agg (P := Tryz.prog) w .eql 44 u v (fdA x y) (fdA x2 y2) (by kernel_rfl)
  unfold Oper.wp execOp
  simp only [ho, hu, hv, Sem.run_bind, Sem.run_pure, Result.andThen_ok, hg, eql_fd w]
  exact hK _ _ k
end
def hostL : List UInt8 := [72, 111, 115, 116, 58, 32, 97, 32]
def closeL : List UInt8 := [67, 108, 111, 115, 101, 44, 32, 44, 98]
theorem line_host : lineR hostL = ([104, 111, 115, 116], [97], 0) := by decide +kernel
theorem words_close : wordsF (split1 44 closeL) = [[99, 108, 111, 115, 101], [98]] := by decide +kernel

end Go.Proofs.YtckkmdigmecagaaGreatDoor.Fl

/-
  Package field and the document's answer: Count, Get.
-/
namespace Go.Proofs.YtckkmdigmecagaaGreatDoor.Fl
open Go.RowKit

def isF (s : List UInt8) (f : Fd) : Bool := f.1 == s
def cntF (fs : List Fd) (s : List UInt8) : Nat := fs.countP (isF s)
def getF (fs : List Fd) (s : List UInt8) : List UInt8 × Int :=
  if cntF fs s = 0 then ([], 5) else if cntF fs s = 1 then (((fs.find? (isF s)).map (·.2)).getD [], 0) else ([], 6)
theorem cnt_succ {fs : List Fd} {k : Nat} {f : Fd} (h : fs[k]? = some f) (s : List UInt8) : cntF (fs.take (k + 1)) s = cntF (fs.take k) s + if isF s f then 1 else 0 := by
  obtain ⟨hk, hf⟩ := List.getElem?_eq_some_iff.1 h
  unfold cntF
  rw [List.take_succ_eq_append_getElem hk, List.countP_append, hf]
  simp [List.countP_cons]
theorem cnt_le (fs : List Fd) (s : List UInt8) : cntF fs s ≤ fs.length := List.countP_le_length
theorem cell_fd {w : World} {g i : Nat} {cs : Array Value} {t : TypeId} {fr : Nat × Nat} {v : Value} (h : w.heap[g]? = some (.cells cs t fr)) (hv : cs[i]? = some v) : w.cell? ⟨g, i, none⟩ = some v := by
  simp [World.cell?, h, hv]
theorem find_at {fs : List Fd} {s : List UInt8} {k : Nat} {f : Fd} (hb : ∀ (j : Nat) g, j < k → fs[j]? = some g → isF s g = false) (h : fs[k]? = some f) (hf : isF s f = true) : fs.find? (isF s) = some f := by
  induction fs generalizing k with
  | nil => simp at h
  | cons g fs ih =>
    cases k with
    | zero =>
      obtain rfl : g = f := by simpa using h
      rw [List.find?_cons, hf]
    | succ k =>
      have hg := hb 0 g (by omega) rfl
      rw [List.find?_cons, hg]
      exact ih (k := k) (fun j x hj hx => hb (j + 1) x (by omega) (by simpa using hx)) (by simpa using h)

set_option maxRecDepth 20000 in
set_option maxHeartbeats 4000000 in
theorem Count_any {w : World} {A : Option Addr} {n c : Nat} {fs : List Fd} (h : Fds w A n c fs) (hn : n ≤ 1000) (s : List UInt8) :
    Calls Tryz.prog 60 #[.slice A n c, .string ⟨s.toArray⟩] w fun e w' => e = .returned (.int .i64 (cntF fs s)) ∧ Below w.heap.size w w' := by
  have HL := Lib.hid h.len
  go_enter Tryz.func60, Tryz.ntmps60
  go_wp2_with fail
  go_loopw [5, 10] (fun v i wr => ∃ k : Nat, k ≤ n ∧ v = .int .i64 (cntF (fs.take k) s) ∧ i = .int .i64 k ∧ Below w.heap.size w wr) (fun _ i _ => n - (intOf i).toNat)
  case atStart => exact ⟨0, by omega, rfl, rfl, Below.refl _ _⟩
  case round =>
    obtain ⟨k, hk, rfl, rfl, hb⟩ := hrel
    by_cases hkn : k < n
    · have hx : fs[k]? = some (fs[k]'(by rw [HL.out]; exact hkn)) := List.getElem?_eq_getElem _
      generalize fs[k]'(by rw [HL.out]; exact hkn) = f at hx
      have hr := h.below hb
      have hidx := fun W => h.idx hkn W
      have hld := hr.load hx
      have hcs := cnt_succ hx s
      have hle : cntF (fs.take k) s ≤ 1000 := by
        have := cnt_le (fs.take k) s
        rw [List.length_take] at this
        omega
      have hk' : (k : Int) < n := by omega
      have HLD := Lib.hid hld
      obtain ⟨f1, f2⟩ := f
      dsimp only at HLD
      have HCS := Lib.hid hcs
      clear hx hkn hld hcs hr
      obtain ⟨C, hC⟩ : ∃ C, cntF (fs.take k) s = C := ⟨_, rfl⟩
      rw [hC] at HCS hle ⊢
      clear hC
      by_cases he : f1 = s
      · have he' : (f1 == s) = true := by simpa using he
        have HN : Hid (cntF (fs.take (k + 1)) s = C + 1) := by
          show _ = _
          rw [HCS.out, if_pos (show isF s (f1, f2) = true from he')]
        clear he HCS
        go_wp2_with (first
          | (refine wpList_load_run rfl _ _ rfl _ rfl _ HLD.out ?_)
          | (refine wpList_alloc_zero rfl _ rfl (fdA [] []) zero_fd ?_; intro w4 hg4 hb4 hz4; clear hz4)
          | (refine wpList_store_all rfl _ _ _ rfl wr.heap.size rfl _ _ _ rfl hg4 (size_fd _ _) rfl (fd_one _ _) ?_; intro w5 hg5 hgr5 hz5; clear hz5; have hb5 : Below wr.heap.size wr w5 := hb4.grown hgr5 hb4.size (fun g hg => (by obtain rfl := Option.some.inj hg; exact Nat.le_refl _)); have hc0 : w5.cell? ⟨wr.heap.size, 0, none⟩ = some (.string ⟨f1.toArray⟩) := cell_fd hg5 rfl))
        go_roundw
        case rel => exact ⟨k + 1, by omega, by rw [HN.out]; go_num, by go_num, hb.trans (hb5.mono hb.size)⟩
        case measure => simp [intOf]; omega
      · have he' : (f1 == s) = false := by simpa using he
        have HN : Hid (cntF (fs.take (k + 1)) s = C) := by
          show _ = _
          have hne : ¬ isF s (f1, f2) = true := by
            unfold isF
            rw [he']
            exact Bool.false_ne_true
          rw [HCS.out, if_neg hne, Nat.add_zero]
        clear he HCS
        go_wp2_with (first
          | (refine wpList_load_run rfl _ _ rfl _ rfl _ HLD.out ?_)
          | (refine wpList_alloc_zero rfl _ rfl (fdA [] []) zero_fd ?_; intro w4 hg4 hb4 hz4; clear hz4)
          | (refine wpList_store_all rfl _ _ _ rfl wr.heap.size rfl _ _ _ rfl hg4 (size_fd _ _) rfl (fd_one _ _) ?_; intro w5 hg5 hgr5 hz5; clear hz5; have hb5 : Below wr.heap.size wr w5 := hb4.grown hgr5 hb4.size (fun g hg => (by obtain rfl := Option.some.inj hg; exact Nat.le_refl _)); have hc0 : w5.cell? ⟨wr.heap.size, 0, none⟩ = some (.string ⟨f1.toArray⟩) := cell_fd hg5 rfl))
        go_roundw
        case rel => exact ⟨k + 1, by omega, by rw [HN.out], by go_num, hb.trans (hb5.mono hb.size)⟩
        case measure => simp [intOf]; omega
    · obtain rfl : k = n := by omega
      rw [List.take_of_length_le (by rw [HL.out]; exact Nat.le_refl _)]
      clear hkn
      go_wp2_with fail
      go_ret
      exact ⟨rfl, hb⟩

set_option maxRecDepth 20000 in
set_option maxHeartbeats 4000000 in
theorem RCount_any {w : World} {A : Option Addr} {n c : Nat} {fs : List Fd} (h : Fds w A n c fs) (hn : n ≤ 1000) (s : List UInt8) :
    Calls Tryz.prog 41 #[.slice A n c, .string ⟨s.toArray⟩] w fun e w' => e = .returned (.int .i64 (cntF fs s)) ∧ w = w' := by
  have HL := Lib.hid h.len
  go_enter Tryz.func41, Tryz.ntmps41
  go_wp2_with fail
  go_loopw [5, 6] (fun v i wr => ∃ k : Nat, k ≤ n ∧ v = .int .i64 (cntF (fs.take k) s) ∧ i = .int .i64 k ∧ wr = w) (fun _ i _ => n - (intOf i).toNat)
  case atStart => exact ⟨0, by omega, rfl, rfl, rfl⟩
  case round =>
    obtain ⟨k, hk, rfl, rfl, rfl⟩ := hrel
    by_cases hkn : k < n
    · have hx : fs[k]? = some (fs[k]'(by rw [HL.out]; exact hkn)) := List.getElem?_eq_getElem _
      generalize fs[k]'(by rw [HL.out]; exact hkn) = f at hx
      have hidx := fun W => h.idx hkn W
      have hcell := h.name hx
      have hcs := cnt_succ hx s
      have hle : cntF (fs.take k) s ≤ 1000 := by
        have := cnt_le (fs.take k) s
        rw [List.length_take] at this
        omega
      have hk' : (k : Int) < n := by omega
      obtain ⟨f1, f2⟩ := f
      have HCS := Lib.hid hcs
      unfold strV at hcell
      clear hx hkn hcs
      obtain ⟨C, hC⟩ : ∃ C, cntF (fs.take k) s = C := ⟨_, rfl⟩
      rw [hC] at HCS hle ⊢
      clear hC
      by_cases he : f1 = s
      · have he' : (f1 == s) = true := by simpa using he
        have HN : Hid (cntF (fs.take (k + 1)) s = C + 1) := by
          show _ = _
          rw [HCS.out, if_pos (show isF s (f1, f2) = true from he')]
        clear he HCS
        go_wp2_with fail
        go_roundw
        case rel => exact ⟨k + 1, by omega, by rw [HN.out]; go_num, by go_num, by trivial⟩
        case measure => simp [intOf]; omega
      · have he' : (f1 == s) = false := by simpa using he
        have HN : Hid (cntF (fs.take (k + 1)) s = C) := by
          show _ = _
          have hne : ¬ isF s (f1, f2) = true := by
            unfold isF
            rw [he']
            exact Bool.false_ne_true
          rw [HCS.out, if_neg hne, Nat.add_zero]
        clear he HCS
        go_wp2_with fail
        go_roundw
        case rel => exact ⟨k + 1, by omega, by rw [HN.out], by go_num, by trivial⟩
        case measure => simp [intOf]; omega
    · obtain rfl : k = n := by omega
      rw [List.take_of_length_le (by rw [HL.out]; exact Nat.le_refl _)]
      clear hkn
      go_wp2_with fail
      go_ret
      exact ⟨rfl, rfl⟩

end Go.Proofs.YtckkmdigmecagaaGreatDoor.Fl

/-
  Package field and the document's answer: Get.
-/
namespace Go.Proofs.YtckkmdigmecagaaGreatDoor.Fl
open Go.RowKit

def Got (fs : List Fd) (s : List UInt8) (e : Ending) : Prop := e = .returned (.tuple #[.string ⟨(getF fs s).1.toArray⟩, .int .i64 (getF fs s).2])
theorem get_none {fs : List Fd} {s : List UInt8} (h : cntF fs s = 0) : getF fs s = ([], 5) := if_pos h
theorem get_one {fs : List Fd} {s : List UInt8} (h : cntF fs s = 1) {k : Nat} {f : Fd} (hb : ∀ (j : Nat) g, j < k → fs[j]? = some g → isF s g = false) (hx : fs[k]? = some f) (hf : isF s f = true) : getF fs s = (f.2, 0) := by
  unfold getF
  rw [if_neg (by omega), if_pos h, find_at hb hx hf]
  rfl
theorem get_many {fs : List Fd} {s : List UInt8} (h0 : cntF fs s ≠ 0) (h1 : cntF fs s ≠ 1) : getF fs s = ([], 6) := by
  unfold getF
  rw [if_neg h0, if_neg h1]
theorem cnt_none {fs : List Fd} {s : List UInt8} (hb : ∀ (j : Nat) g, fs[j]? = some g → isF s g = false) : cntF fs s = 0 := by
  unfold cntF
  rw [List.countP_eq_zero]
  intro g hg
  obtain ⟨j, hj⟩ := List.mem_iff_getElem?.1 hg
  rw [hb j g hj]
  exact Bool.false_ne_true

set_option maxRecDepth 20000 in
set_option maxHeartbeats 4000000 in
theorem Get_any {w : World} {A : Option Addr} {n c : Nat} {fs : List Fd} (h : Fds w A n c fs) (hn : n ≤ 1000) (s : List UInt8) :
    Calls Tryz.prog 58 #[.slice A n c, .string ⟨s.toArray⟩] w fun e w' => Got fs s e ∧ Below w.heap.size w w' := by
  have HL := Lib.hid h.len
  have HC := Lib.hid (Count_any h hn s)
  obtain ⟨C, hC⟩ : ∃ C, cntF fs s = C := ⟨_, rfl⟩
  rw [hC] at HC
  have hcs : C = 0 ∨ C = 1 ∨ (C ≠ 0 ∧ C ≠ 1) := by omega
  rcases hcs with rfl | rfl | ⟨h0, h1⟩
  · have HG := Lib.hid (get_none hC)
    clear hC
    go_enter Tryz.func58, Tryz.ntmps58
    go_wp2_with fail
    refine HC.out.mono ?_
    rintro e w1 ⟨rfl, hb1⟩
    go_wp2_with fail
    go_ret2
    unfold Got
    rw [HG.out]
    exact ⟨rfl, hb1⟩
  · have HCC := Lib.hid hC
    clear hC
    go_enter Tryz.func58, Tryz.ntmps58
    go_wp2_with fail
    refine HC.out.mono ?_
    rintro e w1 ⟨rfl, hb1⟩
    go_wp2_with fail
    go_loopw [17] (fun i wr => ∃ k : Nat, k ≤ n ∧ i = .int .i64 k ∧ Below w.heap.size w wr ∧ Hid (∀ (j : Nat) g, j < k → fs[j]? = some g → isF s g = false)) (fun i _ => n - (intOf i).toNat)
    case atStart => exact ⟨0, by omega, rfl, hb1, (show ∀ (j : Nat) g, j < 0 → _ from fun j g h => absurd h (by omega))⟩
    case round =>
      obtain ⟨k, hk, rfl, hb, hH⟩ := hrel
      by_cases hkn : k < n
      · have hx : fs[k]? = some (fs[k]'(by rw [HL.out]; exact hkn)) := List.getElem?_eq_getElem _
        generalize fs[k]'(by rw [HL.out]; exact hkn) = f at hx
        have hr := h.below hb
        have hidx := fun W => h.idx hkn W
        have HLD := Lib.hid (hr.load hx)
        have hk' : (k : Int) < n := by omega
        obtain ⟨f1, f2⟩ := f
        dsimp only at HLD
        by_cases he : f1 = s
        · have he' : (f1 == s) = true := by simpa using he
          have HG := Lib.hid (get_one HCC.out hH.out hx he')
          clear he hx hkn hr
          go_wp2_with (first
            | (refine wpList_load_run rfl _ _ rfl _ rfl _ HLD.out ?_)
            | (refine wpList_alloc_zero rfl _ rfl (fdA [] []) zero_fd ?_; intro w4 hg4 hb4 hz4; clear hz4)
            | (refine wpList_store_all rfl _ _ _ rfl wr.heap.size rfl _ _ _ rfl hg4 (size_fd _ _) rfl (fd_one _ _) ?_; intro w5 hg5 hgr5 hz5; clear hz5; have hb5 : Below wr.heap.size wr w5 := hb4.grown hgr5 hb4.size (fun g hg => (by obtain rfl := Option.some.inj hg; exact Nat.le_refl _)); have hc0 : w5.cell? ⟨wr.heap.size, 0, none⟩ = some (.string ⟨f1.toArray⟩) := cell_fd hg5 rfl; have hc1 : w5.cell? ⟨wr.heap.size, 1, none⟩ = some (.string ⟨f2.toArray⟩) := cell_fd hg5 rfl))
          go_ret2
          unfold Got
          rw [HG.out]
          exact ⟨rfl, hb.trans (hb5.mono hb.size)⟩
        · have he' : (f1 == s) = false := by simpa using he
          have HN : Hid (∀ (j : Nat) g, j < k + 1 → fs[j]? = some g → isF s g = false) := fun j g hj hg => by
            by_cases hjk : j < k
            · exact hH.out j g hjk hg
            · obtain rfl : j = k := by omega
              rw [hx] at hg
              obtain rfl := Option.some.inj hg
              exact he'
          clear he hx hkn hr hH
          go_wp2_with (first
            | (refine wpList_load_run rfl _ _ rfl _ rfl _ HLD.out ?_)
            | (refine wpList_alloc_zero rfl _ rfl (fdA [] []) zero_fd ?_; intro w4 hg4 hb4 hz4; clear hz4)
            | (refine wpList_store_all rfl _ _ _ rfl wr.heap.size rfl _ _ _ rfl hg4 (size_fd _ _) rfl (fd_one _ _) ?_; intro w5 hg5 hgr5 hz5; clear hz5; have hb5 : Below wr.heap.size wr w5 := hb4.grown hgr5 hb4.size (fun g hg => (by obtain rfl := Option.some.inj hg; exact Nat.le_refl _)); have hc0 : w5.cell? ⟨wr.heap.size, 0, none⟩ = some (.string ⟨f1.toArray⟩) := cell_fd hg5 rfl))
          go_roundw
          case rel => exact ⟨k + 1, by omega, by go_num, hb.trans (hb5.mono hb.size), HN⟩
          case measure => simp [intOf]; omega
      · obtain rfl : k = n := by omega
        have : cntF fs s = 0 := cnt_none fun j g hg => hH.out j g (by rw [← HL.out]; exact (List.getElem?_eq_some_iff.1 hg).1) hg
        have := HCC.out
        omega
  · have HG := Lib.hid (get_many (fs := fs) (s := s) (by omega) (by omega))
    have h0' : ((C : Int) == 0) = false := by simp; omega
    have h1' : ((C : Int) == 1) = false := by simp; omega
    clear hC h0 h1
    go_enter Tryz.func58, Tryz.ntmps58
    go_wp2_with fail
    refine HC.out.mono ?_
    rintro e w1 ⟨rfl, hb1⟩
    go_wp2_with fail
    go_ret2
    unfold Got
    rw [HG.out]
    exact ⟨rfl, hb1⟩

set_option maxRecDepth 20000 in
set_option maxHeartbeats 4000000 in
theorem RGet_any {w : World} {A : Option Addr} {n c : Nat} {fs : List Fd} (h : Fds w A n c fs) (hn : n ≤ 1000) (s : List UInt8) :
    Calls Tryz.prog 42 #[.slice A n c, .string ⟨s.toArray⟩] w fun e w' => Got fs s e ∧ Below w.heap.size w w' := by
  have HL := Lib.hid h.len
  have HC := Lib.hid (RCount_any h hn s)
  obtain ⟨C, hC⟩ : ∃ C, cntF fs s = C := ⟨_, rfl⟩
  rw [hC] at HC
  have hcs : C = 0 ∨ C = 1 ∨ (C ≠ 0 ∧ C ≠ 1) := by omega
  rcases hcs with rfl | rfl | ⟨h0, h1⟩
  · have HG := Lib.hid (get_none hC)
    clear hC
    go_enter Tryz.func42, Tryz.ntmps42
    go_wp2_with fail
    refine HC.out.mono ?_
    rintro e w1 ⟨rfl, rfl⟩
    have hb1 := Below.refl w.heap.size w
    go_wp2_with fail
    go_ret2
    unfold Got
    rw [HG.out]
    exact ⟨rfl, hb1⟩
  · have HCC := Lib.hid hC
    clear hC
    go_enter Tryz.func42, Tryz.ntmps42
    go_wp2_with fail
    refine HC.out.mono ?_
    rintro e w1 ⟨rfl, rfl⟩
    have hb1 := Below.refl w.heap.size w
    go_wp2_with fail
    go_loopw [6] (fun i wr => ∃ k : Nat, k ≤ n ∧ i = .int .i64 k ∧ Below w.heap.size w wr ∧ Hid (∀ (j : Nat) g, j < k → fs[j]? = some g → isF s g = false)) (fun i _ => n - (intOf i).toNat)
    case atStart => exact ⟨0, by omega, rfl, hb1, (show ∀ (j : Nat) g, j < 0 → _ from fun j g h => absurd h (by omega))⟩
    case round =>
      obtain ⟨k, hk, rfl, hb, hH⟩ := hrel
      by_cases hkn : k < n
      · have hx : fs[k]? = some (fs[k]'(by rw [HL.out]; exact hkn)) := List.getElem?_eq_getElem _
        generalize fs[k]'(by rw [HL.out]; exact hkn) = f at hx
        have hr := h.below hb
        have hidx := fun W => h.idx hkn W
        have hc0 := hr.name hx
        have hc1 := hr.value hx
        have hk' : (k : Int) < n := by omega
        obtain ⟨f1, f2⟩ := f
        unfold strV at hc0 hc1
        have hc1' : wr.cell? ⟨(at_ A (k * 2)).block, (at_ A (k * 2)).off + 1, none⟩ = some (.string ⟨f2.toArray⟩) := by rw [show (⟨(at_ A (k * 2)).block, (at_ A (k * 2)).off + 1, none⟩ : Addr) = (at_ A (k * 2)).add 1 from rfl, at_add2]; exact hc1
        by_cases he : f1 = s
        · have he' : (f1 == s) = true := by simpa using he
          have HG := Lib.hid (get_one HCC.out hH.out hx he')
          clear he hx hkn hr
          go_wp2_with fail
          go_ret2
          unfold Got
          rw [HG.out]
          exact ⟨rfl, hb⟩
        · have he' : (f1 == s) = false := by simpa using he
          have HN : Hid (∀ (j : Nat) g, j < k + 1 → fs[j]? = some g → isF s g = false) := fun j g hj hg => by
            by_cases hjk : j < k
            · exact hH.out j g hjk hg
            · obtain rfl : j = k := by omega
              rw [hx] at hg
              obtain rfl := Option.some.inj hg
              exact he'
          clear he hx hkn hr hH
          go_wp2_with fail
          go_roundw
          case rel => exact ⟨k + 1, by omega, by go_num, hb, HN⟩
          case measure => simp [intOf]; omega
      · obtain rfl : k = n := by omega
        have : cntF fs s = 0 := cnt_none fun j g hg => hH.out j g (by rw [← HL.out]; exact (List.getElem?_eq_some_iff.1 hg).1) hg
        have := HCC.out
        omega
  · have HG := Lib.hid (get_many (fs := fs) (s := s) (by omega) (by omega))
    have h0' : ((C : Int) == 0) = false := by simp; omega
    have h1' : ((C : Int) == 1) = false := by simp; omega
    clear hC h0 h1
    go_enter Tryz.func42, Tryz.ntmps42
    go_wp2_with fail
    refine HC.out.mono ?_
    rintro e w1 ⟨rfl, rfl⟩
    have hb1 := Below.refl w.heap.size w
    go_wp2_with fail
    go_ret2
    unfold Got
    rw [HG.out]
    exact ⟨rfl, hb1⟩

end Go.Proofs.YtckkmdigmecagaaGreatDoor.Fl

/-
  Plain: what a wire does with bytes, byte by byte.
-/
namespace Go.Proofs.YtckkmdigmecagaaGreatDoor
open Go.RowKit

abbrev Bs := List UInt8
/-- A wire's plain state: what comes next, the line so far, the request so far, its body. -/
structure WSt where
  nx : Nat
  ln : Bs
  m : Bs
  t : Bs
  fs : List Fl.Fd
  kp : Bool
  bo : Option St
/-- A request that is whole. -/
structure Rqp where
  m : Bs
  t : Bs
  fs : List Fl.Fd
  bd : Bs
  kp : Bool
def verW : Bs := [72, 84, 84, 80, 47, 49, 46, 49]
def upB (x : UInt8) : Bool := decide (65 ≤ x.toNat) && decide (x.toNat ≤ 90)
def viB (x : UInt8) : Bool := decide (33 ≤ x.toNat) && decide (x.toNat ≤ 126)
def FirstP (s : Bs) : Prop := (cut1 32 s).2.2 = true ∧ (cut1 32 (cut1 32 s).2.1).2.2 = true ∧ (cut1 32 (cut1 32 s).2.1).2.1 = verW ∧ 1 ≤ (cut1 32 s).1.length ∧ (cut1 32 s).1.length ≤ 10 ∧ (cut1 32 (cut1 32 s).2.1).1 ≠ [] ∧ (cut1 32 s).1.all upB = true ∧ (cut1 32 (cut1 32 s).2.1).1.all viB = true
instance (s : Bs) : Decidable (FirstP s) := by unfold FirstP; infer_instance
/-- A request's line: its method, its target. -/
def firstF (s : Bs) : Option (Bs × Bs) := if FirstP s then some ((cut1 32 s).1, (cut1 32 (cut1 32 s).2.1).1) else none
def dgB (x : UInt8) : Bool := decide (48 ≤ x.toNat) && decide (x.toNat ≤ 57)
def valF : Bs → Nat → Nat
  | [], v => v
  | x :: l, v => valF l (10 * v + (x.toNat - 48))
def lenF (s : Bs) : Option Nat := if 1 ≤ s.length ∧ s.length ≤ 18 ∧ s.all dgB = true then some (valF s 0) else none
def teW : Bs := [116, 114, 97, 110, 115, 102, 101, 114, 45, 101, 110, 99, 111, 100, 105, 110, 103]
def clW : Bs := [99, 111, 110, 116, 101, 110, 116, 45, 108, 101, 110, 103, 116, 104]
def hoW : Bs := [104, 111, 115, 116]
def coW : Bs := [99, 111, 110, 110, 101, 99, 116, 105, 111, 110]
def closeW : Bs := [99, 108, 111, 115, 101]
def chuW : Bs := [99, 104, 117, 110, 107, 101, 100]
/-- Does a field connection say close? -/
def closesF (fs : List Fl.Fd) : Bool := fs.any fun f => f.1 == coW && (Fl.wordsF (split1 44 f.2)).contains closeW
/-- How many bytes the body has, if it is sized and the number may be. -/
def sizeF (fs : List Fl.Fd) : Option Nat := if (Fl.getF fs clW).2 = 0 then lenF (Fl.getF fs clW).1 else some 0
/-- A head that is whole: the error's number, or the body that comes. -/
def emptyF (fs : List Fl.Fd) : Int × Option St :=
  if Fl.cntF fs hoW ≠ 1 ∨ (Fl.getF fs teW).2 = 6 ∨ (Fl.getF fs clW).2 = 6 ∨ ((Fl.getF fs teW).2 = 0 ∧ (Fl.getF fs clW).2 = 0) ∨ sizeF fs = none then (4, none)
  else if (Fl.getF fs teW).2 = 0 ∧ Fl.smallL (Fl.getF fs teW).1 ≠ chuW then (4, none)
  else if 4096 < (sizeF fs).getD 0 then (9, none)
  else (0, some (if (Fl.getF fs teW).2 = 0 then st0 else stN ((sizeF fs).getD 0)))
/-- A line's text, if it ends as it must. -/
def textF (b : Bs) : Option Bs := if b.drop (b.length - 2) = [13, 10] then some (b.take (b.length - 2)) else none
/-- A line is looked at: the error's number, the state. -/
def judgeF (w : WSt) (b : Bs) : Int × WSt :=
  match textF b with
  | none => (4, w)
  | some s =>
    if w.nx = 1 then (match firstF s with
      | none => (4, w)
      | some (m, t) => (0, { w with m := m, t := t, fs := [], kp := true, nx := 2 }))
    else if s = [] then (match emptyF w.fs with
      | (0, some st) => (0, { w with kp := w.kp && !closesF w.fs, bo := some st, nx := 3 })
      | (e, _) => (e, w))
    else if w.fs.length = 32 then (2, w)
    else ((Fl.lineR s).2.2, { w with fs := w.fs ++ [((Fl.lineR s).1, (Fl.lineR s).2.1)] })
def lineF (w : WSt) (c : UInt8) : Int × WSt :=
  if c = 10 then ((judgeF w (w.ln ++ [c])).1, { (judgeF w (w.ln ++ [c])).2 with ln := [] })
  else if w.ln.length + 1 = 1024 then (2, w)
  else (0, { w with ln := w.ln ++ [c] })
/-- A body's error, as the wire tells it. -/
def errF (e : Int) : Int := if e = 2 then 9 else e
def bodyF (w : WSt) (st : St) (c : UInt8) : Int × WSt := (errF (takeP st c).2, { w with bo := some { (takeP st c).1 with bd := (takeP st c).2 } })
/-- The request, if it is whole. -/
def wholeF (w : WSt) : Option Rqp × WSt :=
  match w.bo with
  | some st => if w.nx = 3 ∧ st.nx = 9 then (some ⟨w.m, w.t, w.fs, st.got, w.kp⟩, ⟨if w.kp then 1 else 4, w.ln, [], [], [], false, none⟩) else (none, w)
  | none => (none, w)
def oneF (w : WSt) (c : UInt8) : Int × WSt := match w.bo with
  | some st => if w.nx = 3 then bodyF w st c else lineF w c
  | none => lineF w c
/-- What a wire is behind an error. -/
def badW : WSt := ⟨5, [], [], [], [], false, none⟩
/-- Bytes are fed: the requests, the state, the error's number. -/
def feedW : WSt → Bs → List Rqp × WSt × Int
  | w, [] => ([], w, 0)
  | w, c :: l => if w.nx = 4 then ([], w, 0) else if (oneF w c).1 ≠ 0 then ([], badW, (oneF w c).1)
    else ((wholeF (oneF w c).2).1.toList ++ (feedW (wholeF (oneF w c).2).2 l).1, (feedW (wholeF (oneF w c).2).2 l).2)
def newW : WSt := ⟨1, [], [], [], [], false, none⟩
/-- What a wire may be. -/
structure WOk (w : WSt) : Prop where
  nx1 : 1 ≤ w.nx
  nx5 : w.nx ≤ 5
  ln : w.ln.length ≤ 1023
  fs : w.fs.length ≤ 32
  fz : ∀ f ∈ w.fs, f.1.length ≤ 1024 ∧ f.2.length ≤ 1024 ∧ ∀ x ∈ f.2, x.toNat < 128
  b3 : w.nx = 3 ↔ w.bo.isSome = true
  bo : ∀ st, w.bo = some st → Ok st ∧ st.bd = 0 ∧ st.nx ≠ 9
  l3 : w.nx = 3 → w.ln = []
theorem feed_done {w : WSt} (h : w.nx = 4) (l : Bs) : feedW w l = ([], w, 0) := by
  cases l with
  | nil => rfl
  | cons c l =>
    rw [feedW, if_pos h]
theorem feed_app : ∀ (a b : Bs) (w : WSt), (feedW w a).2.2 = 0 → feedW w (a ++ b) = ((feedW w a).1 ++ (feedW (feedW w a).2.1 b).1, (feedW (feedW w a).2.1 b).2)
  | [], b, w, _ => by simp [feedW]
  | c :: a, b, w, h => by
    by_cases h4 : w.nx = 4
    · rw [feed_done h4, feed_done h4]
      simp [feed_done h4]
    · rw [List.cons_append, feedW, if_neg h4, feedW, if_neg h4]
      rw [feedW, if_neg h4] at h
      by_cases he : (oneF w c).1 ≠ 0
      · rw [if_pos he] at h
        exact absurd h he
      · rw [if_neg he] at h ⊢
        rw [if_neg he]
        have ih := feed_app a b (wholeF (oneF w c).2).2 h
        rw [ih]
        simp
theorem feed_bad : ∀ (a b : Bs) (w : WSt), (feedW w a).2.2 ≠ 0 → feedW w (a ++ b) = feedW w a
  | [], b, w, h => absurd rfl h
  | c :: a, b, w, h => by
    by_cases h4 : w.nx = 4
    · rw [feed_done h4, feed_done h4]
    · rw [List.cons_append, feedW, if_neg h4, feedW, if_neg h4]
      rw [feedW, if_neg h4] at h
      by_cases he : (oneF w c).1 ≠ 0
      · rw [if_pos he, if_pos he]
      · rw [if_neg he] at h
        rw [if_neg he, if_neg he, feed_bad a b _ h]

end Go.Proofs.YtckkmdigmecagaaGreatDoor

/-
  Package wire: a request's line.
-/
namespace Go.Proofs.YtckkmdigmecagaaGreatDoor
open Go.RowKit

/-- A request's cells. -/
def reqA (m t : Bs) (A : Option Addr) (n c : Nat) (B : Option Addr) (k d : Nat) (kp : Bool) : Array Value := #[.string ⟨m.toArray⟩, .string ⟨t.toArray⟩, .slice A n c, .slice B k d, .bool kp]
def reqZ : Array Value := reqA [] [] none 0 0 none 0 0 false
theorem zero_req : (Tryz.prog.info? 42).map (·.zero) = some (some (.agg reqZ)) := by kernel_rfl
theorem size_req0 : (Tryz.prog.info? 42).map (·.size) = some 5 := by kernel_rfl
section
variable {m t : Bs} {A B : Option Addr} {n c k d : Nat} {kp : Bool}
theorem size_req : (Tryz.prog.info? 42).map (·.size) = some (reqA m t A n c B k d kp).size := size_req0
theorem req_one : ∀ v ∈ (reqA m t A n c B k d kp).toList, v.oneCell' = true := by
  intro v hv
  simp only [reqA, List.mem_cons, List.not_mem_nil, or_false] at hv
  rcases hv with rfl | rfl | rfl | rfl | rfl <;> rfl
theorem cell_req {w : World} {g : Nat} {ty : TypeId} {fr : Nat × Nat} (h : w.heap[g]? = some (.cells (reqA m t A n c B k d kp) ty fr)) : w.cell? ⟨g, 0, none⟩ = some (.string ⟨m.toArray⟩) ∧ w.cell? ⟨g, 1, none⟩ = some (.string ⟨t.toArray⟩) ∧ w.cell? ⟨g, 2, none⟩ = some (.slice A n c) ∧ w.cell? ⟨g, 3, none⟩ = some (.slice B k d) ∧ w.cell? ⟨g, 4, none⟩ = some (.bool kp) := by
  refine ⟨?_, ?_, ?_, ?_, ?_⟩ <;> simp [World.cell?, h, reqA]
end
theorem build_req0 (W : World) : (Instr.build 42 #[]).run Tryz.prog W = .ok (.agg reqZ) W := by kernel_rfl
theorem emp_ne {l : Bs} (h : l ≠ []) : l.isEmpty = false := by
  cases l with
  | nil => exact absurd rfl h
  | cons x l => rfl
theorem all_ne {p : UInt8 → Bool} {l : Bs} {k : Nat} {x : UInt8} (h : l[k]? = some x) (hx : p x = false) : l.all p ≠ true := by
  intro ha
  have := List.all_eq_true.1 ha x (List.mem_of_getElem? h)
  rw [hx] at this
  cases this
theorem all_yes {p : UInt8 → Bool} {l : Bs} (h : ∀ (k : Nat) x, l[k]? = some x → p x = true) : l.all p = true := by
  rw [List.all_eq_true]
  intro x hx
  obtain ⟨k, hk⟩ := List.mem_iff_getElem?.1 hx
  exact h k x hk
/-- What comes of a request's line. -/
def Firsted (s : Bs) (w : World) (e : Ending) (w' : World) : Prop :=
  Below w.heap.size w w' ∧ ((firstF s = none ∧ e = .returned (.tuple #[.agg reqZ, .bool false])) ∨ ∃ m t, firstF s = some (m, t) ∧ e = .returned (.tuple #[.agg (reqA m t none 0 0 none 0 0 true), .bool true]))
theorem up_case (x : UInt8) : ((x.toNat : Int) < 65 ∧ upB x = false) ∨ (65 ≤ (x.toNat : Int) ∧ 90 < (x.toNat : Int) ∧ upB x = false) ∨ (65 ≤ (x.toNat : Int) ∧ (x.toNat : Int) ≤ 90 ∧ upB x = true) := by
  unfold upB
  by_cases h1 : (x.toNat : Int) < 65
  · exact .inl ⟨h1, by simp; omega⟩
  · by_cases h2 : 90 < (x.toNat : Int)
    · exact .inr (.inl ⟨by omega, h2, by simp; omega⟩)
    · exact .inr (.inr ⟨by omega, by omega, by simp; omega⟩)
theorem vi_case (x : UInt8) : ((x.toNat : Int) < 33 ∧ viB x = false) ∨ (33 ≤ (x.toNat : Int) ∧ 126 < (x.toNat : Int) ∧ viB x = false) ∨ (33 ≤ (x.toNat : Int) ∧ (x.toNat : Int) ≤ 126 ∧ viB x = true) := by
  unfold viB
  by_cases h1 : (x.toNat : Int) < 33
  · exact .inl ⟨h1, by simp; omega⟩
  · by_cases h2 : 126 < (x.toNat : Int)
    · exact .inr (.inl ⟨by omega, h2, by simp; omega⟩)
    · exact .inr (.inr ⟨by omega, by omega, by simp; omega⟩)

set_option maxRecDepth 20000 in
set_option maxHeartbeats 8000000 in
theorem first_any (s : Bs) (hs : s.length ≤ 1048576) (w : World) (hm : Mx w) : Calls Tryz.prog 50 #[.string ⟨s.toArray⟩] w (Firsted s w) := by
  obtain ⟨l1, l2⟩ := cut1_le 32 s
  have hff : firstF s = if FirstP s then some ((cut1 32 s).1, (cut1 32 (cut1 32 s).2.1).1) else none := rfl
  have hfp : FirstP s ↔ ((cut1 32 s).2.2 = true ∧ (cut1 32 (cut1 32 s).2.1).2.2 = true ∧ (cut1 32 (cut1 32 s).2.1).2.1 = verW ∧ 1 ≤ (cut1 32 s).1.length ∧ (cut1 32 s).1.length ≤ 10 ∧ (cut1 32 (cut1 32 s).2.1).1 ≠ [] ∧ (cut1 32 s).1.all upB = true ∧ (cut1 32 (cut1 32 s).2.1).1.all viB = true) := Iff.rfl
  have HC1 := Lib.hid (fun W (hb : Below w.heap.size w W) => Cut_any 32 s (by omega) W (hm.below hb))
  obtain ⟨⟨a, r, f⟩, hX⟩ : ∃ X, cut1 32 s = X := ⟨_, rfl⟩
  rw [hX] at HC1 hff hfp l1 l2
  dsimp only at HC1 hff hfp l1 l2
  obtain ⟨l3, l4⟩ := cut1_le 32 r
  have HC2 := Lib.hid (fun W (hb : Below w.heap.size w W) => Cut_any 32 r (by omega) W (hm.below hb))
  obtain ⟨⟨b, v, g⟩, hY⟩ : ∃ Y, cut1 32 r = Y := ⟨_, rfl⟩
  rw [hY] at HC2 hff hfp l3 l4
  dsimp only at HC2 hff hfp l3 l4
  have hno : ∀ w0 wz : World, Below w.heap.size w wz → firstF s = none → Firsted s w (.returned (.tuple #[.agg reqZ, .bool false])) wz := fun w0 wz hb h => ⟨hb, .inl ⟨h, rfl⟩⟩
  have HNO := Lib.hid (fun h : ¬ FirstP s => hff.trans (if_neg h))
  have HYS := Lib.hid (fun h : FirstP s => hff.trans (if_pos h))
  have HFP := Lib.hid hfp
  have hsa := size_mk a
  have hsb := size_mk b
  clear hX hY hff hfp hm hno
  go_enter Tryz.func50, Tryz.ntmps50
  go_wp2_with (refine wpList_alloc_zero rfl _ rfl reqZ zero_req ?_; intro w1 hg1 hb1 hz1; clear hz1)
  refine (HC1.out _ hb1).mono ?_
  rintro e w2 ⟨rfl, hb2⟩
  have hB2 := hb1.trans (hb2.mono hb1.size)
  have hlt1 : w.heap.size < w1.heap.size := (Array.getElem?_eq_some_iff.1 hg1).1
  have hG2 := (hb2.block _ hlt1).trans hg1
  have hlt2 : w.heap.size < w2.heap.size := Nat.lt_of_lt_of_le hlt1 hb2.size
  clear hg1 hb1 hb2
  go_wp2_with fail
  refine (HC2.out _ hB2).mono ?_
  rintro e w3 ⟨rfl, hb3⟩
  have hB3 := hB2.trans (hb3.mono hB2.size)
  have hG3 := (hb3.block _ hlt2).trans hG2
  clear hG2 hb3 hB2
  have hbad : firstF s = none → ∀ wz : World, w3.grownBy wz (some w.heap.size) → Firsted s w (.returned (.tuple #[.agg reqZ, .bool false])) wz := fun h wz hg => ⟨hB3.grown hg hB3.size (fun q hq => by obtain rfl := Option.some.inj hq; exact Nat.le_refl _), .inl ⟨h, rfl⟩⟩
  have HBAD := Lib.hid hbad
  clear hbad
  cases f
  · have HE := Lib.hid (HNO.out fun h => by have := (HFP.out.1 h).1; cases this)
    go_wp2_with (first
      | (refine wpList_build_run rfl _ _ rfl #[] (by rfl) _ (build_req0 _) ?_)
      | (refine wpList_store_all rfl _ _ _ rfl w.heap.size rfl _ reqZ reqZ rfl hG3 size_req rfl req_one ?_; intro wz hgz hgrz hzz; clear hzz))
    refine bodyPost_ret (results_cell_tmp rfl _ _ w.heap.size _ _ _ _ rfl hgz Tryz.underlying42 rfl size_req _ rfl) rfl ?_
    exact HBAD.out HE.out wz hgrz
  cases g
  · have HE := Lib.hid (HNO.out fun h => by have := (HFP.out.1 h).2.1; cases this)
    go_wp2_with (first
      | (refine wpList_build_run rfl _ _ rfl #[] (by rfl) _ (build_req0 _) ?_)
      | (refine wpList_store_all rfl _ _ _ rfl w.heap.size rfl _ reqZ reqZ rfl hG3 size_req rfl req_one ?_; intro wz hgz hgrz hzz; clear hzz))
    refine bodyPost_ret (results_cell_tmp rfl _ _ w.heap.size _ _ _ _ rfl hgz Tryz.underlying42 rfl size_req _ rfl) rfl ?_
    exact HBAD.out HE.out wz hgrz
  by_cases hv : v = verW
  · subst hv
    by_cases ha1 : (a.length : Int) < 1
    · have HE := Lib.hid (HNO.out fun h => by have := (HFP.out.1 h).2.2.2.1; omega)
      have d1 : decide ((a.length : Int) < 1) = true := decide_eq_true ha1
      clear ha1
      unfold verW
      go_wp2_with (first
        | (refine wpList_build_run rfl _ _ rfl #[] (by rfl) _ (build_req0 _) ?_)
        | (refine wpList_store_all rfl _ _ _ rfl w.heap.size rfl _ reqZ reqZ rfl hG3 size_req rfl req_one ?_; intro wz hgz hgrz hzz; clear hzz))
      refine bodyPost_ret (results_cell_tmp rfl _ _ w.heap.size _ _ _ _ rfl hgz Tryz.underlying42 rfl size_req _ rfl) rfl ?_
      exact HBAD.out HE.out wz hgrz
    have d1 : decide ((a.length : Int) < 1) = false := decide_eq_false ha1
    by_cases ha2 : (10 : Int) < a.length
    · have HE := Lib.hid (HNO.out fun h => by have := (HFP.out.1 h).2.2.2.2.1; omega)
      have d2 : decide ((10 : Int) < a.length) = true := decide_eq_true ha2
      clear ha1 ha2
      unfold verW
      go_wp2_with (first
        | (refine wpList_build_run rfl _ _ rfl #[] (by rfl) _ (build_req0 _) ?_)
        | (refine wpList_store_all rfl _ _ _ rfl w.heap.size rfl _ reqZ reqZ rfl hG3 size_req rfl req_one ?_; intro wz hgz hgrz hzz; clear hzz))
      refine bodyPost_ret (results_cell_tmp rfl _ _ w.heap.size _ _ _ _ rfl hgz Tryz.underlying42 rfl size_req _ rfl) rfl ?_
      exact HBAD.out HE.out wz hgrz
    have d2 : decide ((10 : Int) < a.length) = false := decide_eq_false ha2
    have hal : 1 ≤ a.length ∧ a.length ≤ 10 := by omega
    have HAL := Lib.hid hal
    clear hal
    by_cases hb0 : b = []
    · subst hb0
      have HE := Lib.hid (HNO.out fun h => (HFP.out.1 h).2.2.2.2.2.1 rfl)
      clear ha1 ha2
      unfold verW
      go_wp2_with (first
        | (refine wpList_build_run rfl _ _ rfl #[] (by rfl) _ (build_req0 _) ?_)
        | (refine wpList_store_all rfl _ _ _ rfl w.heap.size rfl _ reqZ reqZ rfl hG3 size_req rfl req_one ?_; intro wz hgz hgrz hzz; clear hzz))
      refine bodyPost_ret (results_cell_tmp rfl _ _ w.heap.size _ _ _ _ rfl hgz Tryz.underlying42 rfl size_req _ rfl) rfl ?_
      exact HBAD.out HE.out wz hgrz
    have hbe := emp_ne hb0
    have HB0 := Lib.hid hb0
    clear hb0 ha1 ha2
    unfold verW
    go_wp2_with fail
    clear d1 d2 hbe
    go_loopw [51] (fun i wr => ∃ k : Nat, k ≤ a.length ∧ i = .int .i64 k ∧ w3 = wr ∧ Hid (∀ (j : Nat) x, j < k → a[j]? = some x → upB x = true)) (fun i _ => a.length - (intOf i).toNat)
    case atStart => exact ⟨0, by omega, rfl, rfl, (show ∀ (j : Nat) x, j < 0 → _ from fun j x h => absurd h (by omega))⟩
    case round =>
      obtain ⟨k, hk, rfl, rfl, hH⟩ := hrel
      by_cases hka : k < a.length
      · have hx : a[k]? = some (a[k]'hka) := List.getElem?_eq_getElem hka
        generalize a[k]'hka = x at hx
        have hi : ∀ W, (Instr.index 9 (.string ⟨a.toArray⟩) (.int .i64 (k : Int))).run Tryz.prog W = .ok (.int .u8 (x.toNat : Int)) W := fun W => run_str_at (P := Tryz.prog) Tryz.underlying9 a k x hx (kl := .i64) W
        have hk' : (k : Int) < a.length := by omega
        have hxb : (x.toNat : Int) ≤ 255 := by have := x.toNat_lt; omega
        have HX := Lib.hid hx
        rcases up_case x with ⟨c1, hu⟩ | ⟨c1, c2, hu⟩ | ⟨c1, c2, hu⟩
        · have HE := Lib.hid (HNO.out fun h => all_ne HX.out hu (HFP.out.1 h).2.2.2.2.2.2.1)
          have e1 : decide ((x.toNat : Int) < 65) = true := decide_eq_true c1
          clear hx hka hH c1 hu
          go_wp2_with (first
            | (refine wpList_build_run rfl _ _ rfl #[] (by rfl) _ (build_req0 _) ?_)
            | (refine wpList_store_all rfl _ _ _ rfl w.heap.size rfl _ reqZ reqZ rfl hG3 size_req rfl req_one ?_; intro wz hgz hgrz hzz; clear hzz))
          refine bodyPost_ret (results_cell_tmp rfl _ _ w.heap.size _ _ _ _ rfl hgz Tryz.underlying42 rfl size_req _ rfl) rfl ?_
          exact HBAD.out HE.out wz hgrz
        · have HE := Lib.hid (HNO.out fun h => all_ne HX.out hu (HFP.out.1 h).2.2.2.2.2.2.1)
          have e1 : decide ((x.toNat : Int) < 65) = false := decide_eq_false (by omega)
          have e2 : decide (90 < (x.toNat : Int)) = true := decide_eq_true c2
          clear hx hka hH c1 c2 hu
          go_wp2_with (first
            | (refine wpList_build_run rfl _ _ rfl #[] (by rfl) _ (build_req0 _) ?_)
            | (refine wpList_store_all rfl _ _ _ rfl w.heap.size rfl _ reqZ reqZ rfl hG3 size_req rfl req_one ?_; intro wz hgz hgrz hzz; clear hzz))
          refine bodyPost_ret (results_cell_tmp rfl _ _ w.heap.size _ _ _ _ rfl hgz Tryz.underlying42 rfl size_req _ rfl) rfl ?_
          exact HBAD.out HE.out wz hgrz
        · have e1 : decide ((x.toNat : Int) < 65) = false := decide_eq_false (by omega)
          have e2 : decide (90 < (x.toNat : Int)) = false := decide_eq_false (by omega)
          have HN : Hid (∀ (j : Nat) y, j < k + 1 → a[j]? = some y → upB y = true) := fun j y hj hy => by
            by_cases hjk : j < k
            · exact hH.out j y hjk hy
            · obtain rfl : j = k := by omega
              rw [hx] at hy
              rw [← Option.some.inj hy]
              exact hu
          clear hx hka hH c1 c2 hu
          go_wp2_with fail
          go_roundw
          case rel => exact ⟨k + 1, by omega, by go_num, by trivial, HN⟩
          case measure => simp [intOf]; omega
      · obtain rfl : k = a.length := by omega
        have hup := all_yes fun k x h => hH.out k x (List.getElem?_eq_some_iff.1 h).1 h
        have HUP := Lib.hid hup
        clear hka hH hup
        go_wp2_with fail
        go_loopw [68] (fun i wr => ∃ k : Nat, k ≤ b.length ∧ i = .int .i64 k ∧ w3 = wr ∧ Hid (∀ (j : Nat) x, j < k → b[j]? = some x → viB x = true)) (fun i _ => b.length - (intOf i).toNat)
        case atStart => exact ⟨0, by omega, rfl, rfl, (show ∀ (j : Nat) x, j < 0 → _ from fun j x h => absurd h (by omega))⟩
        case round =>
          obtain ⟨k, hk, rfl, rfl, hH⟩ := hrel
          by_cases hka : k < b.length
          · have hx : b[k]? = some (b[k]'hka) := List.getElem?_eq_getElem hka
            generalize b[k]'hka = x at hx
            have hi : ∀ W, (Instr.index 9 (.string ⟨b.toArray⟩) (.int .i64 (k : Int))).run Tryz.prog W = .ok (.int .u8 (x.toNat : Int)) W := fun W => run_str_at (P := Tryz.prog) Tryz.underlying9 b k x hx (kl := .i64) W
            have hk' : (k : Int) < b.length := by omega
            have hxb : (x.toNat : Int) ≤ 255 := by have := x.toNat_lt; omega
            have HX := Lib.hid hx
            rcases vi_case x with ⟨c1, hu⟩ | ⟨c1, c2, hu⟩ | ⟨c1, c2, hu⟩
            · have HE := Lib.hid (HNO.out fun h => all_ne HX.out hu (HFP.out.1 h).2.2.2.2.2.2.2)
              have e1 : decide ((x.toNat : Int) < 33) = true := decide_eq_true c1
              clear hx hka hH c1 hu
              go_wp2_with (first
                | (refine wpList_build_run rfl _ _ rfl #[] (by rfl) _ (build_req0 _) ?_)
                | (refine wpList_store_all rfl _ _ _ rfl w.heap.size rfl _ reqZ reqZ rfl hG3 size_req rfl req_one ?_; intro wz hgz hgrz hzz; clear hzz))
              refine bodyPost_ret (results_cell_tmp rfl _ _ w.heap.size _ _ _ _ rfl hgz Tryz.underlying42 rfl size_req _ rfl) rfl ?_
              exact HBAD.out HE.out wz hgrz
            · have HE := Lib.hid (HNO.out fun h => all_ne HX.out hu (HFP.out.1 h).2.2.2.2.2.2.2)
              have e1 : decide ((x.toNat : Int) < 33) = false := decide_eq_false (by omega)
              have e2 : decide (126 < (x.toNat : Int)) = true := decide_eq_true c2
              clear hx hka hH c1 c2 hu
              go_wp2_with (first
                | (refine wpList_build_run rfl _ _ rfl #[] (by rfl) _ (build_req0 _) ?_)
                | (refine wpList_store_all rfl _ _ _ rfl w.heap.size rfl _ reqZ reqZ rfl hG3 size_req rfl req_one ?_; intro wz hgz hgrz hzz; clear hzz))
              refine bodyPost_ret (results_cell_tmp rfl _ _ w.heap.size _ _ _ _ rfl hgz Tryz.underlying42 rfl size_req _ rfl) rfl ?_
              exact HBAD.out HE.out wz hgrz
            · have e1 : decide ((x.toNat : Int) < 33) = false := decide_eq_false (by omega)
              have e2 : decide (126 < (x.toNat : Int)) = false := decide_eq_false (by omega)
              have HN : Hid (∀ (j : Nat) y, j < k + 1 → b[j]? = some y → viB y = true) := fun j y hj hy => by
                by_cases hjk : j < k
                · exact hH.out j y hjk hy
                · obtain rfl : j = k := by omega
                  rw [hx] at hy
                  rw [← Option.some.inj hy]
                  exact hu
              clear hx hka hH c1 c2 hu
              go_wp2_with fail
              go_roundw
              case rel => exact ⟨k + 1, by omega, by go_num, by trivial, HN⟩
              case measure => simp [intOf]; omega
          · obtain rfl : k = b.length := by omega
            have hvi := all_yes fun k x h => hH.out k x (List.getElem?_eq_some_iff.1 h).1 h
            have HE := Lib.hid (HYS.out (HFP.out.2 ⟨by trivial, by trivial, by trivial, HAL.out.1, HAL.out.2, HB0.out, HUP.out, hvi⟩))
            clear hka hH hvi
            go_wp2_with (refine wpList_store_all rfl _ _ _ rfl w.heap.size rfl _ reqZ (reqA a b none 0 0 none 0 0 true) rfl hG3 size_req rfl req_one ?_; intro wz hgz hgrz hzz; clear hzz)
            refine bodyPost_ret (results_cell_tmp rfl _ _ w.heap.size _ _ _ _ rfl hgz Tryz.underlying42 rfl size_req _ rfl) rfl ?_
            exact ⟨hB3.grown hgrz hB3.size (fun q hq => by obtain rfl := Option.some.inj hq; exact Nat.le_refl _), .inr ⟨a, b, HE.out, rfl⟩⟩
  · have d0 : (v == [72, 84, 84, 80, 47, 49, 46, 49]) = false := by simpa [verW] using hv
    have HE := Lib.hid (HNO.out fun h => hv (HFP.out.1 h).2.2.1)
    clear hv
    go_wp2_with (first
      | (refine wpList_build_run rfl _ _ rfl #[] (by rfl) _ (build_req0 _) ?_)
      | (refine wpList_store_all rfl _ _ _ rfl w.heap.size rfl _ reqZ reqZ rfl hG3 size_req rfl req_one ?_; intro wz hgz hgrz hzz; clear hzz))
    refine bodyPost_ret (results_cell_tmp rfl _ _ w.heap.size _ _ _ _ rfl hgz Tryz.underlying42 rfl size_req _ rfl) rfl ?_
    exact HBAD.out HE.out wz hgrz

end Go.Proofs.YtckkmdigmecagaaGreatDoor

/-
  Package wire: a content-length's number.
-/
namespace Go.Proofs.YtckkmdigmecagaaGreatDoor
open Go.RowKit

theorem dg_case (x : UInt8) : ((x.toNat : Int) < 48 ∧ dgB x = false) ∨ (48 ≤ (x.toNat : Int) ∧ 57 < (x.toNat : Int) ∧ dgB x = false) ∨ (48 ≤ (x.toNat : Int) ∧ (x.toNat : Int) ≤ 57 ∧ dgB x = true) := by
  unfold dgB
  by_cases h1 : (x.toNat : Int) < 48
  · exact .inl ⟨h1, by simp; omega⟩
  · by_cases h2 : 57 < (x.toNat : Int)
    · exact .inr (.inl ⟨by omega, h2, by simp; omega⟩)
    · exact .inr (.inr ⟨by omega, by omega, by simp; omega⟩)
theorem valF_snoc : ∀ (l : Bs) (x : UInt8) (v : Nat), valF (l ++ [x]) v = 10 * valF l v + (x.toNat - 48)
  | [], x, v => rfl
  | y :: l, x, v => valF_snoc l x _
theorem valF_take {s : Bs} {k : Nat} {x : UInt8} (hx : s[k]? = some x) : valF (s.take (k + 1)) 0 = 10 * valF (s.take k) 0 + (x.toNat - 48) := by
  obtain ⟨h1, e1⟩ := List.getElem?_eq_some_iff.1 hx
  rw [List.take_succ_eq_append_getElem h1, e1, valF_snoc]
theorem valF_lt : ∀ (l : Bs), (∀ x ∈ l, x.toNat ≤ 57) → ∀ v, valF l v < (v + 1) * 10 ^ l.length
  | [], _, v => by simp [valF]
  | x :: l, h, v => by
    have ih := valF_lt l (fun y hy => h y (List.mem_cons_of_mem _ hy)) (10 * v + (x.toNat - 48))
    have hx := h x (List.mem_cons_self ..)
    rw [valF, List.length_cons, Nat.pow_succ]
    have h2 : 10 * v + (x.toNat - 48) + 1 ≤ (v + 1) * 10 := by omega
    calc valF l (10 * v + (x.toNat - 48)) < (10 * v + (x.toNat - 48) + 1) * 10 ^ l.length := ih
      _ ≤ ((v + 1) * 10) * 10 ^ l.length := Nat.mul_le_mul_right _ h2
      _ = (v + 1) * (10 ^ l.length * 10) := by rw [Nat.mul_assoc, Nat.mul_comm 10]
theorem pow10_le (k : Nat) (h : k ≤ 18) : 10 ^ k ≤ 1000000000000000000 := by
  have := Nat.pow_le_pow_right (n := 10) (by omega) h
  omega
theorem pow10_le17 (k : Nat) (h : k ≤ 17) : 10 ^ k ≤ 100000000000000000 := by
  have := Nat.pow_le_pow_right (n := 10) (by omega) h
  omega
def Lengthed (s : Bs) (w : World) (e : Ending) (w' : World) : Prop := w = w' ∧ ((lenF s = none ∧ e = .returned (.tuple #[.int .i64 0, .bool false])) ∨ ∃ v : Nat, lenF s = some v ∧ v < 1000000000000000000 ∧ e = .returned (.tuple #[.int .i64 (v : Int), .bool true]))

set_option maxRecDepth 20000 in
set_option maxHeartbeats 8000000 in
theorem length_any (s : Bs) (hs : s.length ≤ 1048576) (w : World) : Calls Tryz.prog 59 #[.string ⟨s.toArray⟩] w (Lengthed s w) := by
  have hff : lenF s = if 1 ≤ s.length ∧ s.length ≤ 18 ∧ s.all dgB = true then some (valF s 0) else none := rfl
  have HNO := Lib.hid (fun h : ¬ (1 ≤ s.length ∧ s.length ≤ 18 ∧ s.all dgB = true) => hff.trans (if_neg h))
  have HYS := Lib.hid (fun h : (1 ≤ s.length ∧ s.length ≤ 18 ∧ s.all dgB = true) => hff.trans (if_pos h))
  have hsz := size_mk s
  clear hff
  by_cases h1 : (s.length : Int) < 1
  · have HE := Lib.hid (HNO.out fun h => by have := h.1; omega)
    have d1 : decide ((s.length : Int) < 1) = true := decide_eq_true h1
    clear h1
    go_enter Tryz.func59, Tryz.ntmps59
    go_wp2_with fail
    go_ret2
    exact ⟨rfl, .inl ⟨HE.out, rfl⟩⟩
  have d1 : decide ((s.length : Int) < 1) = false := decide_eq_false h1
  by_cases h2 : (18 : Int) < s.length
  · have HE := Lib.hid (HNO.out fun h => by have := h.2.1; omega)
    have d2 : decide ((18 : Int) < s.length) = true := decide_eq_true h2
    clear h1 h2
    go_enter Tryz.func59, Tryz.ntmps59
    go_wp2_with fail
    go_ret2
    exact ⟨rfl, .inl ⟨HE.out, rfl⟩⟩
  have d2 : decide ((18 : Int) < s.length) = false := decide_eq_false h2
  have HL := Lib.hid (show 1 ≤ s.length ∧ s.length ≤ 18 by omega)
  clear h1 h2
  go_enter Tryz.func59, Tryz.ntmps59
  go_wp2_with fail
  clear d1 d2
  go_loopw [4, 16] (fun v i wr => ∃ (k V : Nat), k ≤ s.length ∧ i = .int .i64 k ∧ v = .int .i64 (V : Int) ∧ V < 10 ^ k ∧ w = wr ∧ Hid (V = valF (s.take k) 0 ∧ ∀ (j : Nat) x, j < k → s[j]? = some x → dgB x = true)) (fun _ i _ => s.length - (intOf i).toNat)
  case atStart => exact ⟨0, 0, by omega, rfl, rfl, by decide, rfl, ⟨by simp [valF], fun j x h => absurd h (by omega)⟩⟩
  case round =>
    obtain ⟨k, V, hk, rfl, rfl, hV, rfl, hH⟩ := hrel
    by_cases hka : k < s.length
    · have hx : s[k]? = some (s[k]'hka) := List.getElem?_eq_getElem hka
      generalize s[k]'hka = x at hx
      have hi : ∀ W, (Instr.index 9 (.string ⟨s.toArray⟩) (.int .i64 (k : Int))).run Tryz.prog W = .ok (.int .u8 (x.toNat : Int)) W := fun W => run_str_at (P := Tryz.prog) Tryz.underlying9 s k x hx (kl := .i64) W
      have hk' : (k : Int) < s.length := by omega
      have hxb : (x.toNat : Int) ≤ 255 := by have := x.toNat_lt; omega
      have HX := Lib.hid hx
      rcases dg_case x with ⟨c1, hu⟩ | ⟨c1, c2, hu⟩ | ⟨c1, c2, hu⟩
      · have HE := Lib.hid (HNO.out fun h => all_ne HX.out hu h.2.2)
        have e1 : decide ((x.toNat : Int) < 48) = true := decide_eq_true c1
        clear hx hka hH c1 hu hV
        go_wp2_with fail
        go_ret2
        exact ⟨rfl, .inl ⟨HE.out, rfl⟩⟩
      · have HE := Lib.hid (HNO.out fun h => all_ne HX.out hu h.2.2)
        have e1 : decide ((x.toNat : Int) < 48) = false := decide_eq_false (by omega)
        have e2 : decide (57 < (x.toNat : Int)) = true := decide_eq_true c2
        clear hx hka hH c1 c2 hu hV
        go_wp2_with fail
        go_ret2
        exact ⟨rfl, .inl ⟨HE.out, rfl⟩⟩
      · have e1 : decide ((x.toNat : Int) < 48) = false := decide_eq_false (by omega)
        have e2 : decide (57 < (x.toNat : Int)) = false := decide_eq_false (by omega)
        have hp := pow10_le17 k (by have := HL.out.2; omega)
        have hVb : (V : Int) < 100000000000000000 := by omega
        have hp2 : 10 * V + (x.toNat - 48) < 10 ^ (k + 1) := by
          rw [Nat.pow_succ]
          omega
        have HP2 := Lib.hid hp2
        have HN : Hid (10 * V + (x.toNat - 48) = valF (s.take (k + 1)) 0 ∧ ∀ (j : Nat) y, j < k + 1 → s[j]? = some y → dgB y = true) := ⟨by rw [valF_take hx, hH.out.1], fun j y hj hy => by
          by_cases hjk : j < k
          · exact hH.out.2 j y hjk hy
          · obtain rfl : j = k := by omega
            rw [hx] at hy
            rw [← Option.some.inj hy]
            exact hu⟩
        have hc : ((10 * V + (x.toNat - 48) : Nat) : Int) = 10 * (V : Int) + ((x.toNat : Int) - 48) := by omega
        have HC := Lib.hid hc
        clear hx hka hH hu hV hp hp2 hc
        go_wp2_with fail
        go_roundw
        case rel => exact ⟨k + 1, 10 * V + (x.toNat - 48), by omega, by go_num, by rw [HC.out], HP2.out, by trivial, HN⟩
        case measure => simp [intOf]; omega
    · obtain rfl : k = s.length := by omega
      have hall := all_yes fun k x h => hH.out.2 k x (List.getElem?_eq_some_iff.1 h).1 h
      have hval := hH.out.1
      rw [List.take_length] at hval
      have HE := Lib.hid (HYS.out ⟨HL.out.1, HL.out.2, hall⟩)
      have hlt : V < 1000000000000000000 := Nat.lt_of_lt_of_le hV (pow10_le _ HL.out.2)
      have HV := Lib.hid hval
      have HLT := Lib.hid hlt
      clear hka hH hall hval hV hlt
      go_wp2_with fail
      go_ret2
      exact ⟨rfl, .inr ⟨V, by rw [HE.out, HV.out], HLT.out, rfl⟩⟩

end Go.Proofs.YtckkmdigmecagaaGreatDoor
