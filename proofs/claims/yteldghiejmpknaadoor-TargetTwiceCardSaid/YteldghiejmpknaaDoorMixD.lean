/-
  Regions that draw their order (see Mix, MixC): a plan with forks, where two operations that make memory may come up in either order.
-/
import Derived.Test.YteldghiejmpknaaDoorMixC
namespace Go.Proofs.YteldghiejmpknaaDoor
open Go.RowKit

inductive MPlan where
  | fin
  | read (i : Nat) (p : MPlan)
  | one (i : Nat) (p : MPlan)
  | two (i j : Nat) (p q : MPlan)
  | three (i j k : Nat) (p q r : MPlan)
def MPlan.reads : List Nat → MPlan → MPlan
  | [], p => p
  | i :: l, p => .read i (MPlan.reads l p)

section
variable {P : Program} {ops : Array Oper} {Q : Exit → Act → World → Prop} {md : Region.Mode} {S : World → Prop}

def wpOneAt (P : Program) (ops : Array Oper) (Q : Exit → Act → World → Prop) (i : Nat) (K : Act → World → Prop) (a : Act) (w : World) : Prop :=
  match ops[i]? with
  | none => False
  | some o => wpOne P ops Q o K a w
theorem wpOneAt_op {i : Nat} {K : Act → World → Prop} {a : Act} {w : World} (h : wpOneAt P ops Q i K a w) : wpOp P ops Q i K a w := by
  unfold wpOneAt at h
  unfold wpOp
  cases ho : ops[i]? with
  | none => simp [ho] at h
  | some o =>
    rw [ho] at h
    exact h

def wpPlan (P : Program) (ops : Array Oper) (Q : Exit → Act → World → Prop) (S : World → Prop) : MPlan → Act → World → Prop
  | .fin, a, w => Q .normal a w
  | .read i p, a, w => match ops[i]? with
    | none => False
    | some o => ∃ v, YC P ops S o v a ∧ wpPlan P ops Q S p (a.put o.dst v) w
  | .one i p, a, w => wpOneAt P ops Q i (fun a' w' => S w' ∧ wpPlan P ops Q S p a' w') a w
  | .two i j p q, a, w => wpOneAt P ops Q i (fun a' w' => S w' ∧ wpPlan P ops Q S p a' w') a w ∧ wpOneAt P ops Q j (fun a' w' => S w' ∧ wpPlan P ops Q S q a' w') a w
  | .three i j k p q r, a, w => wpOneAt P ops Q i (fun a' w' => S w' ∧ wpPlan P ops Q S p a' w') a w ∧ wpOneAt P ops Q j (fun a' w' => S w' ∧ wpPlan P ops Q S q a' w') a w ∧ wpOneAt P ops Q k (fun a' w' => S w' ∧ wpPlan P ops Q S r a' w') a w

def planB (md : Region.Mode) (ops : Array Oper) : Nat → MPlan → Array Bool → Bool
  | 0, .fin, listed => (Region.ready md ops listed).isEmpty
  | f + 1, .read i p, listed => (match ops[i]? with
    | none => false
    | some _ => (Region.ready md ops listed).contains i && Region.free md ops listed i) && planB md ops f p (listed.setIfInBounds i true)
  | f + 1, .one i p, listed => (Region.ready md ops listed == [i]) && planB md ops f p (listed.setIfInBounds i true)
  | f + 1, .two i j p q, listed => (Region.ready md ops listed == [i, j]) && planB md ops f p (listed.setIfInBounds i true) && planB md ops f q (listed.setIfInBounds j true)
  | f + 1, .three i j k p q r, listed => (Region.ready md ops listed == [i, j, k]) && planB md ops f p (listed.setIfInBounds i true) && planB md ops f q (listed.setIfInBounds j true) && planB md ops f r (listed.setIfInBounds k true)
  | _, _, _ => false

theorem plan_anyH (hns : Region.noSelect ops = true) (hQ : ∀ c a d v w, Q (.panic c) (Act.put a d v) w → Q (.panic c) a w) :
    ∀ (f : Nat) (p : MPlan) (listed : Array Bool) (a : Act) (w : World), planB md ops f p listed = true → S w → wpPlan P ops Q S p a w → wpAnyH P md ops Q S f listed a w
  | 0, .fin, listed, a, w, hB, _, h => ⟨by simpa [planB] using hB, h⟩
  | f + 1, .read i p, listed, a, w, hB, hS, h => by
    rw [planB, Bool.and_eq_true] at hB
    obtain ⟨h1, h2⟩ := hB
    rw [wpPlan] at h
    cases ho : ops[i]? with
    | none => simp [ho] at h1
    | some o =>
      simp only [ho, Bool.and_eq_true] at h h1
      obtain ⟨v, hy, hr⟩ := h
      exact YC.first ho (Region.noSelect_spec hns) (fun c a w => hQ c a o.dst v w) f listed a w (Region.free_spec ho h1.2) (by simpa using h1.1) hy hS (plan_anyH hns hQ f p _ _ w h2 hS hr)
  | f + 1, .one i p, listed, a, w, hB, hS, h => by
    rw [planB, Bool.and_eq_true, beq_iff_eq] at hB
    obtain ⟨h1, h2⟩ := hB
    refine ⟨fun h0 => (by rw [h1] at h0; cases h0), fun j hj => ?_⟩
    rw [h1] at hj
    obtain rfl : j = i := by simpa using hj
    rw [wpPlan] at h
    exact wpOp_mono (fun a' w' ⟨hs, hp⟩ => ⟨hs, plan_anyH hns hQ f p _ a' w' h2 hs hp⟩) (wpOneAt_op h)
  | f + 1, .two i j p q, listed, a, w, hB, hS, h => by
    rw [planB, Bool.and_eq_true, Bool.and_eq_true, beq_iff_eq] at hB
    obtain ⟨⟨h1, h2⟩, h3⟩ := hB
    refine ⟨fun h0 => (by rw [h1] at h0; cases h0), fun k hk => ?_⟩
    rw [h1] at hk
    rw [wpPlan] at h
    obtain ⟨ha, hb⟩ := h
    have hk2 : k = i ∨ k = j := by simpa using hk
    rcases hk2 with rfl | rfl
    · exact wpOp_mono (fun a' w' ⟨hs, hp⟩ => ⟨hs, plan_anyH hns hQ f p _ a' w' h2 hs hp⟩) (wpOneAt_op ha)
    · exact wpOp_mono (fun a' w' ⟨hs, hp⟩ => ⟨hs, plan_anyH hns hQ f q _ a' w' h3 hs hp⟩) (wpOneAt_op hb)
  | f + 1, .three i j k p q r, listed, a, w, hB, hS, h => by
    rw [planB, Bool.and_eq_true, Bool.and_eq_true, Bool.and_eq_true, beq_iff_eq] at hB
    obtain ⟨⟨⟨h1, h2⟩, h3⟩, h4⟩ := hB
    refine ⟨fun h0 => (by rw [h1] at h0; cases h0), fun m hm => ?_⟩
    rw [h1] at hm
    rw [wpPlan] at h
    obtain ⟨ha, hb, hc⟩ := h
    have hm2 : m = i ∨ m = j ∨ m = k := by simpa using hm
    rcases hm2 with rfl | rfl | rfl
    · exact wpOp_mono (fun a' w' ⟨hs, hp⟩ => ⟨hs, plan_anyH hns hQ f p _ a' w' h2 hs hp⟩) (wpOneAt_op ha)
    · exact wpOp_mono (fun a' w' ⟨hs, hp⟩ => ⟨hs, plan_anyH hns hQ f q _ a' w' h3 hs hp⟩) (wpOneAt_op hb)
    · exact wpOp_mono (fun a' w' ⟨hs, hp⟩ => ⟨hs, plan_anyH hns hQ f r _ a' w' h4 hs hp⟩) (wpOneAt_op hc)
  | 0, .three .., _, _, _, hB, _, _ => by simp [planB] at hB
  | 0, .read .., _, _, _, hB, _, _ => by simp [planB] at hB
  | 0, .one .., _, _, _, hB, _, _ => by simp [planB] at hB
  | 0, .two .., _, _, _, hB, _, _ => by simp [planB] at hB
  | _ + 1, .fin, _, _, _, hB, _, _ => by simp [planB] at hB

theorem wp_region_plan {id : Nat} {a : Act} {w : World} (p : MPlan) (S : World → Prop) (hm : P.follows .mixedOrders = true) (hns : Region.noSelect ops = true) (hB : planB .any ops ops.size p (Array.replicate ops.size false) = true)
    (hQ : ∀ c a d v w, Q (.panic c) (Act.put a (some d) v) w → Q (.panic c) a w) (hS : S w.drew) (h : wpPlan P ops Q S p a w.drew) : (Code.region id ops true).wp P Q a w :=
  wp_region_held (S := S) hm (plan_anyH hns (fun c a d v w hp => match d, hp with | none, hp => hp | some d, hp => hQ c a d v w hp) _ p (Array.replicate ops.size false) a w.drew hB hS h)

theorem plan_read {i : Nat} {o : Oper} {p : MPlan} {a : Act} {w : World} (ho : ops[i]? = some o) (hrd : reads o = true)
    (h : wpQuiet P ops S (fun a' => wpPlan P ops Q S p a' w) [o] a) : wpPlan P ops Q S (.read i p) a w := by
  rw [wpPlan]
  simp only [ho]
  unfold wpQuiet at h
  split at h
  · rename_i hw
    obtain ⟨v, hv, hn⟩ := h
    refine ⟨v, .inl ⟨hw, fun w' hS => ?_⟩, hn⟩
    have h1 := hv w' hS
    unfold Oper.quietAt at h1
    have h2 := isVal_reads a.eval o hrd P w'
    generalize (execOp a.eval o).run P w' = res at *
    cases res with
    | ok n x =>
      obtain ⟨u, rfl⟩ := h2 x n rfl
      simp only [Oper.quietUpon] at h1
      exact ⟨h1.2, h1.1⟩
    | halt y x => simp only [Oper.quietUpon] at h1
  · rename_i hw
    exact ⟨undef, .inr ⟨by simpa using hw, rfl⟩, h⟩
theorem plan_run {i : Nat} {o : Oper} {p : MPlan} {a : Act} {w : World} (ho : ops[i]? = some o) (hw : Region.wanted o (yielded ops a.tmps) = true) (v : Value) (hrun : ∀ w', S w' → (execOp a.eval o).run P w' = .ok (.value v) w')
    (h : wpPlan P ops Q S p (a.put o.dst v) w) : wpPlan P ops Q S (.read i p) a w := by
  rw [wpPlan]
  simp only [ho]
  exact ⟨v, .inl ⟨hw, fun w' hS => by rw [hrun w' hS]; exact ⟨rfl, rfl⟩⟩, h⟩
theorem plan_load {i : Nat} {o : Oper} {p : MPlan} {a : Act} {w : World} (ho : ops[i]? = some o) {ty : TypeId} {x : Operand} (hop : o.op = .load ty x) (hw : Region.wanted o (yielded ops a.tmps) = true) (ad : Addr) (hx : a.eval x = .pointer (some ad)) (v : Value) (hrun : ∀ w', S w' → (loadVar ty ad).run P w' = .ok v w')
    (h : wpPlan P ops Q S p (a.put o.dst v) w) : wpPlan P ops Q S (.read i p) a w :=
  plan_run ho hw v (fun w' hS => by
    unfold execOp
    simp only [hop, hx, Instr.loadAt, Instr.sureAddr, Sem.run_bind, Sem.run_pure, Result.andThen_ok, hrun w' hS]) h
theorem plan_arr {i : Nat} {o : Oper} {p : MPlan} {a : Act} {w : World} (ho : ops[i]? = some o) {ty : TypeId} {x : Operand} (hop : o.op = .sliceToArrayPointer ty x) (hw : Region.wanted o (yielded ops a.tmps) = true) (u : Value) (hx : a.eval x = u) (v : Value) (hrun : ∀ w', (Instr.arrayAt ty u).run P w' = .ok v w')
    (h : wpPlan P ops Q S p (a.put o.dst v) w) : wpPlan P ops Q S (.read i p) a w :=
  plan_run ho hw v (fun w' _ => by
    unfold execOp
    simp only [hop, hx, Sem.run_bind, Sem.run_pure, Result.andThen_ok, hrun w']) h
theorem plan_quiet {i : Nat} {o : Oper} {p : MPlan} {a : Act} {w : World} (ho : ops[i]? = some o) (hw : Region.wanted o (yielded ops a.tmps) = true) {f : FuncId} {args : Array Value} (v : Value) (hc : ∀ W, (execOp a.eval o).run P W = .ok (.enter f args) W) (hrun : ∀ w', S w' → Calls P f args w' fun e w'' => e = .returned v ∧ w' = w'')
    (h : wpPlan P ops Q S p (a.put o.dst v) w) : wpPlan P ops Q S (.read i p) a w := by
  rw [wpPlan]
  simp only [ho]
  exact ⟨v, .inl ⟨hw, fun w' hS => by rw [hc w']; exact ⟨rfl, (hrun w' hS).mono fun _ _ ⟨h1, h2⟩ => ⟨h1, h2.symm⟩⟩⟩, h⟩
theorem plan_skip {i : Nat} {o : Oper} {p : MPlan} {a : Act} {w : World} (ho : ops[i]? = some o) (hw : Region.wanted o (yielded ops a.tmps) = false) (h : wpPlan P ops Q S p (a.put o.dst undef) w) : wpPlan P ops Q S (.read i p) a w := by
  rw [wpPlan]
  simp only [ho]
  exact ⟨undef, .inr ⟨hw, rfl⟩, h⟩
theorem oneAt {i : Nat} {o : Oper} {p : MPlan} {a : Act} {w : World} (ho : ops[i]? = some o)
    (h : ∀ K : Act → World → Prop, (∀ a' w', S w' → wpPlan P ops Q S p a' w' → K a' w') → wpList P ops (QK K Q) [o] a w) : wpOneAt P ops Q i (fun a' w' => S w' ∧ wpPlan P ops Q S p a' w') a w := by
  unfold wpOneAt
  rw [ho]
  dsimp only
  obtain ⟨K, hK⟩ : ∃ K : Act → World → Prop, K = fun a' w' => S w' ∧ wpPlan P ops Q S p a' w' := ⟨_, rfl⟩
  rw [← hK]
  have h1 := h K (fun a' w' hs hm => by rw [hK]; exact ⟨hs, hm⟩)
  unfold wpOne
  unfold wpList at h1
  split at h1
  · rename_i hw
    rw [if_pos hw]
    exact h1.imp (fun h2 => upon_QK h2) id
  · rename_i hw
    rw [if_neg hw]
    exact h1
theorem plan_one {i : Nat} {o : Oper} {p : MPlan} {a : Act} {w : World} (ho : ops[i]? = some o)
    (h : ∀ K : Act → World → Prop, (∀ a' w', S w' → wpPlan P ops Q S p a' w' → K a' w') → wpList P ops (QK K Q) [o] a w) : wpPlan P ops Q S (.one i p) a w := by
  rw [wpPlan]
  exact oneAt ho h
theorem plan_two {i j : Nat} {oi oj : Oper} {p q : MPlan} {a : Act} {w : World} (hi : ops[i]? = some oi) (hj : ops[j]? = some oj)
    (h : ∀ K : Act → World → Prop, (∀ a' w', S w' → wpPlan P ops Q S p a' w' → K a' w') → wpList P ops (QK K Q) [oi] a w)
    (h2 : ∀ K : Act → World → Prop, (∀ a' w', S w' → wpPlan P ops Q S q a' w' → K a' w') → wpList P ops (QK K Q) [oj] a w) : wpPlan P ops Q S (.two i j p q) a w := by
  rw [wpPlan]
  exact ⟨oneAt hi h, oneAt hj h2⟩
theorem plan_three {i j k : Nat} {oi oj ok : Oper} {p q r : MPlan} {a : Act} {w : World} (hi : ops[i]? = some oi) (hj : ops[j]? = some oj) (hk : ops[k]? = some ok)
    (h : ∀ K : Act → World → Prop, (∀ a' w', S w' → wpPlan P ops Q S p a' w' → K a' w') → wpList P ops (QK K Q) [oi] a w)
    (h2 : ∀ K : Act → World → Prop, (∀ a' w', S w' → wpPlan P ops Q S q a' w' → K a' w') → wpList P ops (QK K Q) [oj] a w)
    (h3 : ∀ K : Act → World → Prop, (∀ a' w', S w' → wpPlan P ops Q S r a' w' → K a' w') → wpList P ops (QK K Q) [ok] a w) : wpPlan P ops Q S (.three i j k p q r) a w := by
  rw [wpPlan]
  exact ⟨oneAt hi h, oneAt hj h2, oneAt hk h3⟩
theorem plan_fin {a : Act} {w : World} (h : Q .normal a w) : wpPlan P ops Q S .fin a w := h
end

/-- The worlds in which block g is as it was. -/
structure Keep1 (w : World) (g : Nat) where
  at' : World
  same : at'.heap[g]? = w.heap[g]?
instance (w : World) (g : Nat) : Nonempty (Keep1 w g) := ⟨⟨w, rfl⟩⟩

end Go.Proofs.YteldghiejmpknaaDoor
