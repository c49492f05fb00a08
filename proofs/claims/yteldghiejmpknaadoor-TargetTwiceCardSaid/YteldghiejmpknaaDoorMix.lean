/-
  A region that draws its order and holds reads beside calls that make memory: it is walked once, in an order of the prover's choice, where each read is as it would be in every world that the region can come to (S), and each call, when it is taken, is the only operation that may come up. Behind a call S may be made narrower.
-/
import Derived.Test.YteldghiejmpknaaDoorQuiet
import Derived.OrdersHeld
import Derived.Deep.RegionHeld
import Derived.BigQuiet
namespace Go.Proofs.YteldghiejmpknaaDoor
open Go.RowKit

section
variable {P : Program} {ops : Array Oper} {Q : Exit → Act → World → Prop} {md : Region.Mode}

/-- An operation that is carried out by itself. -/
def solo (o : Oper) : Bool := match o.op with
  | .call { callee := .builtin .len, .. } | .call { callee := .builtin .cap, .. } | .call { callee := .builtin .min, .. } | .call { callee := .builtin .max, .. } => false
  | .call _ | .alloc _ | .box .. | .buildSlice .. | .makeSlice .. | .makeMap .. | .store .. | .mapUpdate .. => true
  | _ => false

/-- The walk, the operations by their numbers. -/
def wpMix (P : Program) (ops : Array Oper) (Q : Exit → Act → World → Prop) : List Nat → (World → Prop) → Act → World → Prop
  | [], _, a, w => Q .normal a w
  | i :: r, S, a, w =>
    match ops[i]? with
    | none => False
    | some o =>
      if Region.wanted o (yielded ops a.tmps) = true then
        (solo o = false ∧ ∃ v, (∀ w', S w' → (execOp a.eval o).run P w' = .ok (.value v) w') ∧ wpMix P ops Q r S (a.put o.dst v) w) ∨
        (solo o = true ∧ o.wp P a w (fun a' w' => S w' ∧ ∃ S' : World → Prop, (∀ x, S' x → S x) ∧ S' w' ∧ wpMix P ops Q r S' a' w') Q)
      else wpMix P ops Q r S (a.put o.dst undef) w

/-- Each read may come up and is apart from what may come ahead of it; each call is the only one that may come up. -/
def mixB (md : Region.Mode) (ops : Array Oper) : List Nat → Array Bool → Bool
  | [], listed => (Region.ready md ops listed).isEmpty
  | i :: r, listed =>
    (match ops[i]? with
     | none => false
     | some o => if solo o then Region.ready md ops listed == [i] else (Region.ready md ops listed).contains i && Region.free md ops listed i) &&
    mixB md ops r (listed.setIfInBounds i true)

theorem anyH_weaken {S S' : World → Prop} (hs : ∀ x, S' x → S x) : ∀ (fuel : Nat) (listed : Array Bool) (a : Act) (w : World), wpAnyH P md ops Q S' fuel listed a w → wpAnyH P md ops Q S fuel listed a w
  | 0, _, _, _, h => h
  | fuel + 1, _, _, _, h => ⟨h.1, fun i hi => wpOp_mono (fun a' w' h' => ⟨hs _ h'.1, anyH_weaken hs fuel _ a' w' h'.2⟩) (h.2 i hi)⟩

theorem mix_anyH (hns : Region.noSelect ops = true) (hQ : ∀ c a d v w, Q (.panic c) (Act.put a d v) w → Q (.panic c) a w) :
    ∀ (l : List Nat) (listed : Array Bool) (S : World → Prop) (a : Act) (w : World), mixB md ops l listed = true → S w → wpMix P ops Q l S a w → wpAnyH P md ops Q S l.length listed a w
  | [], listed, S, a, w, hB, _, h => ⟨by simpa [mixB] using hB, h⟩
  | i :: r, listed, S, a, w, hB, hS, h => by
    rw [mixB, Bool.and_eq_true] at hB
    obtain ⟨h1, h2⟩ := hB
    rw [wpMix] at h
    cases ho : ops[i]? with
    | none => simp [ho] at h1
    | some o =>
      simp only [ho] at h h1
      by_cases hw : Region.wanted o (yielded ops a.tmps) = true
      · rw [if_pos hw] at h
        rcases h with ⟨hso, v, hv, hr⟩ | ⟨hso, hwp⟩
        · simp only [hso, Bool.false_eq_true, if_false, Bool.and_eq_true] at h1
          exact wpAnyH_first ho (Region.noSelect_spec hns) (fun c a w => hQ c a o.dst v w) r.length listed a w (Region.free_spec ho h1.2) (by simpa using h1.1) (.inl ⟨hw, hv⟩) hS
            (mix_anyH hns hQ r _ S _ w h2 hS hr)
        · simp only [hso, if_true, beq_iff_eq] at h1
          refine ⟨fun h0 => (by rw [h1] at h0; cases h0), fun j hj => ?_⟩
          rw [h1] at hj
          obtain rfl : j = i := by simpa using hj
          unfold wpOp
          simp only [ho, hw, if_true]
          refine .inl (Oper.wp_mono (fun a' w' ⟨hs1, S', hs2, hs3, hm⟩ => ⟨hs1, anyH_weaken hs2 _ _ _ _ (mix_anyH hns hQ r _ S' a' w' h2 hs3 hm)⟩) hwp)
      · rw [if_neg hw] at h
        have hr := mix_anyH hns hQ r _ S _ w h2 hS h
        by_cases hso : solo o = true
        · simp only [hso, if_true, beq_iff_eq] at h1
          refine ⟨fun h0 => (by rw [h1] at h0; cases h0), fun j hj => ?_⟩
          rw [h1] at hj
          obtain rfl : j = i := by simpa using hj
          unfold wpOp
          simp only [ho, hw, Bool.false_eq_true, if_false]
          exact ⟨hS, hr⟩
        · simp only [hso, Bool.false_eq_true, if_false, Bool.and_eq_true] at h1
          exact wpAnyH_first ho (Region.noSelect_spec hns) (fun c a w => hQ c a o.dst undef w) r.length listed a w (Region.free_spec ho h1.2) (by simpa using h1.1) (.inr ⟨by simpa using hw, rfl⟩) hS hr

theorem wp_region_mix {id : Nat} {a : Act} {w : World} (l : List Nat) (S : World → Prop) (hm : P.follows .mixedOrders = true) (hns : Region.noSelect ops = true) (hlen : l.length = ops.size) (hB : mixB .any ops l (Array.replicate ops.size false) = true)
    (hQ : ∀ c a d v w, Q (.panic c) (Act.put a (some d) v) w → Q (.panic c) a w) (hS : S w.drew) (h : wpMix P ops Q l S a w.drew) : (Code.region id ops true).wp P Q a w :=
  wp_region_held (S := S) hm (by
    have := mix_anyH hns (fun c a d v w hp => match d, hp with | none, hp => hp | some d, hp => hQ c a d v w hp) l (Array.replicate ops.size false) S a w.drew hB hS h
    rw [hlen] at this
    exact this)

/-- What runs to a value, if to anything. -/
def IsVal (s : Sem Next) : Prop := ∀ (P : Program) (w w' : World) (r : Next), s.run P w = .ok r w' → ∃ v, r = .value v
theorem isVal_of (s : Sem Value) : IsVal (do pure (.value (← s))) := by
  intro P w w' r h
  rw [Sem.run_bind] at h
  cases hs : s.run P w with
  | ok v w1 =>
    rw [hs] at h
    simp only [Result.andThen_ok, Sem.run_pure, Result.ok.injEq] at h
    exact ⟨v, h.1.symm⟩
  | halt x w1 =>
    rw [hs] at h
    cases h
/-- An operation that only reads. -/
def reads (o : Oper) : Bool := match o.op with
  | .move _ | .assign _ | .pick .. | .load .. | .binOp .. | .unOp .. | .convert .. | .field .. | .fieldAddr .. | .index .. | .indexAddr .. | .slice .. | .extract .. | .makeInterface .. | .build .. | .lookup .. | .sliceToArrayPointer .. => true
  | .call { callee := .builtin .len, .. } | .call { callee := .builtin .cap, .. } | .call { callee := .builtin .min, .. } | .call { callee := .builtin .max, .. } => true
  | _ => false
theorem isVal_pure (v : Value) : IsVal (pure (.value v)) := by
  intro P w w' r h
  simp only [Sem.run_pure, Result.ok.injEq] at h
  exact ⟨v, h.1.symm⟩
theorem isVal_reads (ρ : Operand → Value) (o : Oper) (h : reads o = true) : IsVal (execOp ρ o) := by
  obtain ⟨dst, op, type, pos, after, guard⟩ := o
  cases op with
  | move x => exact isVal_pure _
  | assign x => exact isVal_pure _
  | pick c a b =>
    intro P w w' r h
    have e : execOp ρ { dst, op := .pick c a b, type, pos, after, guard } = (do pure (.value (if ← asBool (ρ c) then ρ a else ρ b))) := rfl
    rw [e, Sem.run_bind] at h
    cases hs : (asBool (ρ c)).run P w with
    | ok v w1 =>
      rw [hs] at h
      simp only [Result.andThen_ok, Sem.run_pure, Result.ok.injEq] at h
      exact ⟨_, h.1.symm⟩
    | halt x w1 =>
      rw [hs] at h
      cases h
  | load t a => exact isVal_of _
  | binOp a b c d e => exact isVal_of _
  | unOp a b c => exact isVal_of _
  | convert a b c => exact isVal_of _
  | field a b c => exact isVal_of _
  | fieldAddr a b c => exact isVal_of _
  | index a b c => exact isVal_of _
  | indexAddr a b c => exact isVal_of _
  | slice a b c d e => exact isVal_of _
  | extract a b => exact isVal_of _
  | makeInterface a b => exact isVal_of _
  | build a b => exact isVal_of _
  | lookup a b c d => exact isVal_of _
  | sliceToArrayPointer a b => exact isVal_of _
  | call c =>
    obtain ⟨callee, args, ats⟩ := c
    cases callee with
    | builtin b =>
      rw [BigFrame.execOp_builtin]
      cases b <;> first
        | (exfalso; simp [reads] at h; done)
        | (rw [BigFrame.builtin_len]; exact isVal_of _)
        | (rw [BigFrame.builtin_cap]; exact isVal_of _)
        | (rw [BigFrame.builtin_min]; exact isVal_of _)
        | (rw [BigFrame.builtin_max]; exact isVal_of _)
    | value f => simp [reads] at h
    | invoke r m => simp [reads] at h
  | _ => simp [reads] at h
theorem reads_solo {o : Oper} (h : reads o = true) : solo o = false := by
  obtain ⟨dst, op, type, pos, after, guard⟩ := o
  unfold reads at h
  unfold solo
  split at h <;> first | rfl | simp_all

/-- One read, by the quiet walk's own step. -/
theorem mix_read {i : Nat} {o : Oper} {r : List Nat} {S : World → Prop} {a : Act} {w : World} (ho : ops[i]? = some o) (hrd : reads o = true)
    (h : wpQuiet P ops S (fun a' => wpMix P ops Q r S a' w) [o] a) : wpMix P ops Q (i :: r) S a w := by
  rw [wpMix]
  simp only [ho]
  unfold wpQuiet at h
  split
  · rename_i hw
    rw [if_pos hw] at h
    obtain ⟨v, hv, hn⟩ := h
    refine .inl ⟨reads_solo hrd, v, fun w' hS => ?_, hn⟩
    have h1 := hv w' hS
    unfold Oper.quietAt at h1
    have h2 := isVal_reads a.eval o hrd P w'
    generalize (execOp a.eval o).run P w' = res at *
    cases res with
    | ok n x =>
      obtain ⟨u, rfl⟩ := h2 x n rfl
      simp only [Oper.quietUpon] at h1
      obtain ⟨rfl, rfl⟩ := h1
      rfl
    | halt y x => simp only [Oper.quietUpon] at h1
  · rename_i hw
    rw [if_neg hw] at h
    exact h
/-- A load, a build, whose run is known in each such world. -/
theorem mix_load {i : Nat} {o : Oper} {r : List Nat} {S : World → Prop} {a : Act} {w : World} (ho : ops[i]? = some o) {ty : TypeId} {x : Operand} (hop : o.op = .load ty x) (hw : Region.wanted o (yielded ops a.tmps) = true) (ad : Addr) (hx : a.eval x = .pointer (some ad)) (v : Value) (hrun : ∀ w', S w' → (loadVar ty ad).run P w' = .ok v w')
    (h : wpMix P ops Q r S (a.put o.dst v) w) : wpMix P ops Q (i :: r) S a w := by
  rw [wpMix]
  simp only [ho, hw, if_true]
  refine .inl ⟨by unfold solo; rw [hop], v, fun w' hS => ?_, h⟩
  unfold execOp
  simp only [hop, hx, Instr.loadAt, Instr.sureAddr, Sem.run_bind, Sem.run_pure, Result.andThen_ok, hrun w' hS]
theorem mix_build {i : Nat} {o : Oper} {r : List Nat} {S : World → Prop} {a : Act} {w : World} (ho : ops[i]? = some o) {ty : TypeId} {parts : Array (Nat × Operand)} (hop : o.op = .build ty parts) (hw : Region.wanted o (yielded ops a.tmps) = true) (vs : Array (Nat × Value)) (hx : (parts.map fun (i, x) => (i, a.eval x)) = vs) (v : Value) (hrun : ∀ w', S w' → (Instr.build ty vs).run P w' = .ok v w')
    (h : wpMix P ops Q r S (a.put o.dst v) w) : wpMix P ops Q (i :: r) S a w := by
  rw [wpMix]
  simp only [ho, hw, if_true]
  refine .inl ⟨by unfold solo; rw [hop], v, fun w' hS => ?_, h⟩
  unfold execOp
  simp only [hop, hx, Sem.run_bind, Sem.run_pure, Result.andThen_ok, hrun w' hS]
theorem mix_arr {i : Nat} {o : Oper} {r : List Nat} {S : World → Prop} {a : Act} {w : World} (ho : ops[i]? = some o) {ty : TypeId} {x : Operand} (hop : o.op = .sliceToArrayPointer ty x) (hw : Region.wanted o (yielded ops a.tmps) = true) (u : Value) (hx : a.eval x = u) (v : Value) (hrun : ∀ w', S w' → (Instr.arrayAt ty u).run P w' = .ok v w')
    (h : wpMix P ops Q r S (a.put o.dst v) w) : wpMix P ops Q (i :: r) S a w := by
  rw [wpMix]
  simp only [ho, hw, if_true]
  refine .inl ⟨by unfold solo; rw [hop], v, fun w' hS => ?_, h⟩
  unfold execOp
  simp only [hop, hx, Sem.run_bind, Sem.run_pure, Result.andThen_ok, hrun w' hS]
theorem mix_done {S : World → Prop} {a : Act} {w : World} (h : Q .normal a w) : wpMix P ops Q [] S a w := h
/-- One call that is not reached. -/
theorem mix_skip {i : Nat} {o : Oper} {r : List Nat} {S : World → Prop} {a : Act} {w : World} (ho : ops[i]? = some o) (hw : Region.wanted o (yielded ops a.tmps) = false) (h : wpMix P ops Q r S (a.put o.dst undef) w) : wpMix P ops Q (i :: r) S a w := by
  rw [wpMix]
  simp only [ho, hw, Bool.false_eq_true, if_false]
  exact h
/-- One call. -/
theorem mix_call {i : Nat} {o : Oper} {r : List Nat} {S : World → Prop} {a : Act} {w : World} (ho : ops[i]? = some o) (hso : solo o = true) (hw : Region.wanted o (yielded ops a.tmps) = true)
    (h : ∀ K : Act → World → Prop, (∀ (S' : World → Prop) a' w', S w' → (∀ x, S' x → S x) → S' w' → wpMix P ops Q r S' a' w' → K a' w') → o.wp P a w K Q) : wpMix P ops Q (i :: r) S a w := by
  rw [wpMix]
  simp only [ho, hw, if_true]
  exact .inr ⟨hso, h _ (fun S' a' w' h1 h2 h3 h4 => ⟨h1, S', h2, h3, h4⟩)⟩
end

/-! ### The worlds in which all that stood stands -/
structure Later (W : World) where
  at' : World
  below : Below W.heap.size W at'
instance (W : World) : Nonempty (Later W) := ⟨⟨W, Below.refl _ _⟩⟩

section
variable {P : Program} {ops : Array Oper} {Q : Exit → Act → World → Prop} {md : Region.Mode}

theorem wp_region_mixb {id : Nat} {a : Act} {w : World} (l : List Nat) (hm : P.follows .mixedOrders = true) (hns : Region.noSelect ops = true) (hlen : l.length = ops.size) (hB : mixB .any ops l (Array.replicate ops.size false) = true)
    (hQ : ∀ c a d v w, Q (.panic c) (Act.put a (some d) v) w → Q (.panic c) a w) (h : wpMix P ops Q l (fun x => ∃ b : Later w, x = b.at') a w.drew) : (Code.region id ops true).wp P Q a w :=
  wp_region_mix l _ hm hns hlen hB hQ ⟨⟨w.drew, (Below.refl _ _).drew⟩, rfl⟩ h

/-- One call; what stood when it came back stands from then on. -/
theorem mixb_call {i : Nat} {o : Oper} {r : List Nat} {W : World} {a : Act} {w : World} (ho : ops[i]? = some o) (hso : solo o = true) (hw : Region.wanted o (yielded ops a.tmps) = true)
    (h : ∀ K : Act → World → Prop, (∀ a' w', Below W.heap.size W w' → wpMix P ops Q r (fun x => ∃ b : Later w', x = b.at') a' w' → K a' w') → o.wp P a w K Q) : wpMix P ops Q (i :: r) (fun x => ∃ b : Later W, x = b.at') a w :=
  mix_call ho hso hw fun K hK => h K fun a' w' hb hn =>
    hK (fun x => ∃ b : Later w', x = b.at') a' w' ⟨⟨w', hb⟩, rfl⟩ (fun x ⟨b, e⟩ => ⟨⟨x, by subst e; exact hb.trans (b.below.mono hb.size)⟩, rfl⟩) ⟨⟨w', Below.refl _ _⟩, rfl⟩ hn
/-- One call; the facts of the beginning stay in use. -/
theorem mixb_call_as {i : Nat} {o : Oper} {r : List Nat} {W : World} {a : Act} {w : World} (ho : ops[i]? = some o) (hso : solo o = true) (hw : Region.wanted o (yielded ops a.tmps) = true)
    (h : ∀ K : Act → World → Prop, (∀ a' w', Below W.heap.size W w' → wpMix P ops Q r (fun x => ∃ b : Later W, x = b.at') a' w' → K a' w') → o.wp P a w K Q) : wpMix P ops Q (i :: r) (fun x => ∃ b : Later W, x = b.at') a w :=
  mix_call ho hso hw fun K hK => h K fun a' w' hb hn => hK _ a' w' ⟨⟨w', hb⟩, rfl⟩ (fun _ h => h) ⟨⟨w', hb⟩, rfl⟩ hn
end

end Go.Proofs.YteldghiejmpknaaDoor
