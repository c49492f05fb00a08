/-
  Regions that draw their order, once more (see Mix): here a call that leaves the world as it is, and hands back a value that hangs on no world, counts as a read: it need not be the only operation that may come up.
-/
import Derived.Test.YteldghiejmpknaaDoorMix
namespace Go.Proofs.YteldghiejmpknaaDoor
open Go.RowKit

section
variable {P : Program} {ops : Array Oper} {Q : Exit → Act → World → Prop} {md : Region.Mode} {S : World → Prop}

/-- What was run handed back v and left w. -/
def YR (P : Program) (w : World) (v : Value) : Result Next → Prop
  | .ok (.value u) w' => u = v ∧ w' = w
  | .ok (.enter f args) w' => w' = w ∧ Calls P f args w fun e w'' => e = .returned v ∧ w'' = w
  | _ => False
/-- Whenever it comes up in a world of S, it does so; or it is not reached. -/
def YC (P : Program) (ops : Array Oper) (S : World → Prop) (o : Oper) (v : Value) (a : Act) : Prop :=
  (Region.wanted o (yielded ops a.tmps) = true ∧ ∀ w, S w → YR P w v ((execOp a.eval o).run P w)) ∨ (Region.wanted o (yielded ops a.tmps) = false ∧ v = undef)
theorem YC.same {o : Oper} {v : Value} {a a' : Act} (hy : YC P ops S o v a) (he : execOp a'.eval o = execOp a.eval o) (hw : Region.wanted o (yielded ops a'.tmps) = Region.wanted o (yielded ops a.tmps)) : YC P ops S o v a' := by
  unfold YC at *
  rwa [he, hw]
theorem YC.go {i : Nat} {o : Oper} {v : Value} {a : Act} (hi : ops[i]? = some o) (hy : YC P ops S o v a) {K : Act → World → Prop} {w : World} (hS : S w) (h : K (a.put o.dst v) w) : wpOp P ops Q i K a w := by
  unfold wpOp
  rw [hi]
  dsimp only
  rcases hy with ⟨hw, hr⟩ | ⟨hw, rfl⟩
  · rw [if_pos hw]
    left
    have hr := hr w hS
    unfold Oper.wp
    generalize (execOp a.eval o).run P w = res at hr
    match res, hr with
    | .ok (.value u) w', hr =>
      obtain ⟨rfl, rfl⟩ := hr
      exact h
    | .ok (.enter f args) w', hr =>
      obtain ⟨rfl, hc⟩ := hr
      rw [Oper.upon_enter]
      refine hc.mono ?_
      rintro e w2 ⟨rfl, rfl⟩
      exact h
  · rw [if_neg (by rw [hw]; decide)]
    exact h
/-- Another operation, apart from it, comes up ahead of it. -/
theorem YC.swap {j : Nat} {oi oj : Oper} {v : Value} (hj : ops[j]? = some oj) (hap : oi.apart ops oj = true) (si : ∀ cs b, oi.op ≠ .select cs b) (sj : ∀ cs b, oj.op ≠ .select cs b)
    (hQ : ∀ c a w, Q (.panic c) (a.put oi.dst v) w → Q (.panic c) a w) {K : Act → World → Prop} {a : Act} {w : World} (hy : YC P ops S oi v a) (h : wpOp P ops Q j K (a.put oi.dst v) w) :
    wpOp P ops Q j (fun a' w' => YC P ops S oi v a' ∧ K (a'.put oi.dst v) w') a w := by
  obtain ⟨p1, p2, p3⟩ := Oper.apart_spec hap
  have k1 : ∀ (b : Act) (u : Value), YC P ops S oi v b → YC P ops S oi v (b.put oj.dst u) := fun b u hb => hb.same (execOp_put oi si b oj.dst u p3) (wanted_put oi b oj.dst u p3)
  have k2 : ∀ (b : Act) (u : Value), K ((b.put oi.dst v).put oj.dst u) w → K ((b.put oj.dst u).put oi.dst v) w := fun b u hb => by rwa [← Act.put_comm b v u p2]
  unfold wpOp at *
  rw [hj] at *
  dsimp only at *
  rw [wanted_put oj a oi.dst v p1] at h
  by_cases hw : Region.wanted oj (yielded ops a.tmps) = true
  · rw [if_pos hw] at h ⊢
    rcases h with h | ⟨h1, h2⟩
    · left
      unfold Oper.wp at *
      rw [execOp_put oj sj a oi.dst v p1] at h
      generalize (execOp a.eval oj).run P w = res at *
      match res, h with
      | .ok (.value u) w', h => exact ⟨k1 _ _ hy, by rw [← Act.put_comm a v u p2]; exact h⟩
      | .ok .skip w', h => exact ⟨k1 _ _ hy, by rw [← Act.put_comm a v undef p2]; exact h⟩
      | .ok (.defer d) w', h => exact ⟨k1 _ _ (hy.same rfl rfl), by rw [← Act.put_comm _ v undef p2, ← Act.put_defers]; exact h⟩
      | .ok (.enter f args) w', h =>
        rw [Oper.upon_enter] at h ⊢
        refine h.mono fun e w2 he => ?_
        match e, he with
        | .returned u, he => exact ⟨k1 _ _ hy, by rw [← Act.put_comm a v u p2]; exact he⟩
        | .panicked c, he => exact hQ _ _ _ he
        | .outgrown, he => exact he
      | .ok (.row r args) w', h =>
        rw [Oper.upon_row] at h ⊢
        exact Rows.mono h fun u w2 he => ⟨k1 _ _ hy, by rw [← Act.put_comm a v u p2]; exact he⟩
      | .halt (.panic u) w', h => exact hQ _ _ _ h
    · right
      refine ⟨?_, h2⟩
      unfold Oper.asks at *
      rwa [execOp_put oj sj a oi.dst v p1] at h1
  · rw [if_neg hw] at h ⊢
    exact ⟨k1 _ _ hy, k2 _ _ h⟩

theorem YC.first {i : Nat} {oi : Oper} {v : Value} (hi : ops[i]? = some oi) (hsel : ∀ (j : Nat) (o : Oper) cs b, ops[j]? = some o → o.op ≠ .select cs b) (hQ : ∀ c a w, Q (.panic c) (a.put oi.dst v) w → Q (.panic c) a w) :
    ∀ (fuel : Nat) (listed : Array Bool) (a : Act) (w : World), (∀ j oj, ops[j]? = some oj → j ≠ i → listed.getD j true = false → (∀ e ∈ oj.after, Region.binds md e = true → e.on ≠ i) → oi.apart ops oj = true) →
      i ∈ Region.ready md ops listed → YC P ops S oi v a → S w → wpAnyH P md ops Q S fuel (listed.setIfInBounds i true) (a.put oi.dst v) w → wpAnyH P md ops Q S (fuel + 1) listed a w
  | fuel, listed, a, w, hfree, hr, hy, hS, H => by
    refine ⟨fun h0 => (by rw [h0] at hr; cases hr), fun j hj => ?_⟩
    by_cases e : j = i
    · subst e
      exact hy.go hi hS ⟨hS, H⟩
    · match fuel, H with
      | 0, H =>
        have := ready_mono hj e
        rw [H.1] at this
        cases this
      | fuel + 1, H =>
        obtain ⟨hun, oj, hoj, hall⟩ := mem_ready.1 hj
        have hun2 := (mem_ready.1 hr).1
        have hno : ∀ x ∈ oj.after, Region.binds md x = true → x.on ≠ i := by
          intro x hx hb hxi
          have h1 := hall x hx hb
          rw [hxi] at h1
          by_cases hlt : i < listed.size
          · simp [hlt] at h1 hun2
            rw [h1] at hun2
            cases hun2
          · simp [Array.getElem?_eq_none (Nat.le_of_not_lt hlt)] at h1
        have h2 := YC.swap hoj (hfree j oj hoj e hun hno) (fun cs b => hsel i oi cs b hi) (fun cs b => hsel j oj cs b hoj) hQ hy (H.2 j (ready_mono hj e))
        refine wpOp_mono (fun a' w' h3 => ⟨h3.2.1, YC.first hi hsel hQ fuel (listed.setIfInBounds j true) a' w' ?_ (ready_mono hr (Ne.symm e)) h3.1 h3.2.1 ?_⟩) h2
        · intro k ok hk hki hku hkn
          refine hfree k ok hk hki ?_ hkn
          by_cases hjk : j = k
          · subst hjk
            exact hun
          · rwa [getD_set_ne true hjk] at hku
        · rw [Array.setIfInBounds_comm _ _ e]
          exact h3.2.2

/-- One operation, as in a walk in the order of the text. -/
def wpOne (P : Program) (ops : Array Oper) (Q : Exit → Act → World → Prop) (o : Oper) (K : Act → World → Prop) (a : Act) (w : World) : Prop :=
  if Region.wanted o (yielded ops a.tmps) = true then o.wp P a w K Q ∨ (o.asks P a w ∧ LetsOut Q) else K (a.put o.dst undef) w
/-- The walk: the operations by their numbers; with true: one that must be the only one that may come up. -/
def wpMixC (P : Program) (ops : Array Oper) (Q : Exit → Act → World → Prop) : List (Nat × Bool) → (World → Prop) → Act → World → Prop
  | [], _, a, w => Q .normal a w
  | (i, b) :: r, S, a, w =>
    match ops[i]? with
    | none => False
    | some o =>
      if b then wpOne P ops Q o (fun a' w' => S w' ∧ ∃ S' : World → Prop, (∀ x, S' x → S x) ∧ S' w' ∧ wpMixC P ops Q r S' a' w') a w
      else ∃ v, YC P ops S o v a ∧ wpMixC P ops Q r S (a.put o.dst v) w

def mixCB (md : Region.Mode) (ops : Array Oper) : List (Nat × Bool) → Array Bool → Bool
  | [], listed => (Region.ready md ops listed).isEmpty
  | (i, b) :: r, listed =>
    (match ops[i]? with
     | none => false
     | some _ => if b then Region.ready md ops listed == [i] else (Region.ready md ops listed).contains i && Region.free md ops listed i) &&
    mixCB md ops r (listed.setIfInBounds i true)

theorem mixc_anyH (hns : Region.noSelect ops = true) (hQ : ∀ c a d v w, Q (.panic c) (Act.put a d v) w → Q (.panic c) a w) :
    ∀ (l : List (Nat × Bool)) (listed : Array Bool) (S : World → Prop) (a : Act) (w : World), mixCB md ops l listed = true → S w → wpMixC P ops Q l S a w → wpAnyH P md ops Q S l.length listed a w
  | [], listed, S, a, w, hB, _, h => ⟨by simpa [mixCB] using hB, h⟩
  | (i, b) :: r, listed, S, a, w, hB, hS, h => by
    rw [mixCB, Bool.and_eq_true] at hB
    obtain ⟨h1, h2⟩ := hB
    rw [wpMixC] at h
    cases ho : ops[i]? with
    | none => simp [ho] at h1
    | some o =>
      simp only [ho] at h h1
      cases b with
      | false =>
        simp only [Bool.false_eq_true, if_false, Bool.and_eq_true] at h h1
        obtain ⟨v, hy, hr⟩ := h
        exact YC.first ho (Region.noSelect_spec hns) (fun c a w => hQ c a o.dst v w) r.length listed a w (Region.free_spec ho h1.2) (by simpa using h1.1) hy hS (mixc_anyH hns hQ r _ S _ w h2 hS hr)
      | true =>
        simp only [if_true, beq_iff_eq] at h h1
        refine ⟨fun h0 => (by rw [h1] at h0; cases h0), fun j hj => ?_⟩
        rw [h1] at hj
        obtain rfl : j = i := by simpa using hj
        have e : ∀ K, wpOne P ops Q o K a w → wpOp P ops Q j K a w := by
          intro K hK
          unfold wpOp
          rw [ho]
          exact hK
        refine e _ ?_
        have h3 : ∀ a' w', (S w' ∧ ∃ S' : World → Prop, (∀ x, S' x → S x) ∧ S' w' ∧ wpMixC P ops Q r S' a' w') → S w' ∧ wpAnyH P md ops Q S r.length (listed.setIfInBounds j true) a' w' := fun a' w' ⟨hs1, S', hs2, hs3, hm⟩ =>
          ⟨hs1, anyH_weaken hs2 _ _ _ _ (mixc_anyH hns hQ r _ S' a' w' h2 hs3 hm)⟩
        unfold wpOne at h ⊢
        split at h
        · rename_i hw
          rw [if_pos hw]
          exact h.imp (Oper.wp_mono h3) id
        · rename_i hw
          rw [if_neg hw]
          exact h3 _ _ h

theorem wp_region_mixg {id : Nat} {a : Act} {w : World} (l : List (Nat × Bool)) (S : World → Prop) (hm : P.follows .mixedOrders = true) (hns : Region.noSelect ops = true) (hlen : l.length = ops.size) (hB : mixCB .any ops l (Array.replicate ops.size false) = true)
    (hQ : ∀ c a d v w, Q (.panic c) (Act.put a (some d) v) w → Q (.panic c) a w) (hS : S w.drew) (h : wpMixC P ops Q l S a w.drew) : (Code.region id ops true).wp P Q a w :=
  wp_region_held (S := S) hm (by
    have := mixc_anyH hns (fun c a d v w hp => match d, hp with | none, hp => hp | some d, hp => hQ c a d v w hp) l (Array.replicate ops.size false) _ a w.drew hB hS h
    rw [hlen] at this
    exact this)
theorem wp_region_mixc {id : Nat} {a : Act} {w : World} (l : List (Nat × Bool)) (hm : P.follows .mixedOrders = true) (hns : Region.noSelect ops = true) (hlen : l.length = ops.size) (hB : mixCB .any ops l (Array.replicate ops.size false) = true)
    (hQ : ∀ c a d v w, Q (.panic c) (Act.put a (some d) v) w → Q (.panic c) a w) (h : wpMixC P ops Q l (fun x => ∃ b : Later w, x = b.at') a w.drew) : (Code.region id ops true).wp P Q a w :=
  wp_region_held (S := fun x => ∃ b : Later w, x = b.at') hm (by
    have := mixc_anyH hns (fun c a d v w hp => match d, hp with | none, hp => hp | some d, hp => hQ c a d v w hp) l (Array.replicate ops.size false) _ a w.drew hB ⟨⟨w.drew, (Below.refl _ _).drew⟩, rfl⟩ h
    rw [hlen] at this
    exact this)

/-- The numbers up to n, those of s alone. -/
def mixL (n : Nat) (s : List Nat) : List (Nat × Bool) := (List.range n).map fun i => (i, s.contains i)

theorem mixc_read {i : Nat} {o : Oper} {r : List (Nat × Bool)} {a : Act} {w : World} (ho : ops[i]? = some o) (hrd : reads o = true)
    (h : wpQuiet P ops S (fun a' => wpMixC P ops Q r S a' w) [o] a) : wpMixC P ops Q ((i, false) :: r) S a w := by
  rw [wpMixC]
  simp only [ho, Bool.false_eq_true, if_false]
  unfold wpQuiet at h
  split at h
  · rename_i hw
    obtain ⟨v, hv, hn⟩ := h
    refine ⟨v, .inl ⟨hw, fun w' hS => ?_⟩, hn⟩
    have h1 := hv w' hS
    unfold Oper.quietAt at h1
    have h2 := isVal_reads a.eval o hrd P w'
    generalize (execOp a.eval o).run P w' = res at *
    cases res with
    | ok n x =>
      obtain ⟨u, rfl⟩ := h2 x n rfl
      simp only [Oper.quietUpon] at h1
      exact ⟨h1.2, h1.1⟩
    | halt y x => simp only [Oper.quietUpon] at h1
  · rename_i hw
    exact ⟨undef, .inr ⟨by simpa using hw, rfl⟩, h⟩
/-- A load, a build, whose run is known in each such world. -/
theorem mixc_run {i : Nat} {o : Oper} {r : List (Nat × Bool)} {a : Act} {w : World} (ho : ops[i]? = some o) (hw : Region.wanted o (yielded ops a.tmps) = true) (v : Value) (hrun : ∀ w', S w' → (execOp a.eval o).run P w' = .ok (.value v) w')
    (h : wpMixC P ops Q r S (a.put o.dst v) w) : wpMixC P ops Q ((i, false) :: r) S a w := by
  rw [wpMixC]
  simp only [ho, Bool.false_eq_true, if_false]
  exact ⟨v, .inl ⟨hw, fun w' hS => by rw [hrun w' hS]; exact ⟨rfl, rfl⟩⟩, h⟩
/-- A quiet call. -/
theorem mixc_quiet {i : Nat} {o : Oper} {r : List (Nat × Bool)} {a : Act} {w : World} (ho : ops[i]? = some o) (hw : Region.wanted o (yielded ops a.tmps) = true) {f : FuncId} {args : Array Value} (v : Value) (hc : ∀ W, (execOp a.eval o).run P W = .ok (.enter f args) W) (hrun : ∀ w', S w' → Calls P f args w' fun e w'' => e = .returned v ∧ w' = w'')
    (h : wpMixC P ops Q r S (a.put o.dst v) w) : wpMixC P ops Q ((i, false) :: r) S a w := by
  rw [wpMixC]
  simp only [ho, Bool.false_eq_true, if_false]
  exact ⟨v, .inl ⟨hw, fun w' hS => by rw [hc w']; exact ⟨rfl, (hrun w' hS).mono fun _ _ ⟨h1, h2⟩ => ⟨h1, h2.symm⟩⟩⟩, h⟩
/-- One that is not reached. -/
theorem mixc_skip {i : Nat} {o : Oper} {r : List (Nat × Bool)} {a : Act} {w : World} (ho : ops[i]? = some o) (hw : Region.wanted o (yielded ops a.tmps) = false) (h : wpMixC P ops Q r S (a.put o.dst undef) w) : wpMixC P ops Q ((i, false) :: r) S a w := by
  rw [wpMixC]
  simp only [ho, Bool.false_eq_true, if_false]
  exact ⟨undef, .inr ⟨hw, rfl⟩, h⟩
theorem mixc_skip1 {i : Nat} {o : Oper} {r : List (Nat × Bool)} {a : Act} {w : World} (ho : ops[i]? = some o) (hw : Region.wanted o (yielded ops a.tmps) = false) (hS : S w) (h : wpMixC P ops Q r S (a.put o.dst undef) w) : wpMixC P ops Q ((i, true) :: r) S a w := by
  rw [wpMixC]
  simp only [ho, if_true]
  unfold wpOne
  rw [if_neg (by rw [hw]; decide)]
  exact ⟨hS, S, fun _ h => h, hS, h⟩
theorem mixc_done {a : Act} {w : World} (h : Q .normal a w) : wpMixC P ops Q [] S a w := h
/-- One that comes up alone; what stood behind it stands from then on. -/
theorem mixc_call {i : Nat} {o : Oper} {r : List (Nat × Bool)} {W : World} {a : Act} {w : World} (ho : ops[i]? = some o) (hw : Region.wanted o (yielded ops a.tmps) = true)
    (h : ∀ K : Act → World → Prop, (∀ a' w', Below W.heap.size W w' → wpMixC P ops Q r (fun x => ∃ b : Later w', x = b.at') a' w' → K a' w') → o.wp P a w K Q) : wpMixC P ops Q ((i, true) :: r) (fun x => ∃ b : Later W, x = b.at') a w := by
  rw [wpMixC]
  simp only [ho, if_true]
  unfold wpOne
  rw [if_pos hw]
  exact .inl (h _ fun a' w' hb hn => ⟨⟨⟨w', hb⟩, rfl⟩, fun x => ∃ b : Later w', x = b.at', fun x ⟨b, e⟩ => ⟨⟨x, by subst e; exact hb.trans (b.below.mono hb.size)⟩, rfl⟩, ⟨⟨w', Below.refl _ _⟩, rfl⟩, hn⟩)
/-- The same; the facts of the beginning stay in use. -/
theorem mixc_call_as {i : Nat} {o : Oper} {r : List (Nat × Bool)} {W : World} {a : Act} {w : World} (ho : ops[i]? = some o) (hw : Region.wanted o (yielded ops a.tmps) = true)
    (h : ∀ K : Act → World → Prop, (∀ a' w', Below W.heap.size W w' → wpMixC P ops Q r (fun x => ∃ b : Later W, x = b.at') a' w' → K a' w') → o.wp P a w K Q) : wpMixC P ops Q ((i, true) :: r) (fun x => ∃ b : Later W, x = b.at') a w := by
  rw [wpMixC]
  simp only [ho, if_true]
  unfold wpOne
  rw [if_pos hw]
  exact .inl (h _ fun a' w' hb hn => ⟨⟨⟨w', hb⟩, rfl⟩, _, fun _ h => h, ⟨⟨w', hb⟩, rfl⟩, hn⟩)

/-- Q, but for what goes on. -/
def QK (K : Act → World → Prop) (Q : Exit → Act → World → Prop) : Exit → Act → World → Prop
  | .normal, a, w => K a w
  | e, a, w => Q e a w
theorem upon_QK {o : Oper} {a : Act} {K K' : Act → World → Prop} : ∀ {r : Result Next}, o.upon P a K (QK K' Q) r → o.upon P a K Q r
  | .ok (.value _) _, h => h
  | .ok .skip _, h => h
  | .ok (.defer _) _, h => h
  | .ok (.enter f args) w', h => by
    rw [Oper.upon_enter] at h ⊢
    refine Calls.mono h fun e w2 he => ?_
    match e, he with
    | .returned u, he => exact he
    | .panicked c, he => exact he
    | .outgrown, he => exact he
  | .ok (.row _ _) _, h => h
  | .halt (.panic _) _, h => h
/-- One that comes up alone, walked as in a region that does not draw. -/
theorem mixc_one {i : Nat} {o : Oper} {r : List (Nat × Bool)} {a : Act} {w : World} (ho : ops[i]? = some o)
    (h : ∀ K : Act → World → Prop, (∀ a' w', S w' → wpMixC P ops Q r S a' w' → K a' w') → wpList P ops (QK K Q) [o] a w) : wpMixC P ops Q ((i, true) :: r) S a w := by
  rw [wpMixC]
  simp only [ho, if_true]
  obtain ⟨K, hK⟩ : ∃ K : Act → World → Prop, K = fun a' w' => S w' ∧ ∃ S' : World → Prop, (∀ x, S' x → S x) ∧ S' w' ∧ wpMixC P ops Q r S' a' w' := ⟨_, rfl⟩
  rw [← hK]
  have h1 := h K (fun a' w' hs hm => by rw [hK]; exact ⟨hs, S, fun _ h => h, hs, hm⟩)
  unfold wpOne
  unfold wpList at h1
  split at h1
  · rename_i hw
    rw [if_pos hw]
    exact h1.imp (fun h2 => upon_QK h2) id
  · rename_i hw
    rw [if_neg hw]
    exact h1
end

end Go.Proofs.YteldghiejmpknaaDoor
