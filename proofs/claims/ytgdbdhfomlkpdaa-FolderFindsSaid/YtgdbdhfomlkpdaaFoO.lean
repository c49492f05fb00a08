/-
  Items held against each other; the document's Alike; Light.
-/
import Derived.Test.YtgdbdhfomlkpdaaFoF
import Derived.Test.YtgdbdhfomlkpdaaMixD
namespace Go.Proofs.Ytgdbdhfomlkpdaa
open Go.RowKit

/-- Are two items the same? -/
def itEq (x y : It) : Bool := (x.nm.toList == y.nm.toList) && ((x.kd == y.kd) && ((x.id == y.id) && (x.sz == y.sz)))
theorem itEq_self (x : It) : itEq x x = true := by simp [itEq]
theorem itEq_eq {x y : It} (h : itEq x y = true) : x = y := by
  obtain ⟨n1, k1, i1, s1⟩ := x
  obtain ⟨n2, k2, i2, s2⟩ := y
  simp only [itEq, Bool.and_eq_true, beq_iff_eq] at h
  obtain ⟨h1, rfl, rfl, rfl⟩ := h
  rw [ByteArray.toList_eq, ByteArray.toList_eq] at h1
  have : n1 = n2 := by
    apply ByteArray.ext
    apply Array.ext'
    exact h1
  rw [this]
theorem itEq_iff (x y : It) : itEq x y = true ↔ x = y := ⟨itEq_eq, fun h => h ▸ itEq_self x⟩
section
variable {x y : It}
theorem part_name (W : World) : (part 9 (itA x) 0).run Try.prog W = .ok (.string x.nm) W := by
  simp [part, isAgg, run_underlying Try.underlying9, itA, itL]
theorem part_kind (W : World) : (part 3 (itA x) 1).run Try.prog W = .ok (.int .i64 x.kd) W := by
  simp [part, isAgg, run_underlying Try.underlying3, itA, itL]
theorem part_size (h : ItOk x) (W : World) : (part 2 (itA x) 34).run Try.prog W = .ok (.int .i64 x.sz) W := by
  have e : (itA x)[34]? = some (.int .i64 x.sz) := by simp only [itA, List.getElem?_toArray]; exact itL_size h
  simp [part, isAgg, run_underlying Try.underlying2, e]
theorem part_id (h : ItOk x) (W : World) : (part 31 (itA x) 2).run Try.prog W = .ok (.agg (x.id.map Extern.Stop.cell).toArray) W := by
  have hz : (sizeOf 31).run Try.prog W = .ok 32 W := sizeOf_run (by kernel_rfl) W
  have hl : (x.id.map b8).length = 32 := by simpa using h.len
  have e0 : (x.id.map b8 ++ [Value.int .i64 x.sz]).take 32 = x.id.map b8 := by
    rw [← hl]
    exact List.take_left
  have e : (itA x).extract 2 34 = (x.id.map Extern.Stop.cell).toArray := by
    apply Array.ext'
    rw [Array.toList_extract, List.extract_eq_take_drop]
    exact e0
  simp [part, isAgg, run_underlying Try.underlying31, hz, e]
theorem equal_it (hx : ItOk x) (hy : ItOk y) (W : World) : (Op.equalIn 10000 33 (.agg (itA x)) (.agg (itA y))).run Try.prog W = .ok (itEq x y) W := by
  have hS : Try.prog.underlying 33 = some (.struct (Try.prog.fieldsOf 33)) := by kernel_rfl
  have hp : Try.prog.stoodInHeld 33 = false := by kernel_rfl
  have hb : (Op.equalIn 9999 31 (.agg (x.id.map Extern.Stop.cell).toArray) (.agg (y.id.map Extern.Stop.cell).toArray)).run Try.prog W = .ok (x.id == y.id) W :=
    run_equalIn_bytes W 9997 31 5 32 Try.underlying31 Try.underlying5 (fun w => sizeOf_run (by kernel_rfl) w) x.id y.id hx.len hy.len
  have h1 : (Op.equalIn 9999 9 (.string x.nm) (.string y.nm)).run Try.prog W = .ok (x.nm.toList == y.nm.toList) W := run_equalIn_string W 9998 9 x.nm y.nm Try.underlying9
  have h2 : (Op.equalIn 9999 3 (.int .i64 x.kd) (.int .i64 y.kd)).run Try.prog W = .ok (x.kd == y.kd) W := run_equalIn_int W 9998 3 .i64 .i64 x.kd y.kd Try.underlying3
  have h4 : (Op.equalIn 9999 2 (.int .i64 x.sz) (.int .i64 y.sz)).run Try.prog W = .ok (x.sz == y.sz) W := run_equalIn_int W 9998 2 .i64 .i64 x.sz y.sz Try.underlying2
  rw [show (10000 : Nat) = 9999 + 1 from rfl, run_equalIn_agg W 9999 33 _ _ hS hp]
  simp only [Program.fieldsOf, Try.underlying33]
  unfold itEq
  generalize (x.nm.toList == y.nm.toList) = B1 at *
  generalize (x.kd == y.kd) = B2 at *
  generalize (x.id == y.id) = B3 at *
  generalize (x.sz == y.sz) = B4 at *
  cases B1 <;> cases B2 <;> cases B3 <;> cases B4 <;> simp [Op.eqFields, part_name, part_kind, part_size hx, part_size hy, part_id hx, part_id hy, hb, h1, h2, h4, Result.andThen]
theorem eql_it (hx : ItOk x) (hy : ItOk y) (W : World) : (binOp .eql 33 (.agg (itA x)) (.agg (itA y))).run Try.prog W = .ok (.bool (itEq x y)) W := by
  rw [run_eql_struct, equal_it hx hy]
  rfl
theorem neq_it (hx : ItOk x) (hy : ItOk y) (W : World) : (binOp .neq 33 (.agg (itA x)) (.agg (itA y))).run Try.prog W = .ok (.bool (!itEq x y)) W := by
  rw [run_neq_struct, equal_it hx hy]
  rfl
end
section
variable {ops : Array Oper} {rest : List Oper} {o : Oper} {a : Act} {Q : Exit → Act → World → Prop} {w : World} {x y : It}
theorem wpList_eql_it (hw : Region.wanted o (yielded ops a.tmps) = true) (u v : Operand) (ho : o.op = .binOp .eql 33 u v 33) (hx : ItOk x) (hy : ItOk y) (hu : a.eval u = .agg (itA x)) (hv : a.eval v = .agg (itA y))
    (k : wpList Try.prog ops Q rest (a.put o.dst (.bool (itEq x y))) w) : wpList Try.prog ops Q (o :: rest) a w := by
  refine wpList_taken hw fun K hK => ?_
  have hg := run_eqGuard_agg (P := Try.prog) w .eql 33 u v (itA x) (itA y) (by kernel_rfl)
  unfold Oper.wp execOp
  simp only [ho, hu, hv, Sem.run_bind, Sem.run_pure, Result.andThen_ok, hg, eql_it hx hy w]
  exact hK _ _ k
theorem wpList_neq_it (hw : Region.wanted o (yielded ops a.tmps) = true) (u v : Operand) (ho : o.op = .binOp .neq 33 u v 33) (hx : ItOk x) (hy : ItOk y) (hu : a.eval u = .agg (itA x)) (hv : a.eval v = .agg (itA y))
    (k : wpList Try.prog ops Q rest (a.put o.dst (.bool (!itEq x y))) w) : wpList Try.prog ops Q (o :: rest) a w := by
  refine wpList_taken hw fun K hK => ?_
  have hg := run_eqGuard_agg (P := Try.prog) w .neq 33 u v (itA x) (itA y) (by kernel_rfl)
  unfold Oper.wp execOp
  simp only [ho, hu, hv, Sem.run_bind, Sem.run_pure, Result.andThen_ok, hg, neq_it hx hy w]
  exact hK _ _ k
theorem plan_neq_it {S : World → Prop} {i : Nat} {o : Oper} {p : MPlan} {a : Act} {w : World} (ho : ops[i]? = some o) {u v : Operand} (hop : o.op = .binOp .neq 33 u v 33) (hw : Region.wanted o (yielded ops a.tmps) = true) (hx : ItOk x) (hy : ItOk y) (hu : a.eval u = .agg (itA x)) (hv : a.eval v = .agg (itA y))
    (h : wpPlan Try.prog ops Q S p (a.put o.dst (.bool (!itEq x y))) w) : wpPlan Try.prog ops Q S (.read i p) a w :=
  plan_run ho hw _ (fun w' _ => by
    have hg := run_eqGuard_agg (P := Try.prog) w' .neq 33 u v (itA x) (itA y) (by kernel_rfl)
    unfold execOp
    simp only [hop, hu, hv, Sem.run_bind, Sem.run_pure, Result.andThen_ok, hg, neq_it hx hy w']) h
end



set_option maxRecDepth 20000 in
set_option maxHeartbeats 4000000 in
theorem Alike_any {w : World} {A A2 : Option Addr} {n c n2 c2 : Nat} {l m : List It} (h : Its w A n c l) (h2 : Its w A2 n2 c2 m) :
    Calls Try.prog 15 #[.slice A n c, .slice A2 n2 c2] w fun e w' => e = .returned (.bool (@decide (l = m) (Classical.propDecidable _))) ∧ Below w.heap.size w w' := by
  have hl := h.len
  have hl2 := h2.len
  have hmx : n ≤ maxLen := Nat.le_trans h.rd.le h.rd.max
  unfold maxLen at hmx
  by_cases hn : n = n2
  · subst hn
    have HL := Lib.hid hl
    have HL2 := Lib.hid hl2
    clear hl hl2
    go_enter Try.func15, Try.ntmps15
    go_wp2_with fail
    go_loopw [5] (fun i wr => ∃ k : Nat, k ≤ n ∧ i = .int .i64 k ∧ Below w.heap.size w wr ∧ Hid (l.take k = m.take k)) (fun i _ => n - (intOf i).toNat)
    case atStart => exact ⟨0, by omega, rfl, Below.refl _ _, rfl⟩
    case round =>
      obtain ⟨k, hk, rfl, hb, hH⟩ := hrel
      by_cases hlt : k < n
      · have hr := h.below hb
        have hr2 := h2.below hb
        obtain ⟨x, hx, hxo, hidx⟩ := hr.at (k : Int) k rfl hlt
        obtain ⟨y, hy, hyo, hidy⟩ := hr2.at (k : Int) k rfl hlt
        have hlx := fun b : Later wr => (hr.below b.below).load hx.out
        have hly := fun b : Later wr => (hr2.below b.below).load hy.out
        go_wp2_with fail
        refine wp_region_plan (MPlan.reads [0, 1, 2, 3, 4, 5, 6, 7, 8] .fin) (fun x => ∃ b : Later wr, x = b.at') (by kernel_rfl) (by kernel_rfl) (by kernel_rfl) (fun _ _ _ _ _ h => h) ⟨⟨wr.drew, (Below.refl _ _).drew⟩, rfl⟩ ?_
        iterate 3 (refine plan_read (o := ⟨_, _, _, _, _, _⟩) (by rfl) (by rfl) ?_; go_big_quiet_step (fail); refine wpQuiet_nil ?_)
        refine plan_load (o := ⟨_, _, _, _, _, _⟩) (by rfl) rfl (by rfl) _ rfl _ (fun w' hS => by obtain ⟨b, rfl⟩ := hS; exact hlx b) ?_
        simp only [Act.put, List.setIfInBounds_toArray, List.set_cons_succ, List.set_cons_zero]
        iterate 3 (refine plan_read (o := ⟨_, _, _, _, _, _⟩) (by rfl) (by rfl) ?_; go_big_quiet_step (fail); refine wpQuiet_nil ?_)
        refine plan_load (o := ⟨_, _, _, _, _, _⟩) (by rfl) rfl (by rfl) _ rfl _ (fun w' hS => by obtain ⟨b, rfl⟩ := hS; exact hly b) ?_
        simp only [Act.put, List.setIfInBounds_toArray, List.set_cons_succ, List.set_cons_zero]
        refine plan_neq_it (o := ⟨_, _, _, _, _, _⟩) (by rfl) rfl (by rfl) hxo hyo rfl rfl ?_
        simp only [Act.put, List.setIfInBounds_toArray, List.set_cons_succ, List.set_cons_zero]
        refine plan_fin ?_
        clear hlx hly
        have hb2 := hb.drew
        by_cases he : itEq x y = true
        · have hxy := itEq_eq he
          have HS : Hid (l.take (k + 1) = m.take (k + 1)) := by
            show _ = _
            have h1 := hx.out
            have h3 := hy.out
            obtain ⟨a1, a2⟩ := List.getElem?_eq_some_iff.1 h1
            obtain ⟨b1, b2⟩ := List.getElem?_eq_some_iff.1 h3
            rw [List.take_succ_eq_append_getElem a1, List.take_succ_eq_append_getElem b1, hH.out, a2, b2, hxy]
          rw [he]
          clear he hxy hH hx hy
          go_wp2_with fail
          go_roundw
          case rel => exact ⟨k + 1, by omega, by go_num, hb2, HS.out⟩
          case measure => simp [intOf]; omega
        · have he' : itEq x y = false := by simpa using he
          have HN : Hid (¬ l = m) := by
            show ¬ _
            intro e
            subst e
            have := Option.some.inj (hx.out.symm.trans hy.out)
            exact he ((itEq_iff x y).2 this)
          rw [he']
          clear he he' hH hx hy
          go_wp2_with fail
          go_ret
          rw [@decide_eq_false _ (Classical.propDecidable _) HN.out]
          exact ⟨rfl, hb2⟩
      · have e : k = n := by omega
        subst e
        have hlm : l = m := by
          have := hH.out
          rwa [List.take_of_length_le (by rw [HL.out]; exact Nat.le_refl _), List.take_of_length_le (by rw [HL2.out]; exact Nat.le_refl _)] at this
        have HY := Lib.hid (@decide_eq_true _ (Classical.propDecidable _) hlm)
        clear hlm hH
        go_wp2_with fail
        go_ret
        rw [HY.out]
        exact ⟨rfl, hb⟩
  · have HN := Lib.hid (@decide_eq_false (l = m) (Classical.propDecidable _) (fun e => hn (by rw [← hl, ← hl2, e])))
    have hne : decide (n = n2) = false := decide_eq_false hn
    have hne2 : ((n : Int) != (n2 : Int)) = true := by
      simp
      omega
    clear hl hl2 hn
    go_enter Try.func15, Try.ntmps15
    go_wp2_with fail
    go_ret
    rw [HN.out]
    exact ⟨rfl, Below.refl _ _⟩

/-- Are items not too great? -/
def lightL (l : List It) : Bool := decide (l.length ≤ 100) && l.all fun x => decide (x.nm.size ≤ 200)
set_option maxRecDepth 20000 in
set_option maxHeartbeats 2000000 in
theorem Light_any {w : World} {A : Option Addr} {n c : Nat} {l : List It} (h : Its w A n c l) :
    Calls Try.prog 10 #[.slice A n c] w fun e w' => e = .returned (.bool (lightL l)) ∧ w = w' := by
  have hl := h.len
  by_cases h1 : (100 : Int) < n
  · have HN : Hid (lightL l = false) := by
      show _ = _
      unfold lightL
      rw [decide_eq_false (by omega)]
      rfl
    clear hl
    go_enter Try.func10, Try.ntmps10
    go_wp2_with fail
    go_ret
    rw [HN.out]
    exact ⟨rfl, rfl⟩
  have h1' : (n : Int) ≤ 100 := by omega
  have HL := Lib.hid hl
  clear h1 hl
  go_enter Try.func10, Try.ntmps10
  go_wp2_with fail
  go_loop [3] (fun i => ∃ k : Nat, k ≤ n ∧ i = .int .i64 k ∧ Hid (∀ x ∈ l.take k, x.nm.size ≤ 200)) (fun i => n - (intOf i).toNat)
  case atStart => exact ⟨0, by omega, rfl, (show ∀ x ∈ l.take 0, _ from fun x hx => by simp at hx)⟩
  case round =>
    obtain ⟨k, hk, rfl, hH⟩ := hrel
    by_cases hlt : k < n
    · obtain ⟨x, hx, hxo, hidx⟩ := h.at (k : Int) k rfl hlt
      have hname := h.name hx.out
      by_cases hs : (200 : Int) < x.nm.size
      · have HN : Hid (lightL l = false) := by
          show _ = _
          unfold lightL
          rw [Bool.and_eq_false_iff]
          right
          rw [List.all_eq_false]
          exact ⟨x, List.mem_of_getElem? hx.out, by simp; omega⟩
        clear hH
        go_wp2_with fail
        go_ret
        rw [HN.out]
        exact ⟨rfl, rfl⟩
      · have hs' : (x.nm.size : Int) ≤ 200 := by omega
        have HS : Hid (∀ y ∈ l.take (k + 1), y.nm.size ≤ 200) := by
          show ∀ _, _
          intro y hy
          obtain ⟨a1, a2⟩ := List.getElem?_eq_some_iff.1 hx.out
          rw [List.take_succ_eq_append_getElem a1, a2] at hy
          rcases List.mem_append.1 hy with hy | hy
          · exact hH.out y hy
          · obtain rfl : y = x := by simpa using hy
            omega
        clear hH hs
        go_wp2_with fail
        exact ⟨⟨k + 1, by omega, by go_num, HS.out⟩, by simp [intOf]; omega⟩
    · have e : k = n := by omega
      subst e
      have HY : Hid (lightL l = true) := by
        show _ = _
        unfold lightL
        rw [decide_eq_true (by rw [HL.out]; omega), Bool.true_and, List.all_eq_true]
        intro x hx
        have := hH.out x (by rw [List.take_of_length_le (by rw [HL.out]; exact Nat.le_refl _)]; exact hx)
        simpa using this
      clear hH
      go_wp2_with fail
      go_ret
      rw [HY.out]
      exact ⟨rfl, rfl⟩

end Go.Proofs.Ytgdbdhfomlkpdaa
