/-
  make with spare room that is known, and an append into it from the front.
-/
import Derived.Test.YtgdbdhfomlkpdaaBase
namespace Go.Proofs.Ytgdbdhfomlkpdaa
open Go.RowKit

section
variable {P : Program} {w : World} {base : Nat} {t e : TypeId} {z : Value} {size bytes : Nat} {A A2 : Option Addr} {n c m c2 : Nat} {xs ys zs : List Value}
variable {ops : Array Oper} {rest : List Oper} {o : Oper} {a : Act} {Q : Exit → Act → World → Prop}
/-- A row, its cells counted one by one. -/
theorem Own.flat (h : Own w base e size A n c xs) (hm : c * size ≤ maxLen) : Own w base e 1 A (n * size) (c * size) xs :=
  ⟨⟨by rw [Nat.mul_one]; exact h.rd.len, Nat.mul_le_mul_right _ h.rd.le, hm, fun e => by rw [h.rd.nil e, Nat.zero_mul], h.rd.cell⟩, fun a ha => by
    obtain ⟨h1, h2, cur, fr, hh, hs, hf⟩ := h.own a ha
    exact ⟨h1, h2, cur, fr, hh, by rwa [Nat.mul_one], by rwa [Nat.mul_one]⟩⟩
theorem Own.unflat (h : Own w base e 1 A (n * size) (c * size) xs) (hn : n ≤ c) (hm : c ≤ maxLen) (hnil : A = none → c = 0) : Own w base e size A n c xs :=
  ⟨⟨by simpa using h.rd.len, hn, hm, hnil, h.rd.cell⟩, fun a ha => by
    obtain ⟨h1, h2, cur, fr, hh, hs, hf⟩ := h.own a ha
    exact ⟨h1, h2, cur, fr, hh, by rwa [Nat.mul_one] at hs, by rwa [Nat.mul_one] at hf⟩⟩
/-- make([]T, n, c), its room too. -/
theorem wpList_mk_full (hgd : o.guard = none) (l d : Operand) (ho : o.op = Op.makeSlice t l d) (et : ElemT P t e z size bytes) {kl kc : IntKind} {L C : Int} (hl : a.eval l = .int kl L) (hc : a.eval d = .int kc C)
    (n c : Nat) (hL : L = n) (hC : C = c) (hnc : n ≤ c) (hb : c * bytes ≤ 140737488355328) (hm : c ≤ maxLen) (hbase : base ≤ w.heap.size)
    (k : ∀ w', Own w' base e size (some ⟨w.heap.size, 0, none⟩) c c (madeCells z.cells (c * size)).toList → w.grownBy w' none → w'.heap.size = w.heap.size + 1 → wpList P ops Q rest (a.put o.dst (.slice (some ⟨w.heap.size, 0, none⟩) n c)) w') :
    wpList P ops Q (o :: rest) a w := by
  refine wpList_plain hgd fun K hK => ?_
  obtain ⟨i, hi, hz, rfl, rfl⟩ := et.info
  subst hL
  subst hC
  have hr := run_make (P := P) w t e i z et.und hi hz kl kc (n : Int) (c : Int) (by omega) (by omega) (by
    have h : ((i.bytes * c : Nat) : Int) ≤ 281474976710656 := by rw [Nat.mul_comm]; omega
    rwa [Int.natCast_mul] at h) (by simp only [maxLen] at hm; omega)
  simp only [Int.toNat_natCast] at hr
  unfold Oper.wp
  simp [execOp, ho, hl, hc, hr, Result.andThen]
  refine hK _ _ (k _ ?_ ⟨rfl, rfl, rfl, by simp, fun g hg _ => Below.heap_alloc _ _ _ hg⟩ (by simp))
  exact Own.new w _ (0, 0) c c _ hbase (Nat.le_refl _) hm (by simp [size_madeCells]) (by simp [size_madeCells]) (fun j u hu => by simpa using hu) (fun j _ h => by omega)
/-- append onto a slice of length 0 with room enough. -/
theorem wpList_app_front (hgd : o.guard = none) (s x : Operand) (ho : o.op = .call { callee := .builtin .append, args := #[s, x], argTypes := #[t, t] }) (et : ElemT P t e z size bytes)
    (h : Own w base e size A c c zs) (hs : a.eval s = .slice A 0 c) (hr : Rd w size A2 m c2 ys) (hx : a.eval x = .slice A2 m c2) (h1 : ∀ u ∈ ys, u.oneCell' = true) (hroom : m ≤ c) (hc : 0 < c) (hmax : c * size ≤ maxLen)
    (k : ∀ w', Own w' base e size A c c (ys ++ zs.drop ys.length) → w.grownBy w' (blk A) → w'.heap.size = w.heap.size → wpList P ops Q rest (a.put o.dst (.slice A m c)) w') :
    wpList P ops Q (o :: rest) a w := by
  refine wpList_plain hgd fun K hK => ?_
  obtain ⟨i, hi, _, rfl, _⟩ := et.info
  have ht := et.und
  have hpos := et.pos
  have hyl := hr.len
  rcases A with _ | ⟨g, off, sp⟩
  · have := h.rd.nil rfl
    omega
  obtain ⟨hsp, hb, cur, fr, hh, hsz, hfr⟩ := h.own _ rfl
  dsimp only at hsp hb hh hsz hfr
  subst hsp
  have hmc : m * i.size ≤ c * i.size := Nat.mul_le_mul_right _ hroom
  have hm : ∀ W, (Builtin.lenOf (.slice A2 m c2)).run P W = .ok m W := fun W => by simp [Builtin.lenOf]
  have hf : (Builtin.firstCells i.size m (.slice A2 m c2)).run P w = .ok ys.toArray w := by
    cases A2 with
    | none =>
      have := hr.nil rfl
      have := hr.le
      have hm0 : m = 0 := by omega
      subst hm0
      have hy0 : ys = [] := List.eq_nil_of_length_eq_zero (by rw [hyl]; simp)
      subst hy0
      exact run_firstCells_none _ _ _ _ _
    | some a2 => exact run_firstCells_some (P := P) w i.size m a2 m c2 ys hyl (fun j v hv => hr.cell j v hv)
  have hst := run_storeCells_fr P g off e fr ys 0 cur w hh (by rw [hyl]; omega) (fun j h1 h2 => hfr j (by omega) (by rw [hyl] at h2; omega)) h1
  simp only [Nat.add_zero] at hst
  have hadd : (⟨g, off, none⟩ : Addr).add 0 = ⟨g, off, none⟩ := by unfold Addr.add; simp
  have hrun : (Builtin.append_ #[t, t] o.type #[.slice (some ⟨g, off, none⟩) 0 c, .slice A2 m c2]).run P w = .ok (.slice (some ⟨g, off, none⟩) m c) (w.setRow g (cur.toList.take off ++ ys ++ cur.toList.drop (off + ys.length)).toArray) := by
    simp [Builtin.append_, run_underlying ht, sizeOf, typeInfo, hi, hm, hroom, hf, hadd, hst]
  have ho2 := (h.flat hmax).storeAll ys (by rw [hyl]; exact hmc) g off rfl hh
  have ho3 := ho2.unflat (Nat.le_refl _) h.rd.max h.rd.nil
  unfold Oper.wp execOp
  simp only [ho, resolve, invoke, builtin, Sem.run_bind, Sem.run_pure, Result.andThen_ok, List.map_toArray, List.map_cons, List.map_nil, hs, hx, hrun]
  exact hK _ _ (k _ ho3 ⟨rfl, rfl, rfl, by simp, fun q _ hq => setRow_other w g q _ (fun e => hq (by simp [blk, e]))⟩ (by simp))
end

end Go.Proofs.Ytgdbdhfomlkpdaa
