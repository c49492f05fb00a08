/-
  Package target: rows of strings, rows of parameters, targets as values.
-/
import Derived.Test.YteldghiejmpknaaDoorTaG
import Derived.Test.YteldghiejmpknaaDoorTaF
import Derived.Test.YteldghiejmpknaaDoorMxA
import Derived.Test.YteldghiejmpknaaDoorCut1
namespace Go.Proofs.YteldghiejmpknaaDoor
open Go.RowKit

def strV (l : List UInt8) : Value := .string ⟨l.toArray⟩
theorem strV_one (l : List (List UInt8)) : ∀ u ∈ l.map strV, u.oneCell' = true := by
  intro u hu
  obtain ⟨_, _, rfl⟩ := List.mem_map.1 hu
  rfl
theorem es : ElemT Tryd.prog 23 9 (.string ByteArray.empty) 1 16 := ElemT.of Tryd.underlying23 (by kernel_rfl) rfl (by omega)
theorem split1_le (c : UInt8) : ∀ l, (split1 c l).length ≤ l.length + 1 ∧ ∀ p ∈ split1 c l, p.length ≤ l.length
  | [] => ⟨by simp [split1], fun p hp => by simp [split1] at hp; simp [hp]⟩
  | x :: l => by
    obtain ⟨h1, h2⟩ := split1_le c l
    rw [split1]
    split
    · refine ⟨by simpa using h1, fun p hp => ?_⟩
      rcases List.mem_cons.1 hp with rfl | hp
      · simp
      · have := h2 p hp
        simp
        omega
    · split
      · rename_i q ps hq
        rw [hq] at h1 h2
        refine ⟨by simp at h1 ⊢; omega, fun p hp => ?_⟩
        rcases List.mem_cons.1 hp with rfl | hp
        · have := h2 q (by simp)
          simpa using this
        · have := h2 p (by simp [hp])
          simp
          omega
      · refine ⟨by simp, fun p hp => ?_⟩
        obtain rfl : p = [x] := by simpa using hp
        simp

/-! ### parameters -/
def prA (a b : List UInt8) : Array Value := #[strV a, strV b]
def prL : List Pm → List Value
  | [] => []
  | f :: fs => strV f.1 :: strV f.2 :: prL fs
theorem prL_len : ∀ fs, (prL fs).length = fs.length * 2
  | [] => rfl
  | f :: fs => by
    have := prL_len fs
    simp only [prL, List.length_cons, this]
    omega
theorem prL_app : ∀ a b : List Pm, prL (a ++ b) = prL a ++ prL b
  | [], b => rfl
  | f :: a, b => by simp only [List.cons_append, prL, prL_app a b]
theorem prL_at : ∀ (fs : List Pm) (k : Nat) (f : Pm), fs[k]? = some f → (prL fs)[k * 2]? = some (strV f.1) ∧ (prL fs)[k * 2 + 1]? = some (strV f.2)
  | [], k, f, h => by simp at h
  | g :: fs, 0, f, h => by
    obtain rfl : g = f := by simpa using h
    exact ⟨rfl, rfl⟩
  | g :: fs, k + 1, f, h => by
    have := prL_at fs k f (by simpa using h)
    rw [show (k + 1) * 2 = k * 2 + 1 + 1 by omega]
    exact this
theorem prL_one : ∀ (l : List Pm), ∀ u ∈ prL l, u.oneCell' = true
  | [], u, hu => by cases hu
  | f :: l, u, hu => by
    rcases List.mem_cons.1 hu with rfl | hu
    · rfl
    · rcases List.mem_cons.1 hu with rfl | hu
      · rfl
      · exact prL_one l u hu
theorem ep : ElemT Tryd.prog 24 32 (.agg (prA [] [])) 2 32 := ElemT.of Tryd.underlying24 (by kernel_rfl) rfl (by omega)
theorem size_pr (a b : List UInt8) : (Tryd.prog.info? 32).map (·.size) = some (prA a b).size := by
  rw [show (prA a b).size = 2 from rfl]
  kernel_rfl
theorem zero_pr : (Tryd.prog.info? 32).map (·.zero) = some (some (.agg (prA [] []))) := by kernel_rfl
theorem pr_one (a b : List UInt8) : ∀ v ∈ (prA a b).toList, v.oneCell' = true := by
  intro v hv
  simp [prA] at hv
  rcases hv with rfl | rfl <;> rfl
/-- A slice of strings, read; a slice of parameters, read. -/
abbrev Ss (w : World) (A : Option Addr) (n c : Nat) (l : List (List UInt8)) : Prop := Rd w 1 A n c (l.map strV)
def Ps (w : World) (A : Option Addr) (n c : Nat) (l : List Pm) : Prop := Rd w 2 A n c (prL l)
section
variable {w w' : World} {A : Option Addr} {n c : Nat} {fs : List Pm}
theorem Ps.len (h : Ps w A n c fs) : fs.length = n := by
  have := Rd.len h
  rw [prL_len] at this
  omega
theorem Ps.below (h : Ps w A n c fs) (hb : Below w.heap.size w w') : Ps w' A n c fs := Rd.below h hb
theorem Ps.name (h : Ps w A n c fs) {k : Nat} {f : Pm} (hx : fs[k]? = some f) : w.cell? (at_ A (k * 2)) = some (strV f.1) := Rd.cell h _ _ (prL_at fs k f hx).1
theorem Ps.value (h : Ps w A n c fs) {k : Nat} {f : Pm} (hx : fs[k]? = some f) : w.cell? (at_ A (k * 2 + 1)) = some (strV f.2) := Rd.cell h _ _ (prL_at fs k f hx).2
theorem at_add2 (A : Option Addr) (m j : Nat) : (at_ A m).add j = at_ A (m + j) := by
  unfold at_
  exact add_of_add _ _ _
theorem Ps.load (h : Ps w A n c fs) {k : Nat} {f : Pm} (hx : fs[k]? = some f) : (loadVar 32 (at_ A (k * 2))).run Tryd.prog w = .ok (.agg (prA f.1 f.2)) w := by
  have hl := run_loadCells_list (P := Tryd.prog) w (at_ A (k * 2)) [strV f.1, strV f.2] (fun j v hv => by
    rw [at_add2]
    match j, hv with
    | 0, hv => obtain rfl := Option.some.inj hv; exact h.name hx
    | 1, hv => obtain rfl := Option.some.inj hv; exact h.value hx)
  have e : [strV f.1, strV f.2].length = 2 := rfl
  rw [e] at hl
  simp [loadVar, isAgg, run_underlying Tryd.underlying32, sizeOf_run (size_pr [] []), hl, prA, strV]
theorem Ps.idx (h : Ps w A n c fs) {k : Nat} (hk : k < n) (W : World) : (Instr.indexAt 24 (.slice A n c) (.int .i64 (k : Int))).run Tryd.prog W = .ok (.pointer (some (at_ A (k * 2)))) W :=
  run_index_rd ep (Rd.nil h) (Rd.le h) k hk W
theorem cell_pr {g : Nat} {a b : List UInt8} {t : TypeId} {fr : Nat × Nat} (h : w.heap[g]? = some (.cells (prA a b) t fr)) : w.cell? ⟨g, 0, none⟩ = some (.string ⟨a.toArray⟩) ∧ w.cell? ⟨g, 1, none⟩ = some (.string ⟨b.toArray⟩) := by
  constructor <;> (simp only [World.cell?, h]; rfl)
end
section
variable {ops : Array Oper} {rest : List Oper} {o : Oper} {a : Act} {Q : Exit → Act → World → Prop} {w : World}
theorem fill_pr (x y : List UInt8) : Instr.fill (fun i => some (i * 2, 2)) ((Array.range (1 * 2)).map ((Value.agg (prA [] [])).cells[· % (Value.agg (prA [] [])).cells.size]!)) [(0, .agg (prA x y))] = some (prA x y) := by kernel_rfl
theorem wpList_litP {x : Operand} {u v : List UInt8} (hgd : o.guard = none) (ho : o.op = .buildSlice 24 1 #[(0, x)]) (hx : a.eval x = .agg (prA u v))
    (k : ∀ w', w' = w.alloc (.cells (prA u v) 32) → wpList Tryd.prog ops Q rest (a.put o.dst (.slice (some ⟨w.heap.size, 0, none⟩) 1 1)) w') : wpList Tryd.prog ops Q (o :: rest) a w := by
  obtain ⟨ie, hie, hz, hs, _⟩ := ep.info
  refine wpList_buildSlice hgd 24 32 1 _ ho (prA u v) ie (.agg (prA [] [])) Tryd.underlying24 hie hz (by rw [hs]; decide) (by rw [hs]; decide) ?_ (k _ rfl)
  rw [hs]
  have e : ((#[(0, x)] : Array (Nat × Operand)).map fun (i, x) => (i, a.eval x)).toList = [(0, Value.agg (prA u v))] := by
    simp [hx]
  rw [e]
  exact fill_pr u v
theorem litP_own {w w' : World} {c0 : Array Value} {base : Nat} {t e : TypeId} {size : Nat} {A : Option Addr} {n c : Nat} {xs : List Value} (h : w' = w.alloc (.cells c0 t)) (ho : Own w base e size A n c xs) : Own w' base e size A n c xs := by
  rw [h]
  exact ho.alloc _
theorem litP_rd {w w' : World} {u v : List UInt8} {t : TypeId} (h : w' = w.alloc (.cells (prA u v) t)) : Rd w' 2 (some ⟨w.heap.size, 0, none⟩) 1 1 (prL [(u, v)]) := by
  rw [h]
  exact (Own.new (e := t) (size := 2) (base := w.heap.size) w (prA u v) (0, 0) 1 1 _ (Nat.le_refl _) (Nat.le_refl _) (by unfold maxLen; omega) rfl (Nat.le_refl 2) (fun j y hy => by
    match j, hy with
    | 0, hy => exact hy
    | 1, hy => exact hy) (fun j _ h => by omega)).rd
theorem litP_below {w0 w w' : World} {c0 : Array Value} {B : Nat} {t : TypeId} (h : w' = w.alloc (.cells c0 t)) (hb : Below B w0 w) (hB : B ≤ w.heap.size) : Below B w0 w' := by
  rw [h]
  exact hb.alloc hB _
end

/-! ### targets -/
def tgA (A : Option Addr) (n c : Nat) (B : Option Addr) (m d : Nat) : Array Value := #[.slice A n c, .slice B m d]
def tgZ : Array Value := tgA none 0 0 none 0 0
theorem zero_tg : (Tryd.prog.info? 26).map (·.zero) = some (some (.agg tgZ)) := by kernel_rfl
theorem size_tg0 : (Tryd.prog.info? 26).map (·.size) = some 2 := by kernel_rfl
section
variable {A B : Option Addr} {n c m d : Nat}
theorem size_tg : (Tryd.prog.info? 26).map (·.size) = some (tgA A n c B m d).size := size_tg0
theorem tg_one : ∀ v ∈ (tgA A n c B m d).toList, v.oneCell' = true := by
  intro v hv
  simp [tgA] at hv
  rcases hv with rfl | rfl <;> rfl
theorem cell_tg {w : World} {g : Nat} {t : TypeId} {fr : Nat × Nat} (h : w.heap[g]? = some (.cells (tgA A n c B m d) t fr)) : w.cell? ⟨g, 0, none⟩ = some (.slice A n c) ∧ w.cell? ⟨g, 1, none⟩ = some (.slice B m d) := by
  constructor <;> (simp only [World.cell?, h]; rfl)
end

end Go.Proofs.YteldghiejmpknaaDoor
