import Derived.WalkKit
import Derived.Below
import Derived.Test.YtaeiaoldlebhaaaDoorW2
namespace Go.Proofs.YtaeiaoldlebhaaaDoor
open Go.RowKit

/-- A block of n cells, told by a function. -/
def fnObj (n : Nat) (f : Nat → Value) (T : TypeId) : Obj := .cells (Array.ofFn (n := n) fun i => f i.val) T (0, 0)
theorem fnObj_ext {n : Nat} {f g : Nat → Value} {T : TypeId} (h : ∀ i, i < n → f i = g i) : fnObj n f T = fnObj n g T := by
  unfold fnObj
  congr 1
  exact congrArg Array.ofFn (funext fun i => h i.val i.isLt)
theorem fn_cell {w : World} {b n : Nat} {f : Nat → Value} {T : TypeId} (h : w.heap[b]? = some (fnObj n f T)) {k : Nat} (hk : k < n) : w.cell? ⟨b, k, none⟩ = some (f k) := by
  simp [World.cell?, h, fnObj, hk]
theorem fn_free {w : World} {b n : Nat} {f : Nat → Value} {T : TypeId} (h : w.heap[b]? = some (fnObj n f T)) (k : Nat) : w.frozen? ⟨b, k, none⟩ = false := by
  simp [World.frozen?, h, fnObj]
theorem fn_set {w : World} {b n : Nat} {f : Nat → Value} {T : TypeId} (h : w.heap[b]? = some (fnObj n f T)) {k : Nat} (v : Value) : (w.setCell ⟨b, k, none⟩ v).heap[b]? = some (fnObj n (updF f k v) T) := by
  simp [World.setCell, Array.getElem?_modify, h, fnObj]
  refine Array.ext (by simp) (fun i h1 h2 => ?_)
  by_cases e : i = k
  · subst e; simp [updF]
  · have h3 : i < (Array.ofFn (n := n) fun i => f i.val).size := by simpa using h1
    rw [Array.getElem_setIfInBounds_ne h3 (fun e2 => e e2.symm)]
    simp [updF, e]

/-- A wheel's cells: the time, the orders, the map, seven levels of a word of bits and 64 slots. -/
def wheelF (now orders : Int) (M : Nat) (sm : Nat → Nat) (sv : Nat → Value) (k : Nat) : Value :=
  if k < 3 then (if k = 0 then .int .i64 now else if k = 1 then .int .i64 orders else .map (some M))
  else if (k - 3) % 65 = 0 then .int .u64 (sm ((k - 3) / 65) : Int) else sv ((k - 3) / 65 * 64 + ((k - 3) % 65 - 1))
theorem wheelF_sm {now orders : Int} {M : Nat} {sm : Nat → Nat} {sv : Nat → Value} {lv : Nat} : wheelF now orders M sm sv (3 + lv * 65) = .int .u64 (sm lv : Int) := by
  unfold wheelF
  rw [if_neg (by omega), if_pos (by omega), show (3 + lv * 65 - 3) / 65 = lv from by omega]
theorem wheelF_sv {now orders : Int} {M : Nat} {sm : Nat → Nat} {sv : Nat → Value} {lv s : Nat} (hs : s < 64) : wheelF now orders M sm sv (3 + lv * 65 + 1 + s) = sv (lv * 64 + s) := by
  unfold wheelF
  rw [if_neg (by omega), if_neg (by omega)]
  congr 1
  omega
theorem wheelF_setSm {now orders : Int} {M : Nat} {sm : Nat → Nat} {sv : Nat → Value} {lv : Nat} (v : Nat) (k : Nat) : updF (wheelF now orders M sm sv) (3 + lv * 65) (.int .u64 (v : Int)) k = wheelF now orders M (updF sm lv v) sv k := by
  unfold updF
  by_cases e : k = 3 + lv * 65
  · subst e
    rw [if_pos rfl, wheelF_sm, if_pos rfl]
  · rw [if_neg e]
    unfold wheelF
    split
    · rfl
    · split
      · dsimp only; rw [if_neg (by omega)]
      · rfl
theorem wheelF_setSv {now orders : Int} {M : Nat} {sm : Nat → Nat} {sv : Nat → Value} {lv s : Nat} (hs : s < 64) (v : Value) (k : Nat) : updF (wheelF now orders M sm sv) (3 + lv * 65 + 1 + s) v k = wheelF now orders M sm (updF sv (lv * 64 + s) v) k := by
  unfold updF
  by_cases e : k = 3 + lv * 65 + 1 + s
  · subst e
    rw [if_pos rfl, wheelF_sv hs, if_pos rfl]
  · rw [if_neg e]
    unfold wheelF
    split
    · rfl
    · split
      · rfl
      · dsimp only; rw [if_neg (by omega)]
theorem wheelF_setNow {now orders : Int} {M : Nat} {sm : Nat → Nat} {sv : Nat → Value} (v : Int) (k : Nat) : updF (wheelF now orders M sm sv) 0 (.int .i64 v) k = wheelF v orders M sm sv k := by
  unfold updF wheelF
  by_cases e : k = 0
  · subst e; rfl
  · rw [if_neg e]
    split
    · rfl
    · rfl
theorem wheelF_setOrders {now orders : Int} {M : Nat} {sm : Nat → Nat} {sv : Nat → Value} (v : Int) (k : Nat) : updF (wheelF now orders M sm sv) 1 (.int .i64 v) k = wheelF now v M sm sv k := by
  unfold updF wheelF
  by_cases e : k = 1
  · subst e; rfl
  · rw [if_neg e]
    split
    · by_cases e0 : k = 0
      · rw [if_pos e0]
      · rw [if_neg e0]
    · rfl
def wheelObj (T : TypeId) (now orders : Int) (M : Nat) (sm : Nat → Nat) (sv : Nat → Value) : Obj := fnObj 458 (wheelF now orders M sm sv) T
section
variable {w : World} {W M : Nat} {T : TypeId} {now orders : Int} {sm : Nat → Nat} {sv : Nat → Value}
theorem wh_now (h : w.heap[W]? = some (wheelObj T now orders M sm sv)) : w.cell? ⟨W, 0, none⟩ = some (.int .i64 now) := fn_cell h (by omega)
theorem wh_orders (h : w.heap[W]? = some (wheelObj T now orders M sm sv)) : w.cell? ⟨W, 1, none⟩ = some (.int .i64 orders) := fn_cell h (by omega)
theorem wh_map (h : w.heap[W]? = some (wheelObj T now orders M sm sv)) : w.cell? ⟨W, 2, none⟩ = some (.map (some M)) := fn_cell h (by omega)
theorem wh_sm (h : w.heap[W]? = some (wheelObj T now orders M sm sv)) {lv : Nat} (hl : lv < 7) : w.cell? ⟨W, 3 + lv * 65, none⟩ = some (.int .u64 (sm lv : Int)) := by
  rw [fn_cell h (by omega), wheelF_sm]
theorem wh_sv (h : w.heap[W]? = some (wheelObj T now orders M sm sv)) {lv s : Nat} (hl : lv < 7) (hs : s < 64) : w.cell? ⟨W, 3 + lv * 65 + 1 + s, none⟩ = some (sv (lv * 64 + s)) := by
  rw [fn_cell h (by omega), wheelF_sv hs]
theorem wh_free (h : w.heap[W]? = some (wheelObj T now orders M sm sv)) (k : Nat) : w.frozen? ⟨W, k, none⟩ = false := fn_free h k
theorem wh_setNow (h : w.heap[W]? = some (wheelObj T now orders M sm sv)) (v : Int) : (w.setCell ⟨W, 0, none⟩ (.int .i64 v)).heap[W]? = some (wheelObj T v orders M sm sv) := by
  rw [fn_set h]; exact congrArg some (fnObj_ext fun k _ => wheelF_setNow v k)
theorem wh_setOrders (h : w.heap[W]? = some (wheelObj T now orders M sm sv)) (v : Int) : (w.setCell ⟨W, 1, none⟩ (.int .i64 v)).heap[W]? = some (wheelObj T now v M sm sv) := by
  rw [fn_set h]; exact congrArg some (fnObj_ext fun k _ => wheelF_setOrders v k)
theorem wh_setSm (h : w.heap[W]? = some (wheelObj T now orders M sm sv)) (lv v : Nat) : (w.setCell ⟨W, 3 + lv * 65, none⟩ (.int .u64 (v : Int))).heap[W]? = some (wheelObj T now orders M (updF sm lv v) sv) := by
  rw [fn_set h]; exact congrArg some (fnObj_ext fun k _ => wheelF_setSm v k)
theorem wh_setSv (h : w.heap[W]? = some (wheelObj T now orders M sm sv)) (lv : Nat) {s : Nat} (hs : s < 64) (v : Value) : (w.setCell ⟨W, 3 + lv * 65 + 1 + s, none⟩ v).heap[W]? = some (wheelObj T now orders M sm (updF sv (lv * 64 + s) v)) := by
  rw [fn_set h]; exact congrArg some (fnObj_ext fun k _ => wheelF_setSv hs v k)
end
end Go.Proofs.YtaeiaoldlebhaaaDoor
