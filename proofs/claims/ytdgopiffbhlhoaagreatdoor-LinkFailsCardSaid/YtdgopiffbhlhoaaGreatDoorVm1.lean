/- A small deterministic machine beside the model's own: values with abstract addresses, a heap that is a tree of objects, and a function that runs the code of a program on it. Definitions alone; what it is worth is proved behind it. -/
import Derived.Calls
import Derived.Orders
import Derived.ScopeJumps
import Derived.KernelRfl
namespace Go.Proofs.YtdgopiffbhlhoaaGreatDoor
open Go
namespace Vm

/-! ### Trees by numbers -/

inductive Tree (α : Type) where
  | leaf
  | node (l : Tree α) (v : Option α) (r : Tree α)

namespace Tree
variable {α : Type}

/-- (By the recursors themselves: the kernel is quick with these.) -/
noncomputable def get (t : Tree α) : Nat → Option α :=
  Tree.rec (motive := fun _ => Nat → Option α) (fun _ => none)
    (fun _ v _ l r n => Nat.rec (motive := fun _ => Option α) v (fun k _ => Bool.rec (motive := fun _ => Option α) (r (k / 2)) (l (k / 2)) (Nat.beq (k % 2) 0)) n) t

noncomputable def left (t : Tree α) : Tree α := Tree.rec (motive := fun _ => Tree α) .leaf (fun l _ _ _ _ => l) t
noncomputable def right (t : Tree α) : Tree α := Tree.rec (motive := fun _ => Tree α) .leaf (fun _ _ r _ _ => r) t
noncomputable def val (t : Tree α) : Option α := Tree.rec (motive := fun _ => Option α) none (fun _ v _ _ _ => v) t

noncomputable def setN (ih : Tree α → Nat → Tree α) (v : Option α) (n : Nat) (l : Tree α) (u : Option α) (r : Tree α) : Tree α :=
  Nat.rec (motive := fun _ => Tree α) (.node l v r)
    (fun k _ => Bool.rec (motive := fun _ => Tree α) (.node l u (ih r (k / 2))) (.node (ih l (k / 2)) u r) (Nat.beq (k % 2) 0)) n

noncomputable def setF (f : Nat) (v : Option α) : Tree α → Nat → Tree α :=
  Nat.rec (motive := fun _ => Tree α → Nat → Tree α)
    (fun t _ => Tree.rec (motive := fun _ => Tree α) (.node .leaf v .leaf) (fun l _ r _ _ => .node l v r) t)
    (fun _ ih t n => Tree.rec (motive := fun _ => Tree α) (setN ih v n .leaf none .leaf) (fun l u r _ _ => setN ih v n l u r) t) f

noncomputable def put (t : Tree α) (n : Nat) (v : Option α) : Tree α := setF n v t n

theorem get_node_zero (l : Tree α) (v : Option α) (r : Tree α) : (Tree.node l v r).get 0 = v := rfl
theorem get_leaf (n : Nat) : (Tree.leaf : Tree α).get n = none := rfl
theorem get_node_succ (l : Tree α) (v : Option α) (r : Tree α) (k : Nat) : (Tree.node l v r).get (k + 1) = bif Nat.beq (k % 2) 0 then l.get (k / 2) else r.get (k / 2) := by
  show Bool.rec (motive := fun _ => Option α) (r.get (k / 2)) (l.get (k / 2)) (Nat.beq (k % 2) 0) = _
  cases Nat.beq (k % 2) 0 <;> rfl
theorem eq_node (t : Tree α) : ∀ n, t.get n = (Tree.node t.left t.val t.right).get n := by
  cases t with
  | leaf =>
    intro n
    cases n with
    | zero => rfl
    | succ k => rw [get_node_succ]; cases Nat.beq (k % 2) 0 <;> rfl
  | node l v r => intro n; rfl
theorem setF_zero (t : Tree α) (v : Option α) (n : Nat) : setF 0 v t n = .node t.left v t.right := by cases t <;> rfl
theorem setF_succ (f : Nat) (t : Tree α) (v : Option α) (n : Nat) : setF (f + 1) v t n = setN (setF f v) v n t.left t.val t.right := by cases t <;> rfl
theorem setN_zero (ih : Tree α → Nat → Tree α) (v u : Option α) (l r : Tree α) : setN ih v 0 l u r = .node l v r := rfl
theorem setN_succ (ih : Tree α → Nat → Tree α) (v u : Option α) (l r : Tree α) (k : Nat) : setN ih v (k + 1) l u r = bif Nat.beq (k % 2) 0 then .node (ih l (k / 2)) u r else .node l u (ih r (k / 2)) := by
  show Bool.rec (motive := fun _ => Tree α) _ _ (Nat.beq (k % 2) 0) = _
  cases Nat.beq (k % 2) 0 <;> rfl

theorem beq_even {k : Nat} (h : k % 2 = 0) : Nat.beq (k % 2) 0 = true := by rw [h]; rfl
theorem beq_odd {k : Nat} (h : k % 2 ≠ 0) : Nat.beq (k % 2) 0 = false := by
  cases hb : Nat.beq (k % 2) 0 with
  | false => rfl
  | true => exact absurd (Nat.eq_of_beq_eq_true hb) h

theorem get_setF (v : Option α) : ∀ (f : Nat) (t : Tree α) (n m : Nat), n ≤ f → (setF f v t n).get m = if m = n then v else t.get m := by
  intro f
  induction f with
  | zero =>
    intro t n m h
    obtain rfl : n = 0 := by omega
    rw [setF_zero, eq_node t m]
    cases m with
    | zero => simp [get_node_zero]
    | succ k => simp [get_node_succ]
  | succ f ih =>
    intro t n m h
    rw [setF_succ, eq_node t m]
    cases n with
    | zero =>
      rw [setN_zero]
      cases m with
      | zero => simp [get_node_zero]
      | succ k => simp [get_node_succ]
    | succ n =>
      rw [setN_succ]
      by_cases hn : n % 2 = 0
      · rw [beq_even hn, cond_true]
        cases m with
        | zero => simp [get_node_zero]
        | succ k =>
          rw [get_node_succ, get_node_succ]
          by_cases hk : k % 2 = 0
          · rw [beq_even hk, cond_true, cond_true, ih _ _ _ (by omega)]
            by_cases hkn : k / 2 = n / 2
            · have : k = n := by omega
              subst this; simp
            · have : k ≠ n := by intro e; exact hkn (by rw [e])
              rw [if_neg hkn, if_neg (by omega)]
          · have : k ≠ n := by intro e; subst e; exact hk hn
            rw [beq_odd hk, cond_false, cond_false, if_neg (by omega)]
      · rw [beq_odd hn, cond_false]
        cases m with
        | zero => simp [get_node_zero]
        | succ k =>
          rw [get_node_succ, get_node_succ]
          by_cases hk : k % 2 = 0
          · have : k ≠ n := by intro e; subst e; exact hn hk
            rw [beq_even hk, cond_true, cond_true, if_neg (by omega)]
          · rw [beq_odd hk, cond_false, cond_false, ih _ _ _ (by omega)]
            by_cases hkn : k / 2 = n / 2
            · have : k = n := by omega
              subst this; simp
            · have : k ≠ n := by intro e; exact hkn (by rw [e])
              rw [if_neg hkn, if_neg (by omega)]

theorem get_put (t : Tree α) (n m : Nat) (v : Option α) : (t.put n v).get m = if m = n then v else t.get m := get_setF v n t n m (Nat.le_refl n)

end Tree
end Vm
end Go.Proofs.YtdgopiffbhlhoaaGreatDoor
