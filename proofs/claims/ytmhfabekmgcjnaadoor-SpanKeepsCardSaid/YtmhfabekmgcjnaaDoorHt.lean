/- Layer 11: which function a method of the heap is, called on the interface value. -/
import Derived.Test.YtmhfabekmgcjnaaDoorHp
namespace Go.Proofs.YtmhfabekmgcjnaaDoor
open Go.RowKit Go.Bx Go.Hp
attribute [local go_sem ↓] Go.wp_at_zero Go.wp_at_succ
theorem meth_parts {P : Program} {t : TypeId} {name : String} {f : FuncId} {b : Bool} (h : ((P.info? t).bind fun i => i.methods.find? (·.name == name)).map (fun m => (m.path.size, m.func)) = some (0, some (f, b))) :
    ∃ i m, P.info? t = some i ∧ i.methods.find? (·.name == name) = some m ∧ m.path = #[] ∧ m.func = some (f, b) := by
  cases hi : P.info? t with
  | none => rw [hi] at h; cases h
  | some i =>
    rw [hi] at h
    simp only [Option.bind_some] at h
    cases hm : i.methods.find? (·.name == name) with
    | none => rw [hm] at h; cases h
    | some m =>
      rw [hm] at h
      simp only [Option.map_some, Option.some.injEq, Prod.mk.injEq] at h
      exact ⟨i, m, rfl, hm, Array.eq_empty_of_size_eq_zero h.1, h.2⟩
end Go.Proofs.YtmhfabekmgcjnaaDoor
/- Layer 11: container/heap's up. -/
namespace Go.Proofs.YtmhfabekmgcjnaaDoor
open Go.RowKit Go.Bx Go.Hp
attribute [local go_sem ↓] Go.wp_at_zero Go.wp_at_succ
set_option linter.unusedVariables false

theorem HFr.refl (nb : Nat) (v : Value) (w : World) : HFr nb v w w := ⟨rfl, rfl, rfl, Nat.le_refl _, fun _ _ _ _ => rfl⟩
end Go.Proofs.YtmhfabekmgcjnaaDoor
/- Layer 11: container/heap's Push. -/
namespace Go.Proofs.YtmhfabekmgcjnaaDoor
open Go.RowKit Go.Bx Go.Hp
attribute [local go_sem ↓] Go.wp_at_zero Go.wp_at_succ
set_option linter.unusedVariables false

end Go.Proofs.YtmhfabekmgcjnaaDoor
