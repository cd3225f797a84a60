/- Layer 11: which function a method of the heap is, called on the interface value. -/
import Derived.Test.YtijkcpkljmpplaaDoorHp
namespace Go.Proofs.YtijkcpkljmpplaaDoor
open Go.RowKit Go.Bx Go.Hp
attribute [local go_sem ↓] Go.wp_at_zero Go.wp_at_succ
theorem meth_parts {P : Program} {t : TypeId} {name : String} {f : FuncId} {b : Bool} (h : ((P.info? t).bind fun i => i.methods.find? (·.name == name)).map (fun m => (m.path.size, m.func)) = some (0, some (f, b))) :
    ∃ i m, P.info? t = some i ∧ i.methods.find? (·.name == name) = some m ∧ m.path = #[] ∧ m.func = some (f, b) := by
  cases hi : P.info? t with
  | none => rw [hi] at h; cases h
  | some i =>
    rw [hi] at h
    simp only [Option.bind_some] at h
    cases hm : i.methods.find? (·.name == name) with
    | none => rw [hm] at h; cases h
    | some m =>
      rw [hm] at h
      simp only [Option.map_some, Option.some.injEq, Prod.mk.injEq] at h
      exact ⟨i, m, rfl, hm, Array.eq_empty_of_size_eq_zero h.1, h.2⟩
theorem m_less : ((Tryd.prog.info? 49).bind fun i => i.methods.find? (·.name == "Less")).map (fun m => (m.path.size, m.func)) = some (0, some (60, false)) := by kernel_rfl
theorem m_len : ((Tryd.prog.info? 49).bind fun i => i.methods.find? (·.name == "Len")).map (fun m => (m.path.size, m.func)) = some (0, some (28, false)) := by kernel_rfl
theorem m_swap : ((Tryd.prog.info? 49).bind fun i => i.methods.find? (·.name == "Swap")).map (fun m => (m.path.size, m.func)) = some (0, some (63, false)) := by kernel_rfl
theorem m_push : ((Tryd.prog.info? 49).bind fun i => i.methods.find? (·.name == "Push")).map (fun m => (m.path.size, m.func)) = some (0, some (62, true)) := by kernel_rfl
theorem m_pop : ((Tryd.prog.info? 49).bind fun i => i.methods.find? (·.name == "Pop")).map (fun m => (m.path.size, m.func)) = some (0, some (61, true)) := by kernel_rfl
theorem nil_chk (a : Addr) (s m : String) (w : World) : (Builtin.ssaWrapNilChk_ #[49] 49 #[.pointer (some a), strVal s, strVal m]).run Tryd.prog w = .ok (.pointer (some a)) w := rfl
theorem load_places (nb : Nat) (v : Value) (w : World) (h : w.cell? ⟨nb, 0, none⟩ = some v) : (loadVar 50 ⟨nb, 0, none⟩).run Tryd.prog w = .ok v w := by
  simp [loadVar, h, go_sem]
/-- a method of the value, called on the pointer -/
theorem method_val (fuel nb : Nat) (v : Value) (name : String) (f : FuncId) (w : World) (hm : ((Tryd.prog.info? 49).bind fun i => i.methods.find? (·.name == name)).map (fun m => (m.path.size, m.func)) = some (0, some (f, false))) (h : w.cell? ⟨nb, 0, none⟩ = some v) :
    (method (fuel + 1) 49 (.pointer (some ⟨nb, 0, none⟩)) name).run Tryd.prog w = .ok (f, v) w := by
  obtain ⟨i, m, hi, hm, h1, h2⟩ := meth_parts hm
  have hl := load_places nb v w h
  have hn := fun s m => nil_chk ⟨nb, 0, none⟩ s m w
  unfold method
  simp [typeInfo, hi, hm, h1, h2, follow, receiverAt, Place.get, run_underlying Tryd.underlying49, hl, hn, asAddr]
/-- a method of the pointer -/
theorem method_ptr (fuel nb : Nat) (name : String) (f : FuncId) (w : World) (hm : ((Tryd.prog.info? 49).bind fun i => i.methods.find? (·.name == name)).map (fun m => (m.path.size, m.func)) = some (0, some (f, true))) :
    (method (fuel + 1) 49 (.pointer (some ⟨nb, 0, none⟩)) name).run Tryd.prog w = .ok (f, .pointer (some ⟨nb, 0, none⟩)) w := by
  obtain ⟨i, m, hi, hm, h1, h2⟩ := meth_parts hm
  unfold method
  simp [typeInfo, hi, hm, h1, h2, follow, receiverAt, Place.get, run_underlying Tryd.underlying49]
end Go.Proofs.YtijkcpkljmpplaaDoor
