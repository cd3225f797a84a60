/- append of whatever slice to an empty one, 'append([]T{}, xs...)'. Plain: no program. -/
import Derived.Test.YtfjeohnigikmoaaDoorMono
import Derived.ArgAppend
import Derived.Deep.Upon
import Derived.Deep.AppendLies
namespace Go.Bx
open Go.RowKit
set_option linter.unusedVariables false

theorem app_empty {P : Program} {w : World} {B : Nat} (t e : TypeId) (i : TypeInfo) (z : Value) (bytes : Nat) (ht : P.underlying t = some (.slice e)) (hi : P.info? e = some i) (hz : i.zero = some z) (hsize : i.size = 1) (hby : i.bytes = bytes) (hzs : z.cells.size = 1)
    {g : Nat} (hv : w.ownsRow B e 1 (.slice (some ⟨g, 0, none⟩) 0 0) 0 []) (a : Option Addr) (m c : Nat) (news : List Value) (hl : news.length = m) (hnews : ∀ b, a = some b → ∀ j u, news[j]? = some u → w.cell? (b.add j) = some u) (h1 : ∀ u ∈ news, u.oneCell' = true)
    (hnone : a = none → m = 0) (h63 : m ≤ maxLen) (hbytes : m * bytes ≤ 140737488355328) (hB : B ≤ w.heap.size) :
    ∃ a' c' w', (Builtin.append_ #[t, t] t #[.slice (some ⟨g, 0, none⟩) 0 0, .slice a m c]).run P w = .ok (.slice a' m c') w' ∧ w'.ownsRow B e 1 (.slice a' m c') m news ∧ Below w.heap.size w w' := by
  by_cases hm : m = 0
  · subst hm
    have hn : news = [] := List.eq_nil_of_length_eq_zero hl
    subst hn
    refine ⟨some ⟨g, 0, none⟩, 0, w, ?_, hv, Below.refl _ _⟩
    cases a with
    | none => exact run_append_nothing w t t t e i ht hi _ 0 0 (Nat.le_refl _) _ (Src.ofNil w ht c)
    | some ad => exact run_append_nothing w t t t e i ht hi _ 0 0 (Nat.le_refl _) _ (Src.ofSlice w ht ad 0 c [] (by simp) (by simp) (by simp))
  · obtain ⟨ad, rfl⟩ : ∃ ad, a = some ad := by
      cases a with
      | none => exact absurd (hnone rfl) hm
      | some ad => exact ⟨ad, rfl⟩
    obtain ⟨v', w', hr, ho, hg⟩ := run_append_arg_grows (P := P) w t t e i z 1 bytes ht hi hz hsize hby hzs (by decide) ⟨g, 0, none⟩ 0 0 [] rfl (by simp) ad m c news (by omega) (hnews ad rfl) (by omega) (by omega) (by rw [Nat.zero_add]; exact hbytes)
    rw [Nat.zero_add, List.nil_append] at ho
    obtain ⟨g', c', rfl, _, _⟩ := World.ownsRow.form ho (by omega)
    exact ⟨_, c', w', hr, World.ownsRow.mono ho hB, (Below.refl _ w).grown hg (Nat.le_refl _) (fun k hk => by cases hk)⟩
end Go.Bx
