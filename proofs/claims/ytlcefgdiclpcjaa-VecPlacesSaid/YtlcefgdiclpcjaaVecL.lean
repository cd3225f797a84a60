/- Layer 2: from the reading of the arguments to the walks. -/
import Derived.Test.YtlcefgdiclpcjaaVecR
import Derived.ProofKit
import Derived.OpenShut
namespace Go.Proofs.Ytlcefgdiclpcjaa
open Go.ChangeShapes Go.WideShapes Go.ChangeAt Go.RowKit
set_option linter.unusedVariables false

def TPost (W : World) (e : Ending) (W' : World) : Prop := e = .returned (.bool true) ∧ Below W.heap.size W W'
theorem TPost.of {W : World} {e : Ending} {W' : World} (h : BPost W true e W') : TPost W e W' := ⟨h.1, h.2 ▸ Below.refl _ _⟩
section
variable {H : Type} {enc : TypeId × Value → H} {W : World} {base : Nat}
/-- an int argument -/
theorem int_arg {v : Value} {d : DataW H} {p : List MemPlace} (h : DataW.Trod enc Try.prog W 0 (fun _ => true) true 3 v d p) (hv : Value.okWide Try.prog W .any base 3 v) :
    ∃ a : Int, v = .int .i64 a ∧ -9223372036854775808 ≤ a ∧ a ≤ 9223372036854775807 := by
  obtain ⟨a, rfl, rfl, rfl, wa⟩ := open_int Try.underlying3 hv h
  have : decide (IntKind.i64.min ≤ a ∧ a ≤ IntKind.i64.max) = true := by simpa [Lit.wf] using wa
  have h := of_decide_eq_true this
  exact ⟨a, rfl, h.1, h.2⟩

theorem vecParts.vecParts_law (W : World) {v0 v1 v2 : Value} {d0 d1 d2 : DataW H} {p0 p1 p2 : List MemPlace}
    (h0 : DataW.Trod enc Try.prog W 0 (fun _ => true) true 3 v0 d0 p0) (h1 : DataW.Trod enc Try.prog W 0 (fun _ => true) true 3 v1 d1 p1) (h2 : DataW.Trod enc Try.prog W 0 (fun _ => true) true 3 v2 d2 p2)
    (k0 : Value.okWide Try.prog W .any base 3 v0) (k1 : Value.okWide Try.prog W .any base 3 v1) (k2 : Value.okWide Try.prog W .any base 3 v2) :
    Calls Try.prog 3 #[v0, v1, v2] W (TPost W) := by
  obtain ⟨a, rfl, _, _⟩ := int_arg h0 k0
  obtain ⟨b, rfl, _, _⟩ := int_arg h1 k1
  obtain ⟨c, rfl, _, _⟩ := int_arg h2 k2
  exact (vecParts_walk a b c W).mono fun _ _ h => .of h

theorem vecSums.vecSums_law (W : World) {v0 v1 v2 v3 v4 : Value} {d0 d1 d2 d3 d4 : DataW H} {p0 p1 p2 p3 p4 : List MemPlace}
    (h0 : DataW.Trod enc Try.prog W 0 (fun _ => true) true 3 v0 d0 p0) (h1 : DataW.Trod enc Try.prog W 0 (fun _ => true) true 3 v1 d1 p1) (h2 : DataW.Trod enc Try.prog W 0 (fun _ => true) true 3 v2 d2 p2) (h3 : DataW.Trod enc Try.prog W 0 (fun _ => true) true 3 v3 d3 p3) (h4 : DataW.Trod enc Try.prog W 0 (fun _ => true) true 3 v4 d4 p4)
    (k0 : Value.okWide Try.prog W .any base 3 v0) (k1 : Value.okWide Try.prog W .any base 3 v1) (k2 : Value.okWide Try.prog W .any base 3 v2) (k3 : Value.okWide Try.prog W .any base 3 v3) (k4 : Value.okWide Try.prog W .any base 3 v4) :
    Calls Try.prog 4 #[v0, v1, v2, v3, v4] W (TPost W) := by
  obtain ⟨a, rfl, _, _⟩ := int_arg h0 k0
  obtain ⟨b, rfl, _, _⟩ := int_arg h1 k1
  obtain ⟨c, rfl, _, _⟩ := int_arg h2 k2
  obtain ⟨d, rfl, _, _⟩ := int_arg h3 k3
  obtain ⟨k, rfl, _, _⟩ := int_arg h4 k4
  exact (vecSums_walk a b c d k W).mono fun _ _ h => .of h

theorem vecPlaces.vecPlaces_law (W : World) {v0 v1 v2 v3 v4 : Value} {d0 d1 d2 d3 d4 : DataW H} {p0 p1 p2 p3 p4 : List MemPlace}
    (h0 : DataW.Trod enc Try.prog W 0 (fun _ => true) true 3 v0 d0 p0) (h1 : DataW.Trod enc Try.prog W 0 (fun _ => true) true 3 v1 d1 p1) (h2 : DataW.Trod enc Try.prog W 0 (fun _ => true) true 3 v2 d2 p2) (h3 : DataW.Trod enc Try.prog W 0 (fun _ => true) true 3 v3 d3 p3) (h4 : DataW.Trod enc Try.prog W 0 (fun _ => true) true 3 v4 d4 p4)
    (k0 : Value.okWide Try.prog W .any base 3 v0) (k1 : Value.okWide Try.prog W .any base 3 v1) (k2 : Value.okWide Try.prog W .any base 3 v2) (k3 : Value.okWide Try.prog W .any base 3 v3) (k4 : Value.okWide Try.prog W .any base 3 v4) :
    Calls Try.prog 5 #[v0, v1, v2, v3, v4] W (TPost W) := by
  obtain ⟨a, rfl, _, _⟩ := int_arg h0 k0
  obtain ⟨b, rfl, _, _⟩ := int_arg h1 k1
  obtain ⟨k, rfl, e1, e2⟩ := int_arg h2 k2
  obtain ⟨x, rfl, _, _⟩ := int_arg h3 k3
  obtain ⟨y, rfl, _, _⟩ := int_arg h4 k4
  exact (vecPlaces_walk a b k x y W e1 e2).mono fun _ _ h => .of h
end
end Go.Proofs.Ytlcefgdiclpcjaa
