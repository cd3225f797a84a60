/- Layer 22: plain laws of taking and freeing; from the row's reading; the walk of 'ArenaCounts'. -/
import Derived.Test.YtlcefgdiclpcjaaArK
import Derived.Laws.StructEq
namespace Go.Proofs.Ytlcefgdiclpcjaa
open Go.RowKit Go.Bx Go.ChangeShapes Go.WideShapes Go.ChangeAt
attribute [local go_sem ↓] Go.wp_at_zero Go.wp_at_succ
set_option linter.unusedVariables false

/-! ### plain -/
theorem cntB_set (ls : List Bool) (k : Nat) (x : Bool) (h : k < ls.length) : cntB (ls.set k x) = cntB ls - (if ls.getD k false = true then 1 else 0) + (if x = true then 1 else 0) := by
  unfold cntB
  induction ls generalizing k with
  | nil => simp at h
  | cons y ls ih =>
    cases k with
    | zero => cases y <;> cases x <;> simp <;> omega
    | succ k =>
      have := ih k (by simpa using h)
      simp only [List.set_cons_succ, List.filter_cons, List.getD_cons_succ]
      cases y
      · simpa using this
      · simp only [id, if_true, List.length_cons]
        omega
theorem cntB_app (ls : List Bool) (x : Bool) : cntB (ls ++ [x]) = cntB ls + (if x = true then 1 else 0) := by
  unfold cntB
  rw [List.filter_append]
  cases x <;> simp
theorem cntB_full (ls : List Bool) (h : freeAt ls = ls.length) : cntB ls = ls.length := by
  unfold cntB freeAt at *
  induction ls with
  | nil => rfl
  | cons x ls ih =>
    cases x
    · simp at h
    · simp only [List.takeWhile_cons, id, if_true, List.length_cons] at h
      have := ih (by omega)
      simp only [List.filter_cons, id, if_true, List.length_cons]
      omega
theorem getD_set {α : Type} (d : α) (xs : List α) (k j : Nat) (x : α) (h : k < xs.length) : (xs.set k x).getD j d = if j = k then x else xs.getD j d := by
  by_cases e : j = k
  · subst e; simp [h]
  · rw [if_neg e]
    simp only [List.getD_eq_getElem?_getD]
    rw [List.getElem?_set_ne (fun h => e h.symm)]
theorem getD_app {α : Type} (d : α) (xs : List α) (j : Nat) (x : α) : (xs ++ [x]).getD j d = if j = xs.length then x else xs.getD j d := by
  by_cases e : j = xs.length
  · subst e; simp
  · rw [if_neg e]
    simp only [List.getD_eq_getElem?_getD]
    by_cases h : j < xs.length
    · rw [List.getElem?_append_left h]
    · rw [List.getElem?_eq_none (by simp; omega), List.getElem?_eq_none (by omega)]
theorem hasB_iff (gs : List Int) (ls : List Bool) (at_ gen : Int) : hasB gs ls at_ gen = true ↔ ∃ k : Nat, at_ = k ∧ k < gs.length ∧ ls.getD k false = true ∧ gs.getD k 0 = gen := by
  constructor
  · intro h
    have h1 : 0 ≤ at_ := by
      by_cases h1 : at_ < 0
      · rw [hasB_lo h1] at h; cases h
      · omega
    obtain ⟨k, rfl⟩ : ∃ k : Nat, at_ = k := ⟨at_.toNat, by omega⟩
    have h2 : k < gs.length := by
      by_cases h2 : (gs.length : Int) ≤ k
      · rw [hasB_hi h2] at h; cases h
      · omega
    rw [hasB_in h2] at h
    simp only [Bool.and_eq_true, decide_eq_true_eq] at h
    exact ⟨k, rfl, h2, h.1, h.2⟩
  · rintro ⟨k, rfl, h1, h2, h3⟩
    rw [hasB_in h1, h2, h3]
    simp

theorem tk_law (gs : List Int) (ls : List Bool) (hlen : gs.length = ls.length) (h1 : ls.length ≤ 1024) :
    (tkOk ls = true → cntB (tkL ls) = cntB ls + 1 ∧ hasB (tkG gs ls) (tkL ls) (tkAt ls) (tkGen gs ls) = true ∧ hasB gs ls (tkAt ls) (tkGen gs ls) = false ∧
      ∀ at_ gen, ¬ (tkAt ls = at_ ∧ tkGen gs ls = gen) → hasB (tkG gs ls) (tkL ls) at_ gen = hasB gs ls at_ gen) ∧
    (tkOk ls = false → cntB ls = 1024) := by
  have hle := freeAt_le ls
  constructor
  · intro hok
    have hk : freeAt ls < 1024 := of_decide_eq_true hok
    have eA : tkAt ls = freeAt ls := if_pos hk
    have eG : tkGen gs ls = gs.getD (freeAt ls) 0 := if_pos hk
    rw [eA, eG]
    by_cases hfr : freeAt ls < ls.length
    · have e1 : tkL ls = ls.set (freeAt ls) true := if_pos hfr
      have e2 : tkG gs ls = gs := if_pos hfr
      have hf := freeAt_lt ls hfr
      rw [e1, e2]
      generalize freeAt ls = k at *
      refine ⟨?_, ?_, ?_, ?_⟩
      · rw [cntB_set ls k true hfr, hf]; simp
      · rw [hasB_iff]; exact ⟨k, rfl, by omega, by rw [getD_set _ _ _ _ _ hfr, if_pos rfl], rfl⟩
      · rw [hasB_in (by omega), hf]; rfl
      · intro at_ gen hne
        rw [Bool.eq_iff_iff, hasB_iff, hasB_iff]
        constructor
        · rintro ⟨j, rfl, a, b, c⟩
          refine ⟨j, rfl, a, ?_, c⟩
          rw [getD_set _ _ _ _ _ hfr] at b
          by_cases e : j = k
          · subst e; exact absurd ⟨rfl, c⟩ hne
          · rwa [if_neg e] at b
        · rintro ⟨j, rfl, a, b, c⟩
          refine ⟨j, rfl, a, ?_, c⟩
          rw [getD_set _ _ _ _ _ hfr]
          split
          · rfl
          · exact b
    · have hfe : freeAt ls = ls.length := by omega
      have e1 : tkL ls = ls ++ [true] := by unfold tkL; rw [if_neg hfr, if_pos (by omega)]
      have e2 : tkG gs ls = gs ++ [0] := by unfold tkG; rw [if_neg hfr, if_pos (by omega)]
      have e3 : gs.getD ls.length 0 = 0 := by rw [← hlen]; simp
      rw [e1, e2, hfe, e3]
      refine ⟨?_, ?_, ?_, ?_⟩
      · rw [cntB_app]; simp
      · rw [hasB_iff]; exact ⟨ls.length, rfl, by simp; omega, by simp, by rw [← hlen]; simp⟩
      · exact hasB_hi (by omega)
      · intro at_ gen hne
        rw [Bool.eq_iff_iff, hasB_iff, hasB_iff]
        constructor
        · rintro ⟨j, rfl, a, b, c⟩
          rw [getD_app] at b c
          by_cases e : j = ls.length
          · rw [if_pos (by omega)] at c
            exact absurd ⟨by omega, c⟩ hne
          · rw [if_neg e] at b
            rw [if_neg (by omega)] at c
            exact ⟨j, rfl, by simp at a; omega, b, c⟩
        · rintro ⟨j, rfl, a, b, c⟩
          refine ⟨j, rfl, by simp; omega, ?_, ?_⟩
          · rw [getD_app, if_neg (by omega)]; exact b
          · rw [getD_app, if_neg (by omega)]; exact c
  · intro hok
    have hk : ¬ freeAt ls < 1024 := of_decide_eq_false hok
    rw [cntB_full ls (by omega)]
    omega
theorem fr_law (gs : List Int) (ls : List Bool) (at_ gen : Int) (hlen : gs.length = ls.length) :
    (frOk gs ls at_ gen = true → cntB (frL gs ls at_ gen) = cntB ls - 1) ∧ (frOk gs ls at_ gen = false → frL gs ls at_ gen = ls ∧ frG gs ls at_ gen = gs) := by
  constructor
  · intro h
    have h' := h
    unfold frOk at h'
    rw [Bool.and_eq_true] at h'
    obtain ⟨k, rfl, a, b, c⟩ := (hasB_iff _ _ _ _).1 h'.1
    unfold frL
    rw [if_pos h]
    simp only [Int.toNat_natCast]
    rw [cntB_set _ _ _ (by omega), b]
    simp
  · intro h
    unfold frL frG
    rw [h]
    simp

/-! ### names of layers are compared -/
theorem struct_Id : Try.prog.underlying 48 = some (.struct (Try.prog.fieldsOf 48)) := by kernel_rfl
theorem stood_Id : Try.prog.stoodInHeld 48 = false := by kernel_rfl
theorem fields_Id : (Try.prog.fieldsOf 48).toList.map (fun f => (decide (f.name = "_"), f.type, f.offset)) = [(false, 3, 0), (false, 3, 1)] := by kernel_rfl
set_option maxHeartbeats 400000 in
theorem eqId (A N a n : Int) (w : World) : (Op.equalIn 10000 48 (.agg #[.int .i64 A, .int .i64 N]) (.agg #[.int .i64 a, .int .i64 n])).run Try.prog w = .ok (decide (A = a ∧ N = n)) w := by
  rw [run_equalIn_struct w 9999 48 _ _ struct_Id stood_Id]
  have hf := fields_Id
  generalize (Try.prog.fieldsOf 48).toList = l at hf ⊢
  rcases l with _ | ⟨f, _ | ⟨g, _ | ⟨e, l⟩⟩⟩
  · simp at hf
  · simp at hf
  rotate_left
  · simp at hf
  · simp only [List.map_cons, List.map_nil, List.cons.injEq, Prod.mk.injEq, and_true, decide_eq_false_iff_not] at hf
    obtain ⟨⟨a1, a2, a3⟩, b1, b2, b3⟩ := hf
    unfold Op.eqFields
    rw [a2, a3, if_pos a1]
    unfold Op.eqFields
    rw [b2, b3, if_pos b1]
    unfold Op.eqFields
    go_simp
    by_cases h1 : A = a
    · by_cases h2 : N = n
      · simp [h1, h2]
      · simp [h1, h2]
    · simp [h1]
theorem neqId (A N a n : Int) (w : World) : (binOp .neq 48 (.agg #[.int .i64 A, .int .i64 N]) (.agg #[.int .i64 a, .int .i64 n])).run Try.prog w = .ok (.bool (!(decide (A = a ∧ N = n)))) w := by
  rw [run_neq_struct, eqId]
  rfl
theorem eqlId (A N a n : Int) (w : World) : (binOp .eql 48 (.agg #[.int .i64 A, .int .i64 N]) (.agg #[.int .i64 a, .int .i64 n])).run Try.prog w = .ok (.bool (decide (A = a ∧ N = n))) w := by
  rw [run_eql_struct, eqId]
  rfl

/-! ### from the reading -/
section
variable {H : Type} {enc : TypeId × Value → H} {W : World} {base : Nat}
theorem ri22 : Reads enc Try.prog W 3 RInt := reads_int Try.underlying3
theorem rb22 : Reads enc Try.prog W 4 RBool := reads_bool Try.underlying4
theorem cells_int : Try.prog.cellsOf 3 = 1 := by kernel_rfl
theorem cells_bool : Try.prog.cellsOf 4 = 1 := by kernel_rfl
theorem cells_ints : Try.prog.cellsOf 41 = 1 := by kernel_rfl
theorem cells_bools : Try.prog.cellsOf 44 = 1 := by kernel_rfl
theorem cells_Arena : Try.prog.cellsOf 46 = 2 := by kernel_rfl
theorem cells_Id : Try.prog.cellsOf 48 = 2 := by kernel_rfl
theorem two_of {cs : Array Value} (hl : cs.toList.length = 2) : ∃ a b, cs.toList = [a, b] := by
  match h : cs.toList, hl with
  | [a, b], _ => exact ⟨a, b, rfl⟩
theorem arena_arg {v : Value} {d : DataW H} {p : List MemPlace} (h : DataW.Trod enc Try.prog W 0 (fun _ => true) true 46 v d p) (hv : Value.okWide Try.prog W .any base 46 v) :
    ∃ gv lv gs ls, v = .agg #[gv, lv] ∧ SlOf RInt 1 (· < W.heap.size) W gv gs ∧ SlOf RBool 1 (· < W.heap.size) W lv ls := by
  obtain ⟨cs, rfl⟩ := arg_struct Try.underlying46 hv
  obtain ⟨fuel, hf⟩ := h
  have hl := struct_len Try.underlying46 hf
  obtain ⟨gs, hg⟩ := reads_field Try.underlying46 hf 0 (ft := 41) (off := 0) (n := 1) rfl cells_ints (E := RSl RInt 1) (reads_slice Try.underlying41 cells_int (by decide) ri22)
  obtain ⟨ls, hb⟩ := reads_field Try.underlying46 hf 1 (ft := 44) (off := 1) (n := 1) rfl cells_bools (E := RSl RBool 1) (reads_slice Try.underlying44 cells_bool (by decide) rb22)
  rw [cells_Arena] at hl
  simp only [Value.cells] at hl hg hb
  obtain ⟨c0, c1, hc⟩ := two_of hl
  rw [hc] at hg hb
  obtain ⟨gv, hg1, hg2⟩ := hg
  obtain ⟨lv, hb1, hb2⟩ := hb
  simp at hg1 hb1
  subst hg1 hb1
  exact ⟨_, _, gs, ls, by rw [← hc], hg2, hb2⟩
theorem id_arg {v : Value} {d : DataW H} {p : List MemPlace} (h : DataW.Trod enc Try.prog W 0 (fun _ => true) true 48 v d p) (hv : Value.okWide Try.prog W .any base 48 v) :
    ∃ at_ gen : Int, v = .agg #[.int .i64 at_, .int .i64 gen] := by
  obtain ⟨cs, rfl⟩ := arg_struct Try.underlying48 hv
  obtain ⟨fuel, hf⟩ := h
  have hl := struct_len Try.underlying48 hf
  obtain ⟨r, hr⟩ := reads_field Try.underlying48 hf 0 (ft := 3) (off := 0) (n := 1) rfl cells_int (E := RInt) ri22
  obtain ⟨u, hu⟩ := reads_field Try.underlying48 hf 1 (ft := 3) (off := 1) (n := 1) rfl cells_int (E := RInt) ri22
  rw [cells_Id] at hl
  simp only [Value.cells] at hl hr hu
  obtain ⟨c0, c1, hc⟩ := two_of hl
  rw [hc] at hr hu
  obtain ⟨h0, i0⟩ := hr
  obtain ⟨h1, i1⟩ := hu
  simp at h0 h1
  subst h0 h1
  exact ⟨r, u, by rw [← hc]⟩
end
end Go.Proofs.Ytlcefgdiclpcjaa
