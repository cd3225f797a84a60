/- Layer 22, the document's answer: Take, Free. -/
import Derived.Test.YtlcefgdiclpcjaaArP
import Derived.Test.YtlcefgdiclpcjaaArH
import Derived.Test.YtlcefgdiclpcjaaEach
namespace Go.Proofs.Ytlcefgdiclpcjaa
open Go.RowKit Go.Bx
attribute [local go_sem ↓] Go.wp_at_zero Go.wp_at_succ
set_option linter.unusedVariables false

theorem set_getD_self {α : Type} (xs : List α) (k : Nat) (d : α) : xs.set k (xs.getD k d) = xs := by
  apply List.ext_getElem (by simp)
  intro i h1 h2
  by_cases e : k = i
  · subst e; simp [h2]
  · simp [e]
/-- what the document's Take answers -/
def RtPost (w : World) (gs : List Int) (ls : List Bool) (at_ gen : Int) (ok : Bool) (e : Ending) (w' : World) : Prop := ∃ v1 v2, e = .returned (.tuple #[.agg #[v1, v2], .agg #[.int .i64 at_, .int .i64 gen], .bool ok]) ∧
  SlOf RInt 1 (fun b => b < w'.heap.size) w' v1 gs ∧ SlOf RBool 1 (fun b => b < w'.heap.size) w' v2 ls ∧ Below w.heap.size w w'
/-- what the document's Free answers -/
def RfPost (w : World) (gs : List Int) (ls : List Bool) (ok : Bool) (e : Ending) (w' : World) : Prop := ∃ v1 v2, e = .returned (.tuple #[.agg #[v1, v2], .bool ok]) ∧
  SlOf RInt 1 (fun b => b < w'.heap.size) w' v1 gs ∧ SlOf RBool 1 (fun b => b < w'.heap.size) w' v2 ls ∧ Below w.heap.size w w'

theorem own_slI {w : World} {B : Nat} {v : Value} {gs : List Int} (h : OwnI w B v gs) (hin : ∀ x ∈ gs, In64 x) : SlOf RInt 1 (fun b => b < w.heap.size) w v gs := (h.sl hin).mono RInt.ok fun _ hb => hb.2
theorem own_slB {w : World} {B : Nat} {v : Value} {ls : List Bool} (h : OwnB w B v ls) : SlOf RBool 1 (fun b => b < w.heap.size) w v ls := h.sl.mono RBool.ok fun _ hb => hb.2
theorem tkG_in {gs : List Int} {ls : List Bool} (h : ∀ x ∈ gs, In64 x) : ∀ x ∈ tkG gs ls, In64 x := by
  intro x hx
  unfold tkG at hx
  split at hx
  · exact h x hx
  · split at hx
    · rcases List.mem_append.1 hx with hx | hx
      · exact h x hx
      · simp at hx; subst hx; unfold In64; omega
    · exact h x hx

/-- what stands in memory while the document's Take returns -/
def QI (w : World) (gv lv : Value) (W : World) : Prop := Box W w.heap.size [gv, lv] ∧ (∃ c d, Box W (w.heap.size + 1) [c, d]) ∧ (∃ c d, Box W (w.heap.size + 1 + 1) [c, d]) ∧ Below w.heap.size w W
theorem QI.below {w W W' : World} {gv lv : Value} (h : QI w gv lv W) (hb : Below W.heap.size W W') : QI w gv lv W' := by
  obtain ⟨h1, ⟨c, d, h2⟩, ⟨c', d', h3⟩, h4⟩ := h
  exact ⟨h1.call hb, ⟨c, d, h2.call hb⟩, ⟨c', d', h3.call hb⟩, after h4 h4.size hb⟩
theorem QI.put1 {w W : World} {gv lv : Value} (h : QI w gv lv W) (x y : Value) : QI w gv lv ((W.setCell ⟨w.heap.size + 1, 0, none⟩ x).setCell ⟨w.heap.size + 1, 1, none⟩ y) := by
  obtain ⟨h1, ⟨c, d, h2⟩, ⟨c', d', h3⟩, h4⟩ := h
  exact ⟨(h1.set (p := ⟨w.heap.size + 1, 0, none⟩) (by simp only; omega) x).set (p := ⟨w.heap.size + 1, 1, none⟩) (by simp only; omega) y, ⟨x, y, (h2.self 0 x).self 1 y⟩, ⟨c', d', (h3.set (p := ⟨w.heap.size + 1, 0, none⟩) (by simp only; omega) x).set (p := ⟨w.heap.size + 1, 1, none⟩) (by simp only; omega) y⟩,
    (h4.setCell (p := ⟨w.heap.size + 1, 0, none⟩) (by simp only; omega) x).setCell (p := ⟨w.heap.size + 1, 1, none⟩) (by simp only; omega) y⟩
theorem QI.put2 {w W : World} {gv lv : Value} (h : QI w gv lv W) (x y : Value) : QI w gv lv ((W.setCell ⟨w.heap.size + 1 + 1, 0, none⟩ x).setCell ⟨w.heap.size + 1 + 1, 1, none⟩ y) := by
  obtain ⟨h1, ⟨c, d, h2⟩, ⟨c', d', h3⟩, h4⟩ := h
  exact ⟨(h1.set (p := ⟨w.heap.size + 1 + 1, 0, none⟩) (by simp only; omega) x).set (p := ⟨w.heap.size + 1 + 1, 1, none⟩) (by simp only; omega) y, ⟨c, d, (h2.set (p := ⟨w.heap.size + 1 + 1, 0, none⟩) (by simp only; omega) x).set (p := ⟨w.heap.size + 1 + 1, 1, none⟩) (by simp only; omega) y⟩, ⟨x, y, (h3.self 0 x).self 1 y⟩,
    (h4.setCell (p := ⟨w.heap.size + 1 + 1, 0, none⟩) (by simp only; omega) x).setCell (p := ⟨w.heap.size + 1 + 1, 1, none⟩) (by simp only; omega) y⟩
/-- what the operations of that return yield -/
def QT (n : Nat) (gv lv : Value) (G : List Int) (L : List Bool) (p0 : Addr) (k : Nat) (x : Int) (i : Nat) (v : Value) (W : World) : Prop := match i with
  | 0 => v = .agg #[gv, lv]
  | 1 => v = .int .i64 k
  | 2 => v = .pointer (some ⟨n, 0, none⟩)
  | 3 => v = gv
  | 4 => v = .int .i64 k
  | 5 => v = .pointer (some p0)
  | 6 => v = .int .i64 x
  | 7 => ∃ a p b q, v = .agg #[.slice a G.length p, .slice b L.length q] ∧ OwnI W (n + 3) (.slice a G.length p) G ∧ OwnB W (n + 3) (.slice b L.length q) L
  | 8 => v = .int .i64 k
  | 9 => v = .pointer (some ⟨n, 0, none⟩)
  | 10 => v = gv
  | 11 => v = .int .i64 k
  | 12 => v = .pointer (some p0)
  | 13 => v = .int .i64 x
  | 14 => v = .agg #[.int .i64 k, .int .i64 x]
  | 15 => ∃ a p b q, Box W (n + 1) [.slice a G.length p, .slice b L.length q] ∧ OwnI W (n + 3) (.slice a G.length p) G ∧ OwnB W (n + 3) (.slice b L.length q) L
  | 16 => Box W (n + 1 + 1) [.int .i64 k, .int .i64 x]
  | 17 => v = .bool true
  | _ => True
section
variable {n : Nat} {gv lv : Value} {G : List Int} {L : List Bool} {p0 : Addr} {k : Nat} {x : Int}
theorem QT.below {i : Nat} {v : Value} {W W' : World} (h : QT n gv lv G L p0 k x i v W) (hb : Below W.heap.size W W') : QT n gv lv G L p0 k x i v W' := by
  match i, h with
  | 0, h => exact h
  | 1, h => exact h
  | 2, h => exact h
  | 3, h => exact h
  | 4, h => exact h
  | 5, h => exact h
  | 6, h => exact h
  | 7, ⟨a, p, b, q, h1, h2, h3⟩ => exact ⟨a, p, b, q, h1, h2.below hb, h3.below hb⟩
  | 8, h => exact h
  | 9, h => exact h
  | 10, h => exact h
  | 11, h => exact h
  | 12, h => exact h
  | 13, h => exact h
  | 14, h => exact h
  | 15, ⟨a, p, b, q, h1, h2, h3⟩ => exact ⟨a, p, b, q, h1.call hb, h2.below hb, h3.below hb⟩
  | 16, h => exact Box.call h hb
  | 17, h => exact h
  | _ + 18, _ => trivial
theorem QT.put {i j : Nat} {v : Value} {W : World} (h : QT n gv lv G L p0 k x i v W) (b : Nat) (c : Nat) (u : Value) (hb : b < n + 3) (h15 : i = 15 → b ≠ n + 1) (h16 : i = 16 → b ≠ n + 1 + 1) : QT n gv lv G L p0 k x i v (W.setCell ⟨b, c, none⟩ u) := by
  match i, h with
  | 0, h => exact h
  | 1, h => exact h
  | 2, h => exact h
  | 3, h => exact h
  | 4, h => exact h
  | 5, h => exact h
  | 6, h => exact h
  | 7, ⟨a, p, b', q, h1, h2, h3⟩ => exact ⟨a, p, b', q, h1, h2.put (p := ⟨b, c, none⟩) hb u, h3.put (p := ⟨b, c, none⟩) hb u⟩
  | 8, h => exact h
  | 9, h => exact h
  | 10, h => exact h
  | 11, h => exact h
  | 12, h => exact h
  | 13, h => exact h
  | 14, h => exact h
  | 15, ⟨a, p, b', q, h1, h2, h3⟩ => exact ⟨a, p, b', q, h1.set (p := ⟨b, c, none⟩) (fun e => h15 rfl e.symm) u, h2.put (p := ⟨b, c, none⟩) hb u, h3.put (p := ⟨b, c, none⟩) hb u⟩
  | 16, h => exact Box.set h (p := ⟨b, c, none⟩) (fun e => h16 rfl e.symm) u
  | 17, h => exact h
  | _ + 18, _ => trivial
end

set_option maxHeartbeats 3200000 in
set_option maxRecDepth 100000 in
theorem rtake_c {F : Nat → Prop} (gv lv : Value) (gs : List Int) (ls : List Bool) (w : World) (hlen : gs.length = ls.length) (hll : ls.length ≤ 1024) (hF : ∀ b, F b → b < w.heap.size) (hg : SlOf RInt 1 F w gv gs) (hl : SlOf RBool 1 F w lv ls) :
    Calls Try.prog 41 #[.agg #[gv, lv]] w (RtPost w (tkG gs ls) (tkL ls) (tkAt ls) (tkGen gs ls) (tkOk ls)) := by
  have HS : Hid (∀ W, Below w.heap.size w W → SlOf RInt 1 F W gv gs ∧ SlOf RBool 1 F W lv ls) := fun W hb => ⟨hg.same RInt.ok (Same.of_below hb hF), hl.same RBool.ok (Same.of_below hb hF)⟩
  obtain ⟨ga, gc, rfl, hgc, hgm, hin, hgcell⟩ := hg.ints
  obtain ⟨la, lc, rfl, hlc, hlm, hlcell⟩ := hl.bools
  have HCl : Hid ((∀ i, i < gs.length → ∃ b o, ga = some ⟨b, o, none⟩ ∧ b < w.heap.size ∧ ∀ j, j < gs.length → w.cell? ⟨b, o + j, none⟩ = some (.int .i64 (gs.getD j 0))) ∧ ∀ i, i < ls.length → ∃ b o, la = some ⟨b, o, none⟩ ∧ b < w.heap.size ∧ ∀ j, j < ls.length → w.cell? ⟨b, o + j, none⟩ = some (.bool (ls.getD j false))) :=
    ⟨fun i hi => by obtain ⟨b, o, h1, h2, h3⟩ := hgcell i hi; exact ⟨b, o, h1, hF b h2, h3⟩, fun i hi => by obtain ⟨b, o, h1, h2, h3⟩ := hlcell i hi; exact ⟨b, o, h1, hF b h2, h3⟩⟩
  have HN : Hid (gs.length = ls.length) := hlen
  have HF : Hid (∀ b, F b → b < w.heap.size) := hF
  have HI : Hid (∀ x ∈ gs, In64 x) := hin
  have hgl : gs.length ≤ 1024 := by omega
  clear hgcell hlcell hg hl hF hlen hin hgc hgm hlc hlm
  go_enter Try.func41, Try.ntmps41
  have X0 := ((Box.new w [.slice ga gs.length gc, .slice la ls.length lc] 46).alloc (.cells #[.slice none 0 0, .slice none 0 0] 46)).alloc (.cells #[.int .i64 0, .int .i64 0] 48)
  have Y0 := (Box.new (w.alloc (.cells #[.slice ga gs.length gc, .slice la ls.length lc] 46)) [.slice none 0 0, .slice none 0 0] 46).alloc (.cells #[.int .i64 0, .int .i64 0] 48)
  have Z0 := Box.new ((w.alloc (.cells #[.slice ga gs.length gc, .slice la ls.length lc] 46)).alloc (.cells #[.slice none 0 0, .slice none 0 0] 46)) [.int .i64 0, .int .i64 0] 48
  rw [size_alloc] at Y0 Z0
  rw [size_alloc] at Z0
  have B0 : Below w.heap.size w (((w.alloc (.cells #[.slice ga gs.length gc, .slice la ls.length lc] 46)).alloc (.cells #[.slice none 0 0, .slice none 0 0] 46)).alloc (.cells #[.int .i64 0, .int .i64 0] 48)) := (((Below.refl _ w).alloc (Nat.le_refl _) _).alloc (by simp) _).alloc (by simp; omega) _
  go_wp2_with fail
  go_loopw [5] (fun i wr => ∃ k : Nat, k ≤ ls.length ∧ i = .int .i64 k ∧ Hid (∀ j : Nat, j < k → ls.getD j false = true) ∧ Box wr w.heap.size [.slice ga gs.length gc, .slice la ls.length lc] ∧ Box wr (w.heap.size + 1) [.slice none 0 0, .slice none 0 0] ∧ Box wr (w.heap.size + 1 + 1) [.int .i64 0, .int .i64 0] ∧ Below w.heap.size w wr) (fun i _ => ls.length - (intOf i).toNat)
  case atStart => exact ⟨0, by omega, rfl, (fun j hj => by omega), X0, Y0, Z0, B0⟩
  case round =>
    obtain ⟨k, hk, rfl, hall, X, Y, Z, hbel⟩ := hrel
    clear X0 Y0 Z0 B0
    have x0 := X.cell 0 rfl
    have x1 := X.cell 1 rfl
    by_cases hlt : k < ls.length
    · obtain ⟨b2, o2, hla, hb2, hcl2⟩ := HCl.out.2 k hlt
      obtain ⟨b0, o0, hga, hb0, hcl0⟩ := HCl.out.1 k (by have := HN.out; omega)
      subst hla hga
      have d2 := (hbel.cell (p := ⟨b2, o2 + k, none⟩) hb2).trans (hcl2 k hlt)
      have d0 := (hbel.cell (p := ⟨b0, o0 + k, none⟩) hb0).trans (hcl0 k (by have := HN.out; omega))
      have hk1 : (k : Int) < (ls.length : Int) := by omega
      have hk2 : (k : Int) < (gs.length : Int) := by have := HN.out; omega
      have hk0 : (0 : Int) ≤ (k : Int) := by omega
      obtain ⟨y, hy⟩ : ∃ y, y = ls.getD k false := ⟨_, rfl⟩
      rw [← hy] at d2
      have HY : Hid (y = ls.getD k false) := hy
      have hc0 := hcl0 k (by have := HN.out; omega)
      clear hy hcl2 hcl0 HCl
      cases y
      · have e := freeAt_of ls k hk hall.out (.inr HY.out.symm)
        have E2 : Hid (tkL ls = wL ls k true ∧ tkG gs ls = wG gs k (gs.getD k 0) ∧ tkAt ls = (k : Int) ∧ tkGen gs ls = gs.getD k 0 ∧ tkOk ls = true) := by
          unfold tkL tkG tkAt tkGen tkOk wL wG
          have h1 : k < 1024 := by omega
          have h2 : k < gs.length := by have := HN.out; omega
          rw [e]
          simp only [if_pos hlt, if_pos h1, if_pos h2, decide_eq_true h1, true_and, and_true]
          exact (set_getD_self gs k 0).symm
        have E3 : Hid (∀ x ∈ tkG gs ls, In64 x) := tkG_in HI.out
        have E4 : Hid (∀ x ∈ wG gs k (gs.getD k 0), In64 x) := E2.out.2.1 ▸ E3.out
        clear e hall
        have y0 := Y.cell 0 rfl
        have y1 := Y.cell 1 rfl
        have y2 := Y.frozen 0
        have y3 := Y.frozen 1
        have z0 := Z.cell 0 rfl
        have z1 := Z.cell 1 rfl
        have z2 := Z.frozen 0
        have z3 := Z.frozen 1
        have H1 : Hid (Box wr w.heap.size [.slice (some ⟨b0, o0, none⟩) gs.length gc, .slice (some ⟨b2, o2, none⟩) ls.length lc] ∧ Box wr (w.heap.size + 1) [.slice none 0 0, .slice none 0 0] ∧ Box wr (w.heap.size + 1 + 1) [.int .i64 0, .int .i64 0] ∧ Below w.heap.size w wr ∧ wr.cell? ⟨b0, o0 + k, none⟩ = some (.int .i64 (gs.getD k 0))) := ⟨X, Y, Z, hbel, d0⟩
        have BW : Below wr.heap.size wr wr := Below.refl _ _
        have hwr := Z.lt
        have hB3 := hbel.size
        have H3 : Hid (w.cell? ⟨b0, o0 + k, none⟩ = some (.int .i64 (gs.getD k 0))) := hc0
        clear X Y Z hbel
        generalize gs.getD k 0 = x at *
        go_wp2_with fail
        have H2 : Hid (w.cell? ⟨b0, o0 + k, none⟩ = some (.int .i64 x)) := H3.out
        rename_i K hK
        refine wp_region_each (QI w (.slice (some ⟨b0, o0, none⟩) gs.length gc) (.slice (some ⟨b2, o2, none⟩) ls.length lc)) (QT w.heap.size (.slice (some ⟨b0, o0, none⟩) gs.length gc) (.slice (some ⟨b2, o2, none⟩) ls.length lc) (wG gs k x) (wL ls k true) ⟨b0, o0 + k, none⟩ k x) (by kernel_rfl) (by kernel_rfl) ⟨H1.out.1, ⟨_, _, H1.out.2.1⟩, ⟨_, _, H1.out.2.2.1⟩, H1.out.2.2.2.1.drew⟩ ?hop ?hend
        case hop =>
          refine Each.get (n := 18) ⟨⟨⟨⟨⟨⟨⟨⟨⟨⟨⟨⟨⟨⟨⟨⟨⟨⟨trivial, ?h0⟩, ?h1⟩, ?h2⟩, ?h3⟩, ?h4⟩, ?h5⟩, ?h6⟩, ?h7⟩, ?h8⟩, ?h9⟩, ?h10⟩, ?h11⟩, ?h12⟩, ?h13⟩, ?h14⟩, ?h15⟩, ?h16⟩, ?h17⟩
          case h0 =>
            refine OpIs.plain (by kernel_rfl) _ rfl rfl fun vs ev W hf hI hd => ?_
            have e0 : ev (.tmp 1) = .pointer (some ⟨w.heap.size, 0, none⟩) := hf.off 1 rfl
            have d0 := hI.1.cell 0 rfl
            have d1 := hI.1.cell 1 rfl
            clear hK
            exact gives_pure (v := .agg #[.slice (some ⟨b0, o0, none⟩) gs.length gc, .slice (some ⟨b2, o2, none⟩) ls.length lc]) hI (by simp [gives, go_sem, e0, d0, d1]) rfl
          case h1 =>
            refine OpIs.plain (by kernel_rfl) _ rfl rfl fun vs ev W hf hI hd => ?_
            have e0 : ev (.tmp 5) = .int .i64 k := hf.off 5 rfl
            clear hK
            exact gives_pure (v := .int .i64 k) hI (by simp [gives, go_sem, e0]) rfl
          case h2 =>
            refine OpIs.plain (by kernel_rfl) _ rfl rfl fun vs ev W hf hI hd => ?_
            have e0 : ev (.tmp 1) = .pointer (some ⟨w.heap.size, 0, none⟩) := hf.off 1 rfl
            clear hK
            exact gives_pure (v := .pointer (some ⟨w.heap.size, 0, none⟩)) hI (by simp [gives, go_sem, e0]) rfl
          case h3 =>
            refine OpIs.plain (by kernel_rfl) _ rfl rfl fun vs ev W hf hI hd => ?_
            have e0 : ev (.tmp 22) = .pointer (some ⟨w.heap.size, 0, none⟩) := (hf.of 2 _ 22 rfl rfl rfl (of_decide_eq_true rfl)).trans (hd 2 (by kernel_rfl))
            have d0 := hI.1.cell 0 rfl
            have d1 := hI.1.cell 1 rfl
            clear hK
            exact gives_pure (v := .slice (some ⟨b0, o0, none⟩) gs.length gc) hI (by simp [gives, go_sem, e0, d0]) rfl
          case h4 =>
            refine OpIs.plain (by kernel_rfl) _ rfl rfl fun vs ev W hf hI hd => ?_
            have e0 : ev (.tmp 5) = .int .i64 k := hf.off 5 rfl
            clear hK
            exact gives_pure (v := .int .i64 k) hI (by simp [gives, go_sem, e0]) rfl
          case h5 =>
            refine OpIs.plain (by kernel_rfl) _ rfl rfl fun vs ev W hf hI hd => ?_
            have e0 : ev (.tmp 23) = .slice (some ⟨b0, o0, none⟩) gs.length gc := (hf.of 3 _ 23 rfl rfl rfl (of_decide_eq_true rfl)).trans (hd 3 (by kernel_rfl))
            have e1 : ev (.tmp 24) = .int .i64 k := (hf.of 4 _ 24 rfl rfl rfl (of_decide_eq_true rfl)).trans (hd 4 (by kernel_rfl))
            clear hK
            exact gives_pure (v := .pointer (some ⟨b0, o0 + k, none⟩)) hI (by simp [gives, go_sem, e0, e1, hk0, hk2]) rfl
          case h6 =>
            refine OpIs.plain (by kernel_rfl) _ rfl rfl fun vs ev W hf hI hd => ?_
            have e0 : ev (.tmp 25) = .pointer (some ⟨b0, o0 + k, none⟩) := (hf.of 5 _ 25 rfl rfl rfl (of_decide_eq_true rfl)).trans (hd 5 (by kernel_rfl))
            have d3 := (hI.2.2.2.cell (p := ⟨b0, o0 + k, none⟩) hb0).trans H2.out
            clear hK
            exact gives_pure (v := .int .i64 x) hI (by simp [gives, go_sem, e0, d3]) rfl
          case h7 =>
            refine OpIs.plain (by kernel_rfl) _ rfl rfl fun vs ev W hf hI hd => ?_
            have e0 : ev (.tmp 20) = .agg #[.slice (some ⟨b0, o0, none⟩) gs.length gc, .slice (some ⟨b2, o2, none⟩) ls.length lc] := (hf.of 0 _ 20 rfl rfl rfl (of_decide_eq_true rfl)).trans (hd 0 (by kernel_rfl))
            have e1 : ev (.tmp 21) = .int .i64 k := (hf.of 1 _ 21 rfl rfl rfl (of_decide_eq_true rfl)).trans (hd 1 (by kernel_rfl))
            have e2 : ev (.tmp 26) = .int .i64 x := (hf.of 6 _ 26 rfl rfl rfl (of_decide_eq_true rfl)).trans (hd 6 (by kernel_rfl))
            have eb := hI.2.2.2
            refine gives_mono (R := fun v w' => ∃ e, e = Ending.returned v ∧ CPost W (wG gs k x) (wL ls k true) e w') ?_ ?_
            · have hc := with_c _ _ gs ls k x true W HN.out (Nat.le_trans hll (by decide)) hk (fun b hb => Nat.lt_of_lt_of_le (HF.out b hb) eb.size) (HS.out _ eb).1 (HS.out _ eb).2
              clear hK
              have e3 := hf.const (.bool true)
              have e4 := hf.func 56
              simp [gives, execOp, resolve, invoke, e0, e1, e2, e3, e4, go_sem]
              exact hc.mono fun e w' h => by
                obtain ⟨a, p, b, q, he, h2⟩ := h
                exact ⟨_, he, a, p, b, q, rfl, h2⟩
            · rintro v w' ⟨e, he, a, p, b, q, he2, h2, h3, h4⟩
              rw [he] at he2
              cases he2
              have hz : w.heap.size + 3 ≤ W.heap.size := by obtain ⟨c, d, hh⟩ := hI.2.2.1; have := hh.lt; omega
              exact ⟨⟨a, p, b, q, rfl, h2.mono hz, h3.mono hz⟩, hI.below h4, fun j u _ h => h.below h4⟩
          case h8 =>
            refine OpIs.plain (by kernel_rfl) _ rfl rfl fun vs ev W hf hI hd => ?_
            have e0 : ev (.tmp 5) = .int .i64 k := hf.off 5 rfl
            clear hK
            exact gives_pure (v := .int .i64 k) hI (by simp [gives, go_sem, e0]) rfl
          case h9 =>
            refine OpIs.plain (by kernel_rfl) _ rfl rfl fun vs ev W hf hI hd => ?_
            have e0 : ev (.tmp 1) = .pointer (some ⟨w.heap.size, 0, none⟩) := hf.off 1 rfl
            clear hK
            exact gives_pure (v := .pointer (some ⟨w.heap.size, 0, none⟩)) hI (by simp [gives, go_sem, e0]) rfl
          case h10 =>
            refine OpIs.plain (by kernel_rfl) _ rfl rfl fun vs ev W hf hI hd => ?_
            have e0 : ev (.tmp 29) = .pointer (some ⟨w.heap.size, 0, none⟩) := (hf.of 9 _ 29 rfl rfl rfl (of_decide_eq_true rfl)).trans (hd 9 (by kernel_rfl))
            have d0 := hI.1.cell 0 rfl
            have d1 := hI.1.cell 1 rfl
            clear hK
            exact gives_pure (v := .slice (some ⟨b0, o0, none⟩) gs.length gc) hI (by simp [gives, go_sem, e0, d0]) rfl
          case h11 =>
            refine OpIs.plain (by kernel_rfl) _ rfl rfl fun vs ev W hf hI hd => ?_
            have e0 : ev (.tmp 5) = .int .i64 k := hf.off 5 rfl
            clear hK
            exact gives_pure (v := .int .i64 k) hI (by simp [gives, go_sem, e0]) rfl
          case h12 =>
            refine OpIs.plain (by kernel_rfl) _ rfl rfl fun vs ev W hf hI hd => ?_
            have e0 : ev (.tmp 30) = .slice (some ⟨b0, o0, none⟩) gs.length gc := (hf.of 10 _ 30 rfl rfl rfl (of_decide_eq_true rfl)).trans (hd 10 (by kernel_rfl))
            have e1 : ev (.tmp 31) = .int .i64 k := (hf.of 11 _ 31 rfl rfl rfl (of_decide_eq_true rfl)).trans (hd 11 (by kernel_rfl))
            clear hK
            exact gives_pure (v := .pointer (some ⟨b0, o0 + k, none⟩)) hI (by simp [gives, go_sem, e0, e1, hk0, hk2]) rfl
          case h13 =>
            refine OpIs.plain (by kernel_rfl) _ rfl rfl fun vs ev W hf hI hd => ?_
            have e0 : ev (.tmp 32) = .pointer (some ⟨b0, o0 + k, none⟩) := (hf.of 12 _ 32 rfl rfl rfl (of_decide_eq_true rfl)).trans (hd 12 (by kernel_rfl))
            have d3 := (hI.2.2.2.cell (p := ⟨b0, o0 + k, none⟩) hb0).trans H2.out
            clear hK
            exact gives_pure (v := .int .i64 x) hI (by simp [gives, go_sem, e0, d3]) rfl
          case h14 =>
            refine OpIs.plain (by kernel_rfl) _ rfl rfl fun vs ev W hf hI hd => ?_
            have e0 : ev (.tmp 28) = .int .i64 k := (hf.of 8 _ 28 rfl rfl rfl (of_decide_eq_true rfl)).trans (hd 8 (by kernel_rfl))
            have e1 : ev (.tmp 33) = .int .i64 x := (hf.of 13 _ 33 rfl rfl rfl (of_decide_eq_true rfl)).trans (hd 13 (by kernel_rfl))
            clear hK
            exact gives_pure (v := .agg #[.int .i64 k, .int .i64 x]) hI (by simp [gives, go_sem, e0, e1]) rfl
          case h15 =>
            refine OpIs.plain (by kernel_rfl) _ rfl rfl fun vs ev W hf hI hd => ?_
            have e0 : ev (.tmp 2) = .pointer (some ⟨w.heap.size + 1, 0, none⟩) := hf.off 2 rfl
            obtain ⟨a, p, b, q, h1, h2, h3⟩ : QT _ _ _ _ _ _ _ _ 7 (vs 7) W := hd 7 (by kernel_rfl)
            have e1 := (hf.of 7 _ 27 rfl rfl rfl (of_decide_eq_true rfl)).trans h1
            obtain ⟨c, d, hb⟩ := hI.2.1
            have d0 := hb.cell 0 rfl
            have d1 := hb.cell 1 rfl
            have d2 := hb.frozen 0
            have d3 := hb.frozen 1
            clear hK
            refine gives_mono (R := fun v w' => w' = (W.setCell ⟨w.heap.size + 1, 0, none⟩ (.slice a (wG gs k x).length p)).setCell ⟨w.heap.size + 1, 1, none⟩ (.slice b (wL ls k true).length q)) (by simp [gives, go_sem, e0, e1, d0, d1, d2, d3]) ?_
            rintro v w' rfl
            refine ⟨⟨a, p, b, q, (hb.self 0 _).self 1 _, (h2.put (p := ⟨w.heap.size + 1, 0, none⟩) (by simp only; omega) _).put (p := ⟨w.heap.size + 1, 1, none⟩) (by simp only; omega) _, (h3.put (p := ⟨w.heap.size + 1, 0, none⟩) (by simp only; omega) _).put (p := ⟨w.heap.size + 1, 1, none⟩) (by simp only; omega) _⟩, hI.put1 _ _, fun j u hj h => ?_⟩
            exact (h.put (j := 0) _ 0 _ (by omega) (fun e => absurd e hj) (fun _ => by omega)).put (j := 0) _ 1 _ (by omega) (fun e => absurd e hj) (fun _ => by omega)
          case h16 =>
            refine OpIs.plain (by kernel_rfl) _ rfl rfl fun vs ev W hf hI hd => ?_
            have e0 : ev (.tmp 3) = .pointer (some ⟨w.heap.size + 1 + 1, 0, none⟩) := hf.off 3 rfl
            have e1 : ev (.tmp 34) = .agg #[.int .i64 k, .int .i64 x] := (hf.of 14 _ 34 rfl rfl rfl (of_decide_eq_true rfl)).trans (hd 14 (by kernel_rfl))
            obtain ⟨c, d, hb⟩ := hI.2.2.1
            have d0 := hb.cell 0 rfl
            have d1 := hb.cell 1 rfl
            have d2 := hb.frozen 0
            have d3 := hb.frozen 1
            clear hK
            refine gives_mono (R := fun v w' => w' = (W.setCell ⟨w.heap.size + 1 + 1, 0, none⟩ (.int .i64 k)).setCell ⟨w.heap.size + 1 + 1, 1, none⟩ (.int .i64 x)) (by simp [gives, go_sem, e0, e1, d0, d1, d2, d3]) ?_
            rintro v w' rfl
            refine ⟨(hb.self 0 _).self 1 _, hI.put2 _ _, fun j u hj h => ?_⟩
            exact (h.put (j := 0) _ 0 _ (by omega) (fun _ => by omega) (fun e => absurd e hj)).put (j := 0) _ 1 _ (by omega) (fun _ => by omega) (fun e => absurd e hj)
          case h17 =>
            refine OpIs.plain (by kernel_rfl) _ rfl rfl fun vs ev W hf hI hd => ?_
            have e0 := hf.const (.bool true)
            clear hK
            exact gives_pure (v := .bool true) hI (by simp [gives, go_sem, e0]) rfl
        case hend =>
          intro vs W hI hT
          obtain ⟨a, p, b, q, h1, h2, h3⟩ := hT 15 (by decide)
          have h4 := hT 16 (by decide)
          refine ⟨?_⟩
          have h17 : vs 17 = .bool true := hT 17 (by decide)
          simp [fr, Act.put, h17]
          clear hT h17
          refine hK _ _ ?_
          clear hK H1 H2 H3 y0 y1 y2 y3 z0 z1 z2 z3 x0 x1 d0 d2
          go_wp2_with fail
          have r0 := h1.cell 0 rfl
          have r1 := h1.cell 1 rfl
          have r2 := h4.cell 0 rfl
          have r3 := h4.cell 1 rfl
          refine bodyPost_ret (v := .tuple #[.agg #[.slice a (wG gs k x).length p, .slice b (wL ls k true).length q], .agg #[.int .i64 k, .int .i64 x], .bool true]) (by simp [results, Try.results41, go_sem, r0, r1, r2, r3]) rfl ?_
          obtain ⟨e1, e2, e3, e4, e5⟩ := E2.out
          rw [e1, e2, e3, e4, e5]
          exact ⟨_, _, rfl, own_slI h2 E4.out, own_slB h3, hI.2.2.2⟩
      · clear d0 hk2
        go_wp2_with fail
        go_roundw
        case rel =>
          refine ⟨k + 1, by omega, by go_num, (fun j hj => ?_), X, Y, Z, hbel⟩
          by_cases hjk : j < k
          · exact hall.out j hjk
          · have : j = k := by omega
            subst this
            exact HY.out.symm
        case measure => simp [intOf]; omega
    · have hke : k = ls.length := by omega
      subst hke
      have e := freeAt_of ls ls.length (Nat.le_refl _) hall.out (.inl rfl)
      have y0 := Y.cell 0 rfl
      have y1 := Y.cell 1 rfl
      have y2 := Y.frozen 0
      have y3 := Y.frozen 1
      have z0 := Z.cell 0 rfl
      have z1 := Z.cell 1 rfl
      have z2 := Z.frozen 0
      have z3 := Z.frozen 1
      by_cases hn : ls.length = 1024
      · have E2 : Hid (tkL ls = ls ∧ tkG gs ls = gs ∧ tkAt ls = 0 ∧ tkGen gs ls = 0 ∧ tkOk ls = false) := by
          have h1 : ¬ ls.length < 1024 := by omega
          have h2 : ¬ ls.length < ls.length := by omega
          unfold tkL tkG tkAt tkGen tkOk
          rw [e]
          simp [h1]
          exact (trivial : True)
        have hd : ((ls.length : Int) == 1024) = true := by simp; omega
        have HP : Hid (Box (((wr.setCell ⟨w.heap.size + 1, 0, none⟩ (.slice ga gs.length gc)).setCell ⟨w.heap.size + 1, 1, none⟩ (.slice la ls.length lc)).setCell ⟨w.heap.size + 1 + 1, 0, none⟩ (.int .i64 0) |>.setCell ⟨w.heap.size + 1 + 1, 1, none⟩ (.int .i64 0)) (w.heap.size + 1) [.slice ga gs.length gc, .slice la ls.length lc] ∧ Box (((wr.setCell ⟨w.heap.size + 1, 0, none⟩ (.slice ga gs.length gc)).setCell ⟨w.heap.size + 1, 1, none⟩ (.slice la ls.length lc)).setCell ⟨w.heap.size + 1 + 1, 0, none⟩ (.int .i64 0) |>.setCell ⟨w.heap.size + 1 + 1, 1, none⟩ (.int .i64 0)) (w.heap.size + 1 + 1) [.int .i64 0, .int .i64 0] ∧
            Below w.heap.size w (((wr.setCell ⟨w.heap.size + 1, 0, none⟩ (.slice ga gs.length gc)).setCell ⟨w.heap.size + 1, 1, none⟩ (.slice la ls.length lc)).setCell ⟨w.heap.size + 1 + 1, 0, none⟩ (.int .i64 0) |>.setCell ⟨w.heap.size + 1 + 1, 1, none⟩ (.int .i64 0))) :=
          ⟨(((Y.self 0 _).self 1 _).set (p := ⟨w.heap.size + 1 + 1, 0, none⟩) (by simp) _).set (p := ⟨w.heap.size + 1 + 1, 1, none⟩) (by simp) _, (((Z.set (p := ⟨w.heap.size + 1, 0, none⟩) (by simp) _).set (p := ⟨w.heap.size + 1, 1, none⟩) (by simp) _).self 0 _).self 1 _,
            (((hbel.setCell (p := ⟨w.heap.size + 1, 0, none⟩) (by simp) _).setCell (p := ⟨w.heap.size + 1, 1, none⟩) (by simp) _).setCell (p := ⟨w.heap.size + 1 + 1, 0, none⟩) (by simp; omega) _).setCell (p := ⟨w.heap.size + 1 + 1, 1, none⟩) (by simp; omega) _⟩
        clear e hall HCl hn
        go_wp2_with fail
        obtain ⟨p1, p2, p3⟩ := HP.out
        have r0 := p1.cell 0 rfl
        have r1 := p1.cell 1 rfl
        have r2 := p2.cell 0 rfl
        have r3 := p2.cell 1 rfl
        refine bodyPost_ret (v := .tuple #[.agg #[.slice ga gs.length gc, .slice la ls.length lc], .agg #[.int .i64 0, .int .i64 0], .bool false]) (by simp [results, Try.results41, go_sem, r0, r1, r2, r3]) rfl ?_
        obtain ⟨e1, e2, e3, e4, e5⟩ := E2.out
        rw [e1, e2, e3, e4, e5]
        exact ⟨_, _, rfl, (HS.out _ p3).1.mono RInt.ok (fun b hb => Nat.lt_of_lt_of_le (HF.out b hb) p3.size), (HS.out _ p3).2.mono RBool.ok (fun b hb => Nat.lt_of_lt_of_le (HF.out b hb) p3.size), p3⟩
      · have E2 : Hid (tkL ls = wL ls ls.length true ∧ tkG gs ls = wG gs ls.length 0 ∧ tkAt ls = (ls.length : Int) ∧ tkGen gs ls = 0 ∧ tkOk ls = true) := by
          have h1 : ls.length < 1024 := by omega
          have h2 : ¬ ls.length < ls.length := by omega
          have h3 : ¬ ls.length < gs.length := by have := HN.out; omega
          unfold tkL tkG tkAt tkGen tkOk wL wG
          rw [e]
          simp only [if_pos h1, if_neg h2, if_neg h3, decide_eq_true h1, true_and, and_true]
          rw [← HN.out]; simp
          exact (trivial : True)
        have hd : ((ls.length : Int) == 1024) = false := by simp; omega
        have E4 : Hid (∀ x ∈ wG gs ls.length 0, In64 x) := E2.out.2.1 ▸ tkG_in HI.out
        clear e hall HCl hn
        go_wp2_with fail
        refine (with_c _ _ gs ls ls.length 0 true _ HN.out (Nat.le_trans hll (by decide)) (Nat.le_refl _) (fun b hb => Nat.lt_of_lt_of_le (HF.out b hb) hbel.size) (HS.out _ hbel).1 (HS.out _ hbel).2).mono ?_; rintro e w5 ⟨a5, p5, b5, q5, rfl, o5, o6, c5⟩
        have hz : w.heap.size + 3 ≤ wr.heap.size := by have := Z.lt; omega
        have T0 := tk_fin (at_ := (ls.length : Int)) (gen := 0) (o5.mono hz) (o6.mono hz) (Y.call c5) (Z.call c5) (after hbel hbel.size c5) _ rfl
        have HT : Hid (OwnI _ _ _ _ ∧ OwnB _ _ _ _ ∧ Below _ _ _ ∧ _ ∧ _ ∧ _ ∧ _) := T0
        have t2 := (Y.call c5).cell 0 rfl
        have t3 := (Y.call c5).cell 1 rfl
        have t4 := (Y.call c5).frozen 0
        have t5 := (Y.call c5).frozen 1
        have t6 := (Z.call c5).cell 0 rfl
        have t7 := (Z.call c5).cell 1 rfl
        have t8 := (Z.call c5).frozen 0
        have t9 := (Z.call c5).frozen 1
        clear T0 o5 o6 c5 X Y Z hbel hz x0 x1 y0 y1 y2 y3 z0 z1 z2 z3
        go_wp2_with fail
        obtain ⟨r1, r2, r3, c0, c1, c2, c3⟩ := HT.out
        refine bodyPost_ret (v := .tuple #[.agg #[.slice a5 (wG gs ls.length 0).length p5, .slice b5 (wL ls ls.length true).length q5], .agg #[.int .i64 ls.length, .int .i64 0], .bool true]) (by simp [results, Try.results41, go_sem, c0, c1, c2, c3]) rfl ?_
        obtain ⟨e1, e2, e3, e4, e5⟩ := E2.out
        rw [e1, e2, e3, e4, e5]
        exact ⟨_, _, rfl, own_slI r1 E4.out, own_slB r2, r3⟩
end Go.Proofs.Ytlcefgdiclpcjaa
