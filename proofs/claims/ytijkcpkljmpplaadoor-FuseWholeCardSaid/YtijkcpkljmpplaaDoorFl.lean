/- Layer 16: fuse.leaders. -/
import Derived.Test.YtijkcpkljmpplaaDoorFm
namespace Go.Proofs.YtijkcpkljmpplaaDoor
open Go.RowKit Go.Bx Go.Od Go.Hp Go.Shelf
set_option linter.unusedVariables false

def ldCond (S : Nat → Bool) (us : Nat → List Nat) (op : Nat → Int) (out : Int) (on : Bool) (k : Nat) : Bool :=
  on && (((((us k).filter S).length : Int) == 1) && (!((k : Int) == out) && (byPt (op k) && byPt (op (lastN ((us k).filter S))))))
def setM (m : Nat → Option Nat) (k v : Nat) : Nat → Option Nat := fun r => if r = k then some v else m r
def ldStep (S : Nat → Bool) (us : Nat → List Nat) (op : Nat → Int) (out : Int) (on : Bool) (m : Nat → Option Nat) (k : Nat) : Nat → Option Nat :=
  if S k then (if ldCond S us op out on k then setM (setM m k k) k ((setM m k k (lastN ((us k).filter S))).getD 0) else setM m k k) else m
def ldFold {n : Nat} (S : Nat → Bool) (us : Nat → List Nat) (op : Nat → Int) (out : Int) (on : Bool) (pre : List (BkE n)) : Nat → Option Nat :=
  pre.foldl (fun m x => ldStep S us op out on m x.2.1) fun _ => none
theorem ldFold_snoc {n : Nat} (S : Nat → Bool) (us : Nat → List Nat) (op : Nat → Int) (out : Int) (on : Bool) (pre : List (BkE n)) (x : BkE n) : ldFold S us op out on (pre ++ [x]) = ldStep S us op out on (ldFold S us op out on pre) x.2.1 := by
  simp [ldFold]
theorem ldFold_all {n : Nat} {all : List Nat} (S : Nat → Bool) (us : Nat → List Nat) (op : Nat → Int) (out : Int) (on : Bool) (f : Nat → BkE n) (h : ∀ j, j < all.length → (f j).2.1 = all.getD (all.length - 1 - j) 0) : ldFold S us op out on (bkUp f all.length) = all.reverse.foldl (ldStep S us op out on) fun _ => none := by
  have e : (bkUp f all.length).map (fun x => x.2.1) = all.reverse := by
    apply List.ext_getElem
    · simp [bkUp]
    · intro i h1 h2
      have hi : i < all.length := by simpa using h2
      have := h i hi
      simp [bkUp] at this ⊢
      rw [this]
      simp [show all.length - 1 - i < all.length by omega]
  rw [← e, List.foldl_map]
  rfl
def LdPost (w : World) (n : Nat) (m : Nat → Option Nat) (e : Ending) (w' : World) : Prop := ∃ bm, w.heap.size ≤ bm ∧ e = .returned (.map (some bm)) ∧ MapI w' bm n 4000 m ∧ Below w.heap.size w w'
section
attribute [local go_sem] Oper.semAt_some
set_option maxRecDepth 100000 in
set_option maxHeartbeats 4000000 in
theorem leaders_in (F : Fence) (N : Nat) (hfn : ∀ f, F.fn f) (hro : F.round = none) (hN : 6 ≤ N) (hcw : ∀ {m : Nat} {P : Program} {f : FuncId} {args : Array Value} {w : World} {R : Ending → World → Prop}, Calls P f args w R → CallsIn F m P f args w R) (B Ba : Nat) (nv allv : Value) (nds : List Nd) (out : Int) (on : Bool) (all : List Nat) (w : World) (hm : nds.length ≤ 999) (hl : ∀ i, i < nds.length → (nds.getD i Nd.none).ins.length ≤ 1000) (hg : Gr B w nv nds) (hB : B ≤ w.heap.size)
    (ho : OwnP w Ba allv (ofN all)) (hne : 0 < all.length) (hal : all.length ≤ 1000) (hab : ∀ k ∈ all, k < nds.length) :
    CallsIn F N Tryd.prog 20 #[.agg #[nv, .int .i64 out], allv, .bool on] w
      (LdPost w nds.length (all.reverse.foldl (ldStep (ned (insOf nds) out) (users (insOf nds)) (fun k => (nds.getD k Nd.none).op) out on) fun _ => none)) := by
  have h1N : 1 ≤ N := by omega
  obtain ⟨n, hn⟩ : ∃ n, n = nds.length := ⟨_, rfl⟩
  have hmm := @run_makeMap Tryd.prog
  obtain ⟨ga, gc, rfl⟩ := hg.isSl
  have hgl := hg.len_le
  obtain ⟨ab, ac, rfl, hac, hacm, habl, hacc⟩ : ∃ ab ac, allv = .slice (some ⟨ab, 0, none⟩) all.length ac ∧ all.length ≤ ac ∧ ac ≤ maxLen ∧ ab < w.heap.size ∧ ∀ j, j < all.length → w.cell? ⟨ab, j, none⟩ = some (.int .i64 (all.getD j 0 : Nat)) := by
    rcases ho.form with ⟨_, h⟩ | ⟨g, cap, h1, _, h2, h3, h4, _, _, h5⟩
    · have : all.length = 0 := by rw [← ofN_len, h]; rfl
      omega
    · rw [ofN_len] at h1 h3 h5
      refine ⟨g, cap, h1, h3, h4, h2, fun j hj => ?_⟩
      rw [h5 j hj]
      simp [ofN, hj]
  have X := Box.new w [.slice ga nds.length gc, .int .i64 out] 24
  have B1 : Below w.heap.size w ((w.alloc (.cells #[.slice ga nds.length gc, .int .i64 out] 24)).alloc (.cells #[.bool on] 4)) := ((Below.refl _ w).alloc (Nat.le_refl _) _).alloc (by rw [size_alloc]; omega) _
  have X2 := X.alloc (.cells #[.bool on] 4)
  have Y2 := Box.new (w.alloc (.cells #[.slice ga nds.length gc, .int .i64 out] 24)) [.bool on] 4
  rw [size_alloc] at Y2
  have hsz : ((w.alloc (.cells #[.slice ga nds.length gc, .int .i64 out] 24)).alloc (.cells #[.bool on] 4)).heap.size = w.heap.size + 2 := by rw [size_alloc, size_alloc]
  obtain ⟨W2, hW2⟩ : ∃ W, W = ((w.alloc (.cells #[.slice ga nds.length gc, .int .i64 out] 24)).alloc (.cells #[.bool on] 4)) := ⟨_, rfl⟩
  rw [← hW2] at B1 X2 Y2 hsz
  have HW : Hid (W2 = ((w.alloc (.cells #[.slice ga nds.length gc, .int .i64 out] 24)).alloc (.cells #[.bool on] 4))) := hW2
  clear hW2 X
  have HN : Hid (∀ (m : Nat) (W : World), Below w.heap.size w W → CallsIn F m Tryd.prog 30 #[.agg #[.slice ga nds.length gc, .int .i64 out]] W (NePost W nds.length (ned (insOf nds) out))) := fun m W hb =>
    hcw (needed_c B _ nds out W hm hl (hg.below hb hB) (Nat.le_trans hB hb.size))
  have HU : Hid (∀ (m : Nat) (W : World), Below w.heap.size w W → CallsIn F m Tryd.prog 27 #[.agg #[.slice ga nds.length gc, .int .i64 out]] W (UsPost W nds.length (users (insOf nds)))) := fun m W hb =>
    hcw (uses_c B _ nds out W hm hl (hg.below hb hB) (Nat.le_trans hB hb.size))
  have x0 := X2.cell 0 rfl
  have x1 := X2.cell 1 rfl
  refine callsIn_of_wp_marks Tryd.func20 rfl (hfn _) ?_ hro
  simp only [Tryd.ntmps20, List.size_toArray, List.length_cons, List.length_nil, Nat.reduceAdd, Nat.reduceSub, Array.replicate_succ, Array.replicate_zero, List.push_toArray, List.append_toArray, List.nil_append, List.cons_append]
  gi_wp2
  rw [← HW.out]
  gi_wp2_with (first
    | (gi_at_call 30; refine (HN.out _ _ B1).mono ?_; rintro e w3 ⟨O, hO, rfl, hbO, b3⟩; have z0 := cell_alloc_lt ((X2.call b3).cell 0 rfl) (.cells #[.slice (some ⟨O, 0, none⟩) nds.length nds.length] 32); have z1 := cell_alloc_lt ((X2.call b3).cell 1 rfl) (.cells #[.slice (some ⟨O, 0, none⟩) nds.length nds.length] 32))
    | (gi_at_call 27; refine (HU.out _ _ (B1.trans ((b3.trans (below_alloc _ _ |>.mono b3.size)).mono B1.size))).mono ?_; rintro e w4 ⟨U, vs, hU, rfl, hus, b4⟩)
    | (gi_at_call 31; refine (back_in F _ (hfn _) hro _ _ _ _).mono ?_; rintro e w' ⟨rfl, rfl⟩))
  -- THE LOOP
  obtain ⟨Wm, hWm⟩ : ∃ W, W = w4.alloc (.cells #[.slice (some ⟨U, 0, none⟩) nds.length nds.length] 27) := ⟨_, rfl⟩
  have hms : Wm.heap.size = w4.heap.size + 1 := by rw [hWm, size_alloc]
  have b34 : Below (w3.alloc (.cells #[.slice (some ⟨O, 0, none⟩) nds.length nds.length] 32)).heap.size (w3.alloc (.cells #[.slice (some ⟨O, 0, none⟩) nds.length nds.length] 32)) Wm := by
    rw [hWm]; exact b4.trans ((below_alloc _ _).mono b4.size)
  have b24 : Below W2.heap.size W2 Wm := (b3.trans ((below_alloc _ _).mono b3.size)).trans (b34.mono (by rw [size_alloc]; have := b3.size; omega))
  have hBm : Below w.heap.size w Wm := B1.trans (b24.mono B1.size)
  have g0 := (X2.call b24).cell 0 rfl
  have g1 := (X2.call b24).cell 1 rfl
  have g2 := (Y2.call b24).cell 0 rfl
  have g3 := ((Box.new w3 [.slice (some ⟨O, 0, none⟩) nds.length nds.length] 32).call b34).cell 0 rfl
  have hbO' : Box Wm O (bc nds.length (ned (insOf nds) out)) := (hbO.alloc _).call b34
  have g4 : Wm.cell? ⟨w4.heap.size, 0, none⟩ = some (.slice (some ⟨U, 0, none⟩) nds.length nds.length) := by rw [hWm]; exact (Box.new w4 [.slice (some ⟨U, 0, none⟩) nds.length nds.length] 27).cell 0 rfl
  have hus' : US Wm U nds.length none (users (insOf nds)) vs := by rw [hWm]; exact hus.alloc _
  have hgm : Gr B Wm (.slice ga nds.length gc) nds := hg.below hBm hB
  have hacm : ∀ j, j < all.length → Wm.cell? ⟨ab, j, none⟩ = some (.int .i64 (all.getD j 0 : Nat)) := fun j hj => (hBm.cell (p := ⟨ab, j, none⟩) habl).trans (hacc j hj)
  have hM0 := MapI.made Wm nds.length (by omega)
  rw [hms] at hM0
  have e9 := ((Box.new (Wm.alloc (.map #[] 0)) [.map (some (w4.heap.size + 1))] 43).alloc (.cells #[.slice (some ⟨ab, 0, none⟩) all.length ac] 30)).cell 0 rfl
  rw [size_alloc, hms] at e9
  have eS := (Box.new ((Wm.alloc (.map #[] 0)).alloc (.cells #[.map (some (w4.heap.size + 1))] 43)) [.slice (some ⟨ab, 0, none⟩) all.length ac] 30).cell 0 rfl
  rw [size_alloc, size_alloc, hms] at eS
  have hB0 : Below Wm.heap.size Wm (((Wm.alloc (.map #[] 0)).alloc (.cells #[.map (some (w4.heap.size + 1))] 43)).alloc (.cells #[.slice (some ⟨ab, 0, none⟩) all.length ac] 30)) := (((Below.refl _ _).alloc (Nat.le_refl _) _).alloc (by rw [size_alloc]; omega) _).alloc (by rw [size_alloc, size_alloc]; omega) _
  have hs0 : (((Wm.alloc (.map #[] 0)).alloc (.cells #[.map (some (w4.heap.size + 1))] 43)).alloc (.cells #[.slice (some ⟨ab, 0, none⟩) all.length ac] 30)).heap.size = w4.heap.size + 4 := by rw [size_alloc, size_alloc, size_alloc, hms]
  have hM00 := (hM0.alloc (.cells #[.map (some (w4.heap.size + 1))] 43)).alloc (.cells #[.slice (some ⟨ab, 0, none⟩) all.length ac] 30)
  rw [← hWm]
  obtain ⟨W0, hW0⟩ : ∃ W, W = ((Wm.alloc (.map #[] 0)).alloc (.cells #[.map (some (w4.heap.size + 1))] 43)).alloc (.cells #[.slice (some ⟨ab, 0, none⟩) all.length ac] 30) := ⟨_, rfl⟩
  rw [← hW0] at e9 eS hB0 hs0 hM00 ⊢
  have hread : ∀ {W : World} {a : Addr} {v : Value}, Below Wm.heap.size Wm W → Wm.cell? a = some v → W.cell? a = some v := fun hb h => (hb.cell (lt_of_cell h)).trans h
  have hus2 : ∀ {W : World}, Below Wm.heap.size Wm W → US W U nds.length none (users (insOf nds)) vs := fun hb => hus'.grow hb
  have hbO2 : ∀ {W : World}, Below Wm.heap.size Wm W → Box W O (bc nds.length (ned (insOf nds) out)) := fun hb => hbO'.call hb
  have hgm2 : ∀ {W : World}, Below Wm.heap.size Wm W → Gr B W (.slice ga nds.length gc) nds := fun hb => hgm.below hb (by have := hBm.size; omega)
  have habm : ab < Wm.heap.size := Nat.lt_of_lt_of_le habl hBm.size
  have HQ : Hid (all.length ≤ 1000 ∧ nds.length ≤ 999 ∧ w.heap.size ≤ w4.heap.size + 1) := ⟨hal, hm, by have := hBm.size; omega⟩
  clear hbO hus b3 b4 b34 b24 hWm hg hM0 hW0 HN HU x0 x1 z0 z1 hacc X2 Y2 B1 HW ho hl hU hO
  obtain ⟨zs, hzs⟩ : ∃ zs : Nat → BkE nds.length, ∀ j, j < all.length → ((zs j).2.1 = all.getD j 0) := by
    have hpos : 0 < nds.length := by
      have : all.getD 0 0 ∈ all := by
        have : all[0]? = some (all.getD 0 0) := by simp [hne]
        exact List.mem_of_getElem? this
      exact Nat.lt_of_le_of_lt (Nat.zero_le _) (hab _ this)
    refine ⟨fun j => if h : all.getD j 0 < nds.length then (0, ⟨all.getD j 0, h⟩) else (0, ⟨0, hpos⟩), fun j hj => ?_⟩
    have hlt : all.getD j 0 < nds.length := hab _ (List.mem_of_getElem? (show all[j]? = some (all.getD j 0) by simp [hj]))
    simp only [dif_pos hlt]
  have hkey : ∀ (pre : List (BkE nds.length)), OwnFrom W0.heap.size (fun (_ : List (BkE nds.length)) (W : World) => Below Wm.heap.size Wm W ∧ W.heap[w4.heap.size + 1 + 1]? = W0.heap[w4.heap.size + 1 + 1]? ∧ W.heap[w4.heap.size + 1 + 1 + 1]? = W0.heap[w4.heap.size + 1 + 1 + 1]?) := fun _ s A B' row hs hg' hr => by
    have hne : ∀ j, j < w4.heap.size + 4 → some j ≠ row := fun j hj e => by have := (hr j e.symm).1; rw [hs0] at this; omega
    have hszA : Wm.heap.size ≤ A.heap.size := hs.1.size
    refine ⟨hs.1.grown hg' hszA (fun k e => by have := (hr k e).1; rw [hs0] at this; omega), ?_, ?_⟩
    · have hlt : w4.heap.size + 1 + 1 < A.heap.size := by
        have h1 := heap_at (o := 0) hs.2.1 e9
        exact lt_of_cell h1
      exact (hg'.block _ hlt (hne _ (by omega))).trans hs.2.1
    · have hlt : w4.heap.size + 1 + 1 + 1 < A.heap.size := by
        have h1 := heap_at (o := 0) hs.2.2 eS
        exact lt_of_cell h1
      exact (hg'.block _ hlt (hne _ (by omega))).trans hs.2.2
  refine wpIn_rangeFunc_ownG hro h1N (gf := 40) (lb := #[.pointer (some ⟨w4.heap.size + 1 + 1 + 1, 0, none⟩)]) rfl (hfn _) (enters_of Tryd.func40 (by kernel_rfl) rfl)
    (back_stops F (N - 1) (hfn _) hro (by omega) (w4.heap.size + 1 + 1 + 1) Wm.heap.size ab 0 all.length ac zs (by omega) habm W0 (by omega) (by omega) eS (fun j hj => by rw [hzs j hj, Nat.zero_add]; exact hread hB0 (hacm j hj)))
    (fun h k => h.trans k)
    (fun W l o o' hl ho hcell hwalk => ⟨belowK_b (w := W0) (by omega) W l o o' hl ho hcell hwalk, World.putObj_heap_other (by omega)⟩)
    (Below.refl _ _) (fun _ => rfl)
    (fun pre W => (Below Wm.heap.size Wm W ∧ W.heap[w4.heap.size + 1 + 1]? = W0.heap[w4.heap.size + 1 + 1]? ∧ W.heap[w4.heap.size + 1 + 1 + 1]? = W0.heap[w4.heap.size + 1 + 1 + 1]?) ∧
      MapI W (w4.heap.size + 1) nds.length (2 * pre.length) (ldFold (ned (insOf nds) out) (users (insOf nds)) (fun k => (nds.getD k Nd.none).op) out on pre))
    (fun _ _ _ => False)
    (fun s A B' row hs hg' hr => ⟨hkey s s A B' row hs.1 hg' hr, hs.2.kept hg' (fun e => by have := (hr _ e.symm).1; rw [hs0] at this; omega)⟩)
    (fun _ _ _ _ _ hs _ _ => hs)
    ⟨⟨hB0, rfl, rfl⟩, hM00⟩
    (fun x => { tmps := #[.agg #[.slice ga nds.length gc, .int .i64 out], .slice (some ⟨ab, 0, none⟩) all.length ac, .bool on, .pointer (some ⟨w.heap.size, 0, none⟩), undef, .pointer (some ⟨w.heap.size + 1, 0, none⟩), .map none, .pointer (some ⟨w3.heap.size, 0, none⟩), .pointer (some ⟨w4.heap.size, 0, none⟩), .pointer (some ⟨w4.heap.size + 1 + 1, 0, none⟩), undef, .int .i64 (x.2.1 : Int), undef, undef,
      .agg #[.slice ga nds.length gc, .int .i64 out], .slice (some ⟨O, 0, none⟩) nds.length nds.length, .agg #[.slice ga nds.length gc, .int .i64 out], .slice (some ⟨U, 0, none⟩) nds.length nds.length, .map (some (w4.heap.size + 1)), .slice (some ⟨ab, 0, none⟩) all.length ac, .func (.func 40) #[] #[.pointer (some ⟨w4.heap.size + 1 + 1 + 1, 0, none⟩)], .int .i64 (x.1 : Int), .int .i64 (x.2.1 : Int), undef, undef, undef, undef, undef, undef, undef, undef, undef, undef, undef, undef, undef, undef, undef, undef, undef, undef, undef, undef, undef, undef, undef, undef, undef, undef, undef, undef, undef, undef, undef, undef, undef, undef, undef, undef, undef, undef, undef, undef, undef, undef, undef, undef, undef, undef, undef, undef, undef], defers := [] }) ?assign ?body ?done ?stop
  case assign =>
    intro l x W K hK
    gi_wp2
    exact hK
  case body =>
    rintro l pre ⟨i, k, hk⟩ W ⟨⟨hB, h9, hS⟩, hM⟩ hlt
    have hN2 : 1 ≤ N - 1 - 1 := by omega
    have f0 := hread hB g0
    have f1 := hread hB g1
    have f2 := hread hB g2
    have f3 := hread hB g3
    have f4 := hread hB g4
    have f9 := heap_at (o := 0) h9 e9
    have fS := heap_at (o := 0) hS eS
    have fO := (hbO2 hB).cell k (bc_get _ hk)
    obtain ⟨m, hm⟩ : ∃ m, m = ldFold (ned (insOf nds) out) (users (insOf nds)) (fun k => (nds.getD k Nd.none).op) out on pre := ⟨_, rfl⟩
    rw [← hm] at hM
    have HM : Hid (ldFold (ned (insOf nds) out) (users (insOf nds)) (fun k => (nds.getD k Nd.none).op) out on (pre ++ [(i, ⟨k, hk⟩)]) = ldStep (ned (insOf nds) out) (users (insOf nds)) (fun k => (nds.getD k Nd.none).op) out on m k) := by
      rw [hm]; exact ldFold_snoc _ _ _ _ _ _ _
    clear hm
    have hk0 : (0 : Int) ≤ (k : Int) := by omega
    have hk1 : (k : Int) < (nds.length : Int) := by omega
    cases hSk : ned (insOf nds) out k with
    | false =>
      rw [hSk] at fO
      have HE : Hid (ldStep (ned (insOf nds) out) (users (insOf nds)) (fun k => (nds.getD k Nd.none).op) out on m k = m) := by
        have : ldStep (ned (insOf nds) out) (users (insOf nds)) (fun k => (nds.getD k Nd.none).op) out on m k = m := by
          unfold ldStep
          rw [hSk, if_neg (by simp)]
        exact this
      clear hSk
      gi_wp2
      exact ⟨KeepsFrom.refl _ _, KpB.refl _ _ _, ⟨hB, h9, hS⟩, by rw [HM.out, HE.out]; exact hM.mono (by rw [List.length_append]; omega)⟩
    | true =>
      rw [hSk] at fO
      have hpl : pre.length < 1000 := Nat.lt_of_lt_of_le hlt HQ.out.1
      obtain ⟨w1, hr1, hm1, hg1⟩ := hM.put hk hk (by omega)
      have HM1 : Hid (MapI w1 (w4.heap.size + 1) nds.length (2 * pre.length + 1) (setM m k k)) := hm1
      have B1 : Below Wm.heap.size Wm w1 := hB.grown hg1 hB.size (fun j e => by cases e; omega)
      have l9 : w4.heap.size + 1 + 1 < W.heap.size := lt_of_cell f9
      have lS : w4.heap.size + 1 + 1 + 1 < W.heap.size := lt_of_cell fS
      have i9 : w1.heap[w4.heap.size + 1 + 1]? = W0.heap[w4.heap.size + 1 + 1]? := (hg1.block _ l9 (by simp)).trans h9
      have iS1 : w1.heap[w4.heap.size + 1 + 1 + 1]? = W.heap[w4.heap.size + 1 + 1 + 1]? := hg1.block _ lS (by simp; omega)
      have iS : w1.heap[w4.heap.size + 1 + 1 + 1]? = W0.heap[w4.heap.size + 1 + 1 + 1]? := iS1.trans hS
      have HK : Hid (KeepsFrom W0.heap.size W w1 ∧ KpB Wm.heap.size (w4.heap.size + 1 + 1 + 1) W w1) := ⟨KeepsFrom.of_grownBy hg1 (fun j e => by cases e; omega), (Below.refl _ W).grown hg1 hB.size (fun j e => by cases e; omega), iS1⟩
      have HI : Hid (Below Wm.heap.size Wm w1 ∧ w1.heap[w4.heap.size + 1 + 1]? = W0.heap[w4.heap.size + 1 + 1]? ∧ w1.heap[w4.heap.size + 1 + 1 + 1]? = W0.heap[w4.heap.size + 1 + 1 + 1]?) := ⟨B1, i9, iS⟩
      have y0 := hread B1 g0
      have y1 := hread B1 g1
      have y2 := hread B1 g2
      have y3 := hread B1 g3
      have y4 := hread B1 g4
      have y9 := heap_at (o := 0) i9 e9
      obtain ⟨L, hL⟩ : ∃ L, L = (users (insOf nds) k).filter (ned (insOf nds) out) := ⟨_, rfl⟩
      obtain ⟨u, hu⟩ : ∃ u, u = lastN L := ⟨_, rfl⟩
      obtain ⟨q, hq⟩ : ∃ q, q = ((L.length : Int) == 1) := ⟨_, rfl⟩
      have hulen : ∀ r ∈ users (insOf nds) k, r < nds.length := fun r hr => by
        have := List.mem_range.1 (List.mem_filter.1 hr).1
        rwa [insOf_len] at this
      have hul2 : (users (insOf nds) k).length ≤ 1000 := by
        have h1 : (users (insOf nds) k).length ≤ (List.range (insOf nds).length).length := List.length_filter_le _ _
        rw [List.length_range, insOf_len] at h1
        have := HQ.out.2.1
        omega
      have HU : Hid (q = true → u < nds.length) := fun e => by
        rw [hq] at e
        have e1 : L.length = 1 := by have := eq_of_beq e; omega
        obtain ⟨x, hx⟩ := List.length_eq_one_iff.1 e1
        have hm : x ∈ L := by rw [hx]; simp
        rw [hu, hx]
        rw [hL] at hm
        exact hulen x (List.mem_filter.1 hm).1
      have HUS : Hid (∀ j, CallsIn F j Tryd.prog 32 #[.slice (some ⟨U, 0, none⟩) nds.length nds.length, .slice (some ⟨O, 0, none⟩) nds.length nds.length, .int .i64 k] w1 fun e w' => e = .returned (.tuple #[.int .i64 u, .bool q]) ∧ w' = w1) := fun j => by
        have hh := user_c (U + 1) U O k nds.length vs (users (insOf nds) k) (ned (insOf nds) out) w1 (by have := HQ.out.2.1; omega) hk hus'.len (hus2 B1).box ((hus2 B1).own k hk) (hbO2 B1) hulen hul2
        rw [← hL, ← hu, ← hq] at hh
        exact hcw hh
      obtain ⟨ok, hok⟩ : ∃ ok, ok = (nds.getD k Nd.none).op := ⟨_, rfl⟩
      obtain ⟨ou, hou⟩ : ∃ ou, ou = (nds.getD u Nd.none).op := ⟨_, rfl⟩
      obtain ⟨p1, hp1⟩ : ∃ p1, p1 = byPt ok := ⟨_, rfl⟩
      obtain ⟨p2, hp2⟩ : ∃ p2, p2 = byPt ou := ⟨_, rfl⟩
      have HP1 : Hid (∀ (j : Nat) (W : World), CallsIn F j Tryd.prog 33 #[.int .i64 ok] W fun e w' => e = .returned (.bool p1) ∧ w' = W) := fun j W => by
        rw [hp1]; exact hcw (bypoint_c ok W)
      have HP2 : Hid (∀ (j : Nat) (W : World), CallsIn F j Tryd.prog 33 #[.int .i64 ou] W fun e w' => e = .returned (.bool p2) ∧ w' = W) := fun j W => by
        rw [hp2]; exact hcw (bypoint_c ou W)
      have HC : Hid (ldCond (ned (insOf nds) out) (users (insOf nds)) (fun k => (nds.getD k Nd.none).op) out on k = (on && (q && (!((k : Int) == out) && (p1 && p2))))) := by
        have : ldCond (ned (insOf nds) out) (users (insOf nds)) (fun k => (nds.getD k Nd.none).op) out on k = (on && (q && (!((k : Int) == out) && (p1 && p2)))) := by
          unfold ldCond
          rw [hq, hp1, hp2, hok, hou, hu, hL]
        exact this
      have HNO : Hid (ldCond (ned (insOf nds) out) (users (insOf nds)) (fun k => (nds.getD k Nd.none).op) out on k = false → MapI w1 (w4.heap.size + 1) nds.length (2 * (pre ++ [(i, (⟨k, hk⟩ : { k : Nat // k < nds.length }))]).length) (ldFold (ned (insOf nds) out) (users (insOf nds)) (fun k => (nds.getD k Nd.none).op) out on (pre ++ [(i, ⟨k, hk⟩)]))) := fun hc => by
        have e : ldStep (ned (insOf nds) out) (users (insOf nds)) (fun k => (nds.getD k Nd.none).op) out on m k = setM m k k := by
          unfold ldStep
          rw [hSk, if_pos rfl, hc, if_neg (by simp)]
        rw [HM.out, e]
        exact HM1.out.mono (by rw [List.length_append]; simp; omega)
      have HYES : Hid (ldCond (ned (insOf nds) out) (users (insOf nds)) (fun k => (nds.getD k Nd.none).op) out on k = true → ldFold (ned (insOf nds) out) (users (insOf nds)) (fun k => (nds.getD k Nd.none).op) out on (pre ++ [(i, ⟨k, hk⟩)]) = setM (setM m k k) k ((setM m k k u).getD 0)) := fun hc => by
        have e : ldStep (ned (insOf nds) out) (users (insOf nds)) (fun k => (nds.getD k Nd.none).op) out on m k = setM (setM m k k) k ((setM m k k u).getD 0) := by
          unfold ldStep
          rw [hSk, if_pos rfl, hc, if_pos rfl, hu, hL]
        rw [HM.out, e]
      obtain ⟨gb, go, gcap, ia, ic, pa, pc, hv, hbB, hcap, hcm, k0, k1, k2, s1, s2⟩ := (hgm2 B1).node hk
      have HN2 : Hid (u < nds.length → ∀ gb go gcap, Value.slice ga nds.length gc = .slice (some ⟨gb, go, none⟩) nds.length gcap → w1.cell? ⟨gb, go + u * 3, none⟩ = some (.int .i64 ou)) := fun hun gb go gcap hv => by
        obtain ⟨gb', go', gcap', _, _, _, _, hv', _, _, _, k0', _⟩ := (hgm2 B1).node hun
        rw [hv'] at hv
        simp only [Value.slice.injEq, Option.some.injEq, Addr.mk.injEq] at hv
        obtain ⟨⟨rfl, rfl, _⟩, _⟩ := hv
        rw [hou]
        exact k0'
      rw [← hok] at k0
      simp only [Value.slice.injEq] at hv
      obtain ⟨rfl, _, rfl⟩ := hv
      have HIN : Hid (u < nds.length → (0 : Int) ≤ (u : Int) ∧ (u : Int) < (nds.length : Int) ∧ w1.cell? ⟨gb, go + u * 3, none⟩ = some (.int .i64 ou)) := fun h => ⟨by omega, by omega, HN2.out h _ _ _ rfl⟩
      have HMK : Hid (MapI w1 (w4.heap.size + 1) nds.length (2 * pre.length + 1) (setM m k k) ∧ k < nds.length) := ⟨HM1.out, hk⟩
      unfold maxLen at hcm
      clear HN2 k1 k2 s1 s2 hL hu hq hulen hul2 hok hou hp1 hp2 hm1 hM hus' hbO' hgm hSk hg1 l9 lS i9 iS1 iS h9 hS B1 hB
      cases on with
      | false =>
        have HE := HNO.out (by rw [HC.out]; rfl)
        have HEH : Hid _ := HE
        clear HE HC HNO HYES
        gi_wp2_with (first | (gi_at_call 32; refine (CallsIn.inRound l (HUS.out _)).mono ?_; rintro e w5 ⟨rfl, rfl⟩))
        exact ⟨HK.out.1, HK.out.2, HI.out, HEH.out⟩
      | true =>
        cases q with
        | false =>
          have HE := HNO.out (by rw [HC.out]; rfl)
          have HEH : Hid _ := HE
          clear HE HC HNO HYES
          gi_wp2_with (first | (gi_at_call 32; refine (CallsIn.inRound l (HUS.out _)).mono ?_; rintro e w5 ⟨rfl, rfl⟩))
          exact ⟨HK.out.1, HK.out.2, HI.out, HEH.out⟩
        | true =>
          have hun := HU.out rfl
          obtain ⟨hu0, hu1, hcu⟩ := HIN.out hun
          by_cases hko : (k : Int) = out
          · have hko1 : ((k : Int) != out) = false := by simp [hko]
            have HE := HNO.out (by rw [HC.out]; simp [hko])
            have HEH : Hid _ := HE
            clear HE HC HNO HYES hko
            gi_wp2_with (first | (gi_at_call 32; refine (CallsIn.inRound l (HUS.out _)).mono ?_; rintro e w5 ⟨rfl, rfl⟩))
            exact ⟨HK.out.1, HK.out.2, HI.out, HEH.out⟩
          · have hko1 : ((k : Int) != out) = true := by simp [hko]
            have hko2 : ((k : Int) == out) = false := beq_eq_false_iff_ne.2 hko
            cases p1 with
            | false =>
              have HE := HNO.out (by rw [HC.out, hko2]; rfl)
              have HEH : Hid _ := HE
              clear HE HC HNO HYES hko hko2
              gi_wp2_with (first | (gi_at_call 32; refine (CallsIn.inRound l (HUS.out _)).mono ?_; rintro e w5 ⟨rfl, rfl⟩) | (gi_at_call 33; with_reducible refine (CallsIn.inRound l (HP1.out _ _)).mono ?_; rintro e w5 ⟨rfl, rfl⟩))
              exact ⟨HK.out.1, HK.out.2, HI.out, HEH.out⟩
            | true =>
              cases p2 with
              | false =>
                have HE := HNO.out (by rw [HC.out, hko2]; rfl)
                have HEH : Hid _ := HE
                clear HE HC HNO HYES hko hko2
                gi_wp2_with (first | (gi_at_call 32; refine (CallsIn.inRound l (HUS.out _)).mono ?_; rintro e w5 ⟨rfl, rfl⟩) | (gi_at_call 33; with_reducible refine (CallsIn.inRound l (HP1.out _ _)).mono ?_; rintro e w5 ⟨rfl, rfl⟩) | (gi_at_call 33; with_reducible refine (CallsIn.inRound l (HP2.out _ _)).mono ?_; rintro e w5 ⟨rfl, rfl⟩))
                exact ⟨HK.out.1, HK.out.2, HI.out, HEH.out⟩
              | true =>
                have HE := HYES.out (by rw [HC.out, hko2]; rfl)
                obtain ⟨v, hv⟩ : ∃ v, v = (setM m k k u).getD 0 := ⟨_, rfl⟩
                have hvn : v < nds.length := by
                  rw [hv]
                  cases e : setM m k k u with
                  | none => simp; omega
                  | some x => exact HMK.out.1.bound e
                have hl2 := HMK.out.1.look hun
                rw [← hv] at hl2 HE
                have HEH : Hid (ldFold (ned (insOf nds) out) (users (insOf nds)) (fun k => (nds.getD k Nd.none).op) out true (pre ++ [(i, ⟨k, hk⟩)]) = setM (setM m k k) k v) := HE
                obtain ⟨w2, hr2, hm2, hg2⟩ := HMK.out.1.put hk hvn (by omega)
                have HFIN : Hid (KeepsFrom W0.heap.size W w2 ∧ KpB Wm.heap.size (w4.heap.size + 1 + 1 + 1) W w2 ∧ (Below Wm.heap.size Wm w2 ∧ w2.heap[w4.heap.size + 1 + 1]? = W0.heap[w4.heap.size + 1 + 1]? ∧ w2.heap[w4.heap.size + 1 + 1 + 1]? = W0.heap[w4.heap.size + 1 + 1 + 1]?) ∧ MapI w2 (w4.heap.size + 1) nds.length (2 * (pre ++ [(i, (⟨k, hk⟩ : { k : Nat // k < nds.length }))]).length) (ldFold (ned (insOf nds) out) (users (insOf nds)) (fun k => (nds.getD k Nd.none).op) out true (pre ++ [(i, ⟨k, hk⟩)]))) := by
                  obtain ⟨B1, i9, iS⟩ := HI.out
                  have l9 : w4.heap.size + 1 + 1 < w1.heap.size := lt_of_cell y9
                  have lS : w4.heap.size + 1 + 1 + 1 < w1.heap.size := lt_of_cell (heap_at (o := 0) iS eS)
                  have iS2 : w2.heap[w4.heap.size + 1 + 1 + 1]? = w1.heap[w4.heap.size + 1 + 1 + 1]? := hg2.block _ lS (by simp; omega)
                  refine ⟨HK.out.1.trans (KeepsFrom.of_grownBy hg2 (fun j e => by cases e; omega)), HK.out.2.trans ⟨(Below.refl _ w1).grown hg2 B1.size (fun j e => by cases e; omega), iS2⟩, ⟨B1.grown hg2 B1.size (fun j e => by cases e; omega), (hg2.block _ l9 (by simp)).trans i9, iS2.trans iS⟩, ?_⟩
                  rw [HEH.out]
                  exact MapI.mono (m := setM (setM m k k) k v) hm2 (by rw [List.length_append]; simp; omega)
                clear HE HC HNO HYES hko hko2 hv HEH hm2 hg2
                gi_wp2_with (first | (gi_at_call 32; refine (CallsIn.inRound l (HUS.out _)).mono ?_; rintro e w5 ⟨rfl, rfl⟩) | (gi_at_call 33; with_reducible refine (CallsIn.inRound l (HP1.out _ _)).mono ?_; rintro e w5 ⟨rfl, rfl⟩) | (gi_at_call 33; with_reducible refine (CallsIn.inRound l (HP2.out _ _)).mono ?_; rintro e w5 ⟨rfl, rfl⟩))
                exact HFIN.out
  case done =>
    rintro D ys W hD rfl ⟨⟨hB, h9, hS⟩, hM⟩ hK
    have f9 := heap_at (o := 0) h9 e9
    have HH : Hid (Below Wm.heap.size Wm W ∧ MapI W (w4.heap.size + 1) nds.length 4000 (all.reverse.foldl (ldStep (ned (insOf nds) out) (users (insOf nds)) (fun k => (nds.getD k Nd.none).op) out on) fun _ => none)) := by
      refine ⟨hB, ?_⟩
      have e := ldFold_all (all := all) (n := nds.length) (ned (insOf nds) out) (users (insOf nds)) (fun k => (nds.getD k Nd.none).op) out on (fun j => (all.length - 1 - j, (zs (all.length - 1 - j)).2)) (fun j hj => hzs _ (by omega))
      rw [e] at hM
      exact hM.mono (by rw [bkUp_len]; omega)
    clear hM hB h9 hS
    gi_wp2
    refine ⟨by simp, .inl ⟨_, _, rfl, run_takeDeferred hK, ?_⟩⟩
    refine ⟨_, results_tmp rfl _ _ _, w4.heap.size + 1, HQ.out.2.2, rfl, HH.out.2.kept (grownBy_putObj' W D _) (fun e => by cases e; omega), ?_⟩
    exact (hBm.trans (HH.out.1.mono hBm.size)).trans (belowK_b (w := W0) (by have := hBm.size; omega) W D _ _ (by omega) hK rfl rfl)
  case stop =>
    rintro D c pre W _ _ h _
    exact h.elim
end
end Go.Proofs.YtijkcpkljmpplaaDoor
