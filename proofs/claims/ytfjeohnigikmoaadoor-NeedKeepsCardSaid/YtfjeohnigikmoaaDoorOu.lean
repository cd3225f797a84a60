/- Layer 11: order.Uses. -/
import Derived.Test.YtfjeohnigikmoaaDoorOi
namespace Go.Proofs.YtfjeohnigikmoaaDoor
open Go.RowKit Go.Bx Go.Od
attribute [local go_sem ↓] Go.wp_at_zero Go.wp_at_succ
set_option linter.unusedVariables false

/-- rows of rows, one's own: the outer row is block U; no inner row lies at av -/
structure US (w : World) (U n : Nat) (av : Option Nat) (f : Nat → List Nat) (vs : List Value) : Prop where
  len : vs.length = n
  box : Box w U vs
  own : ∀ r, r < n → OwnP w (U + 1) (vs.getD r undef) (ofN (f r))
  apart : ∀ r s k, r < n → s < n → r ≠ s → (vs.getD r undef).ownBlock = some k → (vs.getD s undef).ownBlock ≠ some k
  away : ∀ r k, r < n → (vs.getD r undef).ownBlock = some k → av ≠ some k
  avl : ∀ k, av = some k → k < w.heap.size ∧ k ≠ U
theorem own_sl {w : World} {B : Nat} {v : Value} {s : List Nat} (h : OwnP w B v (ofN s)) : ∃ a c, v = .slice a s.length c := by
  rcases h.form with ⟨rfl, h'⟩ | ⟨g, cap, rfl, _⟩
  · have : s.length = 0 := by rw [← ofN_len, h']; rfl
    exact ⟨none, 0, by rw [this]⟩
  · rw [ofN_len]; exact ⟨_, cap, rfl⟩
theorem US.grow {w w' : World} {U n : Nat} {av : Option Nat} {f : Nat → List Nat} {vs : List Value} (h : US w U n av f vs) (hb : Below w.heap.size w w') : US w' U n av f vs :=
  ⟨h.len, h.box.call hb, fun r hr => (h.own r hr).below hb, h.apart, h.away, fun k hk => ⟨Nat.lt_of_lt_of_le (h.avl k hk).1 hb.size, (h.avl k hk).2⟩⟩
theorem below_alloc (w : World) (o : Obj) : Below w.heap.size w (w.alloc o) := (Below.refl _ _).alloc (Nat.le_refl _) o
theorem US.alloc {w : World} {U n : Nat} {av : Option Nat} {f : Nat → List Nat} {vs : List Value} (h : US w U n av f vs) (o : Obj) : US (w.alloc o) U n av f vs := h.grow (below_alloc w o)
theorem US.congr {w : World} {U n : Nat} {av : Option Nat} {f g : Nat → List Nat} {vs : List Value} (h : US w U n av f vs) (e : ∀ r, r < n → f r = g r) : US w U n av g vs :=
  ⟨h.len, h.box, fun r hr => by rw [← e r hr]; exact h.own r hr, h.apart, h.away, h.avl⟩
/-- another row to keep away from: newly made -/
theorem US.avoid {w w' : World} {U n : Nat} {av av' : Option Nat} {f : Nat → List Nat} {vs : List Value} (h : US w U n av f vs) (hb : Below w.heap.size w w') (h1 : ∀ k, av' = some k → w.heap.size ≤ k ∧ k < w'.heap.size) : US w' U n av' f vs :=
  ⟨h.len, h.box.call hb, fun r hr => (h.own r hr).below hb, h.apart, fun r k hr hk e => by
    have a := (World.ownsRow.lt (h.own r hr) k hk).2
    have b := (h1 k e).1
    omega, fun k hk => ⟨(h1 k hk).2, fun e => by have := (h1 k hk).1; have := h.box.lt; omega⟩⟩
theorem getD_setV (vs : List Value) (k r : Nat) (v : Value) (hk : k < vs.length) : (vs.set k v).getD r undef = if r = k then v else vs.getD r undef := by
  by_cases e : r = k
  · subst e; simp [hk]
  · rw [if_neg e]
    simp only [List.getD_eq_getElem?_getD]
    rw [List.getElem?_set_ne (fun h => e h.symm)]
/-- once row k has grown and is stored -/
theorem US.put {w w8 : World} {U n : Nat} {av : Option Nat} {f : Nat → List Nat} {vs : List Value} {k g8 c8 i : Nat} {v : Value} (h : US w U n av f vs) (hk : k < n) (hv : vs.getD k undef = v)
    (hown : w8.ownsRow (U + 1) 3 1 (.slice (some ⟨g8, 0, none⟩) ((f k).length + 1) c8) ((f k).length + 1) ((ofN (f k)).map (Value.int .i64) ++ [.int .i64 i])) (hg : w.grownBy w8 v.ownBlock) (hat : v.ownBlock = some g8 ∨ g8 = w.heap.size) :
    Box w8 U vs ∧ US (w8.setCell ⟨U, k, none⟩ (.slice (some ⟨g8, 0, none⟩) ((f k).length + 1) c8)) U n av (fun r => if r = k then f k ++ [i] else f r) (vs.set k (.slice (some ⟨g8, 0, none⟩) ((f k).length + 1) c8)) := by
  subst hv
  have hkv : k < vs.length := by rw [h.len]; exact hk
  have hU := h.box.lt
  have hgU : U + 1 ≤ g8 := by
    rcases hat with e | e
    · exact (World.ownsRow.lt (h.own k hk) g8 e).1
    · omega
  have hneU : (vs.getD k undef).ownBlock ≠ some U := fun e => by have := (World.ownsRow.lt (h.own k hk) U e).1; omega
  have hbx := h.box.grown' hg hneU
  have hlt8 : g8 < w8.heap.size := (World.ownsRow.lt hown g8 rfl).2
  refine ⟨hbx, by rw [List.length_set]; exact h.len, hbx.self k _, fun r hr => ?_, fun r s j hr hs hne => ?_, fun r j hr => ?_, fun j hj => ⟨?_, (h.avl j hj).2⟩⟩
  · rw [getD_setV _ _ _ _ hkv]
    by_cases e : r = k
    · subst e
      rw [if_pos rfl, if_pos rfl]
      have : OwnP w8 (U + 1) (.slice (some ⟨g8, 0, none⟩) ((f r).length + 1) c8) (ofN (f r ++ [i])) := by
        unfold OwnP
        rw [ofN_app, List.map_append, List.length_append, ofN_len]
        exact hown
      exact ownsRow_setCell_below this (by show U < U + 1; omega) _
    · rw [if_neg e, if_neg e]
      have : OwnP w8 (U + 1) (vs.getD r undef) (ofN (f r)) := World.ownsRow.kept (h.own r hr) hg (by
        cases e' : (vs.getD r undef).ownBlock with
        | none => exact .inl rfl
        | some j => exact .inr (h.apart r k j hr hk e e').symm)
      exact ownsRow_setCell_below this (by show U < U + 1; omega) _
  · rw [getD_setV _ _ _ _ hkv, getD_setV _ _ _ _ hkv]
    by_cases e : r = k
    · subst e
      rw [if_pos rfl, if_neg (fun e => hne e.symm)]
      intro hj e'
      simp [Value.ownBlock] at hj
      subst hj
      rcases hat with q | q
      · exact h.apart r s g8 hr hs hne q e'
      · have := (World.ownsRow.lt (h.own s hs) g8 e').2; omega
    · rw [if_neg e]
      intro hj
      by_cases e2 : s = k
      · subst e2
        rw [if_pos rfl]
        intro e'
        simp [Value.ownBlock] at e'
        subst e'
        rcases hat with q | q
        · exact h.apart r s g8 hr hs hne hj q
        · have := (World.ownsRow.lt (h.own r hr) g8 hj).2; omega
      · rw [if_neg e2]
        exact h.apart r s j hr hs hne hj
  · rw [getD_setV _ _ _ _ hkv]
    by_cases e : r = k
    · subst e
      rw [if_pos rfl]
      intro hj e'
      simp [Value.ownBlock] at hj
      subst hj
      rcases hat with q | q
      · exact h.away r g8 hr q e'
      · have := (h.avl g8 e').1; omega
    · rw [if_neg e]; exact h.away r j hr
  · rw [size_set]
    exact Nat.lt_of_lt_of_le (h.avl j hj).1 hg.size

/-- who uses r, of the first i nodes; of node i's inputs those in l -/
def uAt (ins : List (List Int)) (i : Nat) (l : List Nat) (r : Nat) : List Nat := ((List.range i).filter fun q => decide (r ∈ inp ins q)) ++ if r ∈ l then [i] else []
def users (ins : List (List Int)) (r : Nat) : List Nat := (List.range ins.length).filter fun q => decide (r ∈ inp ins q)
theorem uAt_next (ins : List (List Int)) (i r : Nat) : uAt ins i (inp ins i) r = uAt ins (i + 1) [] r := by
  unfold uAt
  rw [List.range_succ, List.filter_append]
  simp
  by_cases h : r ∈ inp ins i <;> simp [h]
theorem uAt_end (ins : List (List Int)) (r : Nat) : uAt ins ins.length [] r = users ins r := by simp [uAt, users]
theorem uAt_step (ins : List (List Int)) (i k r : Nat) (l : List Nat) (hk : k ∉ l) : (if r = k then uAt ins i l k ++ [i] else uAt ins i l r) = uAt ins i (l ++ [k]) r := by
  unfold uAt
  by_cases e : r = k
  · subst e; simp [hk]
  · rw [if_neg e]; simp [e]
theorem uAt_len (ins : List (List Int)) (i r : Nat) (l : List Nat) : (uAt ins i l r).length ≤ i + 1 := by
  unfold uAt
  rw [List.length_append]
  have := List.length_filter_le (fun q => decide (r ∈ inp ins q)) (List.range i)
  simp at this
  by_cases h : r ∈ l <;> simp [h] <;> omega
/-- a row of n cells, all made: its block -/
theorem box_own {w : World} {B n b : Nat} {e : TypeId} {xs : List Value} (h : w.ownsRow B e 1 (.slice (some ⟨b, 0, none⟩) n n) n xs) : Box w b xs := by
  rcases h.2 with ⟨h, _⟩ | ⟨g, cap, cur, h1, _, hb, _, _, hs, ht⟩
  · cases h
  · cases h1
    refine ⟨e, ?_⟩
    rw [hb]
    have : cur.toList = xs := by rw [← ht, List.take_of_length_le (by simp; omega)]
    subst this
    simp
theorem own_nil (w : World) (B : Nat) : OwnP w B (.slice none 0 0) [] := World.ownsRow_nil _ _ _ _
theorem US.made {w : World} {U n : Nat} (hb : Box w U (List.replicate n (.slice none 0 0))) (ins : List (List Int)) : US w U n none (uAt ins 0 []) (List.replicate n (.slice none 0 0)) := by
  have e : ∀ r, r < n → (List.replicate n (Value.slice none 0 0)).getD r undef = .slice none 0 0 := fun r hr => by simp [hr]
  refine ⟨by simp, hb, fun r hr => ?_, fun r s k hr hs _ hk => ?_, fun r k hr hk => ?_, fun k hk => by cases hk⟩
  · rw [e r hr]; exact own_nil _ _
  · rw [e r hr] at hk; cases hk
  · rw [e r hr] at hk; cases hk
theorem infoS : (Tryd.prog.info? 37).map (fun i => (i.zero, i.size, i.bytes)) = some (some (.slice none 0 0), 1, 24) := by kernel_rfl
/-- what Uses leaves -/
def UsPost (w : World) (n : Nat) (f : Nat → List Nat) (e : Ending) (w' : World) : Prop := ∃ U vs, w.heap.size ≤ U ∧ e = .returned (.slice (some ⟨U, 0, none⟩) n n) ∧ US w' U n none f vs ∧ Below w.heap.size w w'
/-- between two rounds -/
def UR (w : World) (nv : Value) (out : Int) (n : Nat) (av : Option Nat) (f : Nat → List Nat) (wr : World) : Prop := Box wr w.heap.size [nv, .int .i64 out] ∧ (∃ vs, US wr (w.heap.size + 1) n av f vs) ∧ Below w.heap.size w wr
theorem UR.made {w w2 : World} {nv : Value} {out : Int} {n U : Nat} (ins : List (List Int)) (hU : U = w.heap.size + 1) (hown : w2.ownsRow (w.heap.size + 1) 37 1 (.slice (some ⟨U, 0, none⟩) n n) n (madeCells (Value.slice none 0 0).cells (n * 1)).toList)
    (hg : (w.alloc (.cells #[nv, .int .i64 out] 24)).grownBy w2 none) : UR w nv out n none (uAt ins 0 []) w2 := by
  subst hU
  have hb := box_own hown
  have e : (madeCells (Value.slice none 0 0).cells (n * 1)).toList = List.replicate n (.slice none 0 0) := by
    rw [Nat.mul_one]
    exact toList_madeCells_one _ _
  rw [e] at hb
  exact ⟨(Box.new w _ _).grown' hg (by simp), ⟨_, US.made hb ins⟩, (below_alloc w _).grown hg (by rw [size_alloc]; omega) (fun k hk => by cases hk)⟩
theorem own_set {w : World} {B : Nat} {v : Value} {xs : List Int} (h : OwnP w B v xs) {p : Addr} (hp : p.block < B) (u : Value) : OwnP (w.setCell p u) B v xs := ownsRow_setCell_below h hp u
/-- a round's writing -/
theorem UR.put {w wr w8 : World} {nv lv : Value} {out : Int} {n : Nat} {av : Option Nat} {f : Nat → List Nat} {vs : List Value} {l : List Nat} {k g8 c8 i : Nat} {v : Value} {o : Obj} (h1 : Box wr w.heap.size [nv, .int .i64 out]) (h2 : US wr (w.heap.size + 1) n av f vs) (h3 : Below w.heap.size w wr)
    (h4 : OwnP wr (w.heap.size + 2) lv (ofN l)) (hav : av = lv.ownBlock) (hk : k < n) (hv : vs.getD k undef = v)
    (hown : w8.ownsRow (w.heap.size + 2) 3 1 (.slice (some ⟨g8, 0, none⟩) ((f k).length + 1) c8) ((f k).length + 1) ((ofN (f k)).map (Value.int .i64) ++ [.int .i64 i])) (hg : (wr.alloc o).grownBy w8 v.ownBlock) (hat : v.ownBlock = some g8 ∨ g8 = wr.heap.size + 1) :
    Box w8 (w.heap.size + 1) vs ∧ Box w8 w.heap.size [nv, .int .i64 out] ∧ UR w nv out n av (fun r => if r = k then f k ++ [i] else f r) (w8.setCell ⟨w.heap.size + 1, k, none⟩ (.slice (some ⟨g8, 0, none⟩) ((f k).length + 1) c8)) ∧
      OwnP (w8.setCell ⟨w.heap.size + 1, k, none⟩ (.slice (some ⟨g8, 0, none⟩) ((f k).length + 1) c8)) (w.heap.size + 2) lv (ofN l) := by
  have hbl : ∀ j, v.ownBlock = some j → w.heap.size + 2 ≤ j := fun j hj => by subst hv; exact (World.ownsRow.lt (h2.own k hk) j hj).1
  obtain ⟨q1, q2⟩ := (h2.alloc o).put hk hv hown hg (by rw [size_alloc]; exact hat)
  have b8 := (h1.alloc o).grown' hg fun e => by have := hbl _ e; omega
  have B8 := (h3.alloc (Nat.le_of_lt h1.lt) o).grown hg (by rw [size_alloc]; have := h1.lt; omega) fun j hj => by have := hbl _ hj; omega
  refine ⟨q1, b8, ⟨b8.set (by simp) _, ⟨_, q2⟩, B8.setCell (by simp) _⟩, own_set ?_ (by simp) _⟩
  refine World.ownsRow.kept (h4.alloc o) hg ?_
  cases e : lv.ownBlock with
  | none => exact .inl rfl
  | some j =>
    refine .inr fun e2 => ?_
    subst hv
    exact h2.away k j hk e2.symm (hav.trans e)
set_option maxHeartbeats 1600000 in
theorem uses_c (B : Nat) (nv : Value) (nds : List Nd) (out : Int) (w : World) (hm : nds.length ≤ 999) (hl : ∀ i, i < nds.length → (nds.getD i Nd.none).ins.length ≤ 1000) (hg : Gr B w nv nds) (hB : B ≤ w.heap.size) :
    Calls Tryd.prog 36 #[.agg #[nv, .int .i64 out]] w (UsPost w nds.length (users (insOf nds))) := by
  obtain ⟨ga, gc, rfl⟩ := hg.isSl
  have hgl := hg.len_le
  obtain ⟨iS, hiS, sz0, sz1, sz2⟩ := info_parts infoS
  have HG : Hid (Gr B w (.slice ga nds.length gc) nds ∧ ∀ i, i < nds.length → (nds.getD i Nd.none).ins.length ≤ 1000) := ⟨hg, hl⟩
  clear hg hl
  go_enter Tryd.func36, Tryd.ntmps36
  go_wp2_with (at_make; refine wpList_make_full _ rfl _ _ 64 rfl (w.heap.size + 1) 37 iS (.slice none 0 0) 1 Tryd.underlying64 hiS sz0 sz1 .i64 .i64 _ _ nds.length rfl rfl rfl rfl (by rw [sz2]; omega) (by unfold maxLen; omega) (by simp) ?_; intro w2 hown2 hgrow2; have HU : Hid (UR w (.slice ga nds.length gc) out nds.length none (uAt (insOf nds) 0 []) w2) := UR.made _ (by simp) hown2 hgrow2; have c0 := HU.out.1.cell 0 rfl; clear hown2 hgrow2)
  clear c0
  go_loopw [14] (fun iv wr => ∃ i : Nat, i ≤ nds.length ∧ iv = .int .i64 i ∧ UR w (.slice ga nds.length gc) out nds.length none (uAt (insOf nds) i []) wr) (fun iv _ => nds.length - (intOf iv).toNat)
  case atStart => exact ⟨0, Nat.zero_le _, rfl, HU.out⟩
  case round =>
    obtain ⟨i, hi, rfl, hr⟩ := hrel
    clear HU
    by_cases hil : i < nds.length
    · have b0 := hr.1.cell 0 rfl
      have b1 := hr.1.cell 1 rfl
      have HR : Hid (UR w (.slice ga nds.length gc) out nds.length none (uAt (insOf nds) i []) wr) := hr
      clear hr
      go_wp2_with fail
      refine (inputs_c B _ nds out i wr hil (by omega) (HG.out.2 i hil) (HG.out.1.below HR.out.2.2 hB) (Nat.le_trans hB HR.out.2.2.size)).mono ?_; rintro e w5 ⟨a5, c5, rfl, hown5, hb5⟩
      obtain ⟨l, hl⟩ : ∃ l, l = inp (insOf nds) i := ⟨_, rfl⟩
      have HL : Hid (l = inp (insOf nds) i) := hl
      rw [← hl] at hown5 ⊢
      have hll : l.length ≤ 1000 := by
        have h1 := once_len (nds.getD i Nd.none).ins nds.length []
        have h2 := HG.out.2 i hil
        have e : inp (insOf nds) i = once (nds.getD i Nd.none).ins nds.length [] := by unfold inp; rw [insOf_get, insOf_len]
        rw [← e, ← hl] at h1
        simp only [List.length_nil, Nat.zero_add] at h1
        omega
      clear hl
      have H5 : Hid (UR w (.slice ga nds.length gc) out nds.length (Value.slice a5 l.length c5).ownBlock (uAt (insOf nds) i (l.take 0)) w5 ∧ OwnP w5 (w.heap.size + 2) (.slice a5 l.length c5) (ofN l)) := by
        obtain ⟨r1, ⟨vs, r2⟩, r3⟩ := HR.out
        refine ⟨⟨r1.call hb5, ⟨vs, r2.avoid hb5 fun k hk => World.ownsRow.lt hown5 k hk⟩, r3.trans (hb5.mono r3.size)⟩, OwnP.mono hown5 ?_⟩
        have := r2.box.lt
        omega
      clear hown5 hb5 b0 b1 HR
      go_wp2_with fail
      go_loopw [21] (fun jv wr => ∃ j : Nat, j ≤ l.length ∧ jv = .int .i64 j ∧ UR w (.slice ga nds.length gc) out nds.length (Value.slice a5 l.length c5).ownBlock (uAt (insOf nds) i (l.take j)) wr ∧ OwnP wr (w.heap.size + 2) (.slice a5 l.length c5) (ofN l)) (fun jv _ => l.length - (intOf jv).toNat)
      case atStart => exact ⟨0, Nat.zero_le _, rfl, H5.out⟩
      case round =>
        obtain ⟨j, hj, rfl, hr, ho⟩ := hrel
        clear H5
        by_cases hjl : j < l.length
        · obtain ⟨r1, ⟨vs, r2⟩, r3⟩ := hr
          obtain ⟨k, hk⟩ : ∃ k, k = l.getD j 0 := ⟨_, rfl⟩
          have hkl : l[j]? = some k := by rw [hk]; simp [hjl]
          have hkm : k ∈ inp (insOf nds) i := by rw [← HL.out]; exact List.mem_of_getElem? hkl
          have hkn : k < nds.length := by have := ((inp_mem _ _ _).1 hkm).1; rwa [insOf_len] at this
          have hlc : (ofN l).getD j 0 = (k : Int) := by unfold ofN; simp [hkl]
          obtain ⟨g5, rfl, hc5⟩ : ∃ g5, a5 = some ⟨g5, 0, none⟩ ∧ wr.cell? ⟨g5, j, none⟩ = some (.int .i64 k) := by
            rcases ho.form with ⟨h, h'⟩ | ⟨g, cap, h, _, _, _, _, _, _, hc⟩
            · have : l.length = 0 := by rw [← ofN_len, h']; rfl
              omega
            · simp only [Value.slice.injEq] at h
              obtain ⟨rfl, _, _⟩ := h
              exact ⟨g, rfl, by rw [hc j (by rw [ofN_len]; exact hjl), hlc]⟩
          obtain ⟨v, hv⟩ : ∃ v, vs.getD k undef = v := ⟨_, rfl⟩
          have hvg : vs[k]? = some v := by rw [← hv]; have := r2.len; simp [show k < vs.length by omega]
          obtain ⟨f, hf⟩ : ∃ f, f = uAt (insOf nds) i (l.take j) := ⟨_, rfl⟩
          have hfk : (f k).length ≤ 999 := by rw [hf]; have := uAt_len (insOf nds) i k (l.take j); omega
          have HF : Hid (∀ r, r < nds.length → (if r = k then f k ++ [i] else f r) = uAt (insOf nds) i (l.take (j + 1)) r) := by
            intro r hr
            have e : l.take (j + 1) = l.take j ++ [k] := by rw [List.take_succ_eq_append_getElem hjl]; congr 2; rw [hk]; simp [hjl]
            rw [e, hf]
            refine uAt_step _ _ _ _ _ (not_take ?_ hkl)
            rw [HL.out]; exact inp_nodup _ _
          rw [← hf] at r2
          clear hf hk hkm hkl hlc
          have hok := r2.own k hkn
          rw [hv] at hok
          obtain ⟨a6, c6, rfl⟩ := own_sl hok
          have d0 := r2.box.cell k hvg
          have f0 := r2.box.frozen k
          have b0 := r1.cell 0 rfl
          have HR : Hid (Box wr w.heap.size [.slice ga nds.length gc, .int .i64 out] ∧ US wr (w.heap.size + 1) nds.length (Value.slice (some ⟨g5, 0, none⟩) l.length c5).ownBlock f vs ∧ Below w.heap.size w wr ∧ OwnP wr (w.heap.size + 2) (.slice (some ⟨g5, 0, none⟩) l.length c5) (ofN l) ∧ vs.getD k undef = .slice a6 (f k).length c6 ∧ OwnP wr (w.heap.size + 2) (.slice a6 (f k).length c6) (ofN (f k)) ∧ vs[k]? = some (.slice a6 (f k).length c6)) := ⟨r1, r2, r3, ho, hv, hok, hvg⟩
          obtain ⟨i3, hi3, hz0, hz1, hz2⟩ := info_parts infoI
          have HM : Hid ((f k).length + 1 ≤ maxLen ∧ ((f k).length + 1) * 8 ≤ 140737488355328) := by constructor <;> (try unfold maxLen) <;> omega
          have hsz := r2.box.lt
          clear r1 r2 r3 ho hv hok hvg
          go_wp2_with (at_builtin; refine wpList_append_lies _ rfl _ _ 37 rfl (w.heap.size + 2) 3 i3 (.int .i64 0) 1 8 Tryd.underlying37 hi3 hz0 hz1 hz2 rfl (by decide) (.slice a6 (f k).length c6) (f k).length ((ofN (f k)).map (Value.int .i64)) rfl (OwnP.row (ofN_len (f k)) (HR.out.2.2.2.2.2.1.alloc (.cells #[.int .i64 i] 3))) _ 1 1 [.int .i64 i] rfl rfl (news_one (by simp)) (by simp [Value.oneCell']) (by decide) HM.out.1 HM.out.2 (by first | omega | (simp; omega)) (wr.heap.size + 1) (by simp) ?_; intro g8 c8 w8 hown8 hgrow8 hat8 hlt8; have HA : Hid _ := UR.put HR.out.1 HR.out.2.1 HR.out.2.2.1 HR.out.2.2.2.1 rfl hkn HR.out.2.2.2.2.1 hown8 hgrow8 hat8; clear hown8 hgrow8 hat8; have d8 := HA.out.1.cell k HR.out.2.2.2.2.2.2; have f8 := HA.out.1.frozen k)
          go_roundw
          case rel =>
            obtain ⟨q1, q2, ⟨q3, ⟨vs', q4⟩, q5⟩, q6⟩ := HA.out
            exact ⟨j + 1, by omega, by go_num, ⟨q3, ⟨vs', q4.congr HF.out⟩, q5⟩, q6⟩
          case measure => simp [intOf]; omega
        · have ej : j = l.length := by omega
          subst ej
          rw [List.take_length] at hr
          have HE : Hid (UR w (.slice ga nds.length gc) out nds.length none (uAt (insOf nds) (i + 1) []) wr) := by
            obtain ⟨r1, ⟨vs, r2⟩, r3⟩ := hr
            refine ⟨r1, ⟨vs, (r2.avoid (Below.refl _ _) fun k hk => by cases hk).congr fun r _ => ?_⟩, r3⟩
            rw [HL.out]; exact uAt_next _ _ _
          clear hr ho
          go_wp2_with fail
          go_roundw
          case rel => exact ⟨i + 1, by omega, by go_num, HE.out⟩
          case measure => simp [intOf]; omega
    · have ei : i = nds.length := by omega
      subst ei
      have HE : Hid (UsPost w nds.length (users (insOf nds)) (.returned (.slice (some ⟨w.heap.size + 1, 0, none⟩) nds.length nds.length)) wr) := by
        obtain ⟨r1, ⟨vs, r2⟩, r3⟩ := hr
        refine ⟨w.heap.size + 1, vs, by omega, rfl, r2.congr fun r _ => ?_, r3⟩
        have := uAt_end (insOf nds) r
        rw [insOf_len] at this
        exact this
      clear hr
      go_wp2_with fail
      go_ret
      exact HE.out
end Go.Proofs.YtfjeohnigikmoaaDoor
