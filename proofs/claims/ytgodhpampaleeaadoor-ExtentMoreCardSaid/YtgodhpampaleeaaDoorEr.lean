/- Texts joined: XEr. -/
import Derived.Test.YtgodhpampaleeaaDoorEt
import Derived.Test.YtgodhpampaleeaaDoorAe
import Derived.Test.YtgodhpampaleeaaDoorVy
set_option maxRecDepth 4000
/- Layers 13 and 24, plainly: where nodes, filters and layers may be something. -/
namespace Go.Proofs.YtgodhpampaleeaaDoor
open Go.RowKit Go.Bx Go.Od Go.Hp
set_option linter.unusedVariables false

def planeR : Rc := ⟨-4398046511104, -4398046511104, 4398046511104, 4398046511104⟩
theorem plane_pl : RcP planeR := by refine ⟨?_, ?_, ?_, ?_⟩ <;> (unfold Pl planeR; dsimp only; omega)
def someR (r : Rc) : Rc := joinR r Rc.zero
theorem someR_pl {r : Rc} (h : RcP r) : RcP (someR r) := joinR_pl h zero_pl
def calmB (p : List Int) : Bool := decide (p.getD 19 0 ≤ 0)
def par (nd : Nd) (j : Nat) : Int := nd.p.getD j 0
def floodB (nd : Nd) : Bool := par nd 0 + par nd 1 + par nd 2 + par nd 3 == 0
/-- where a node may be something -/
def reachN (nd : Nd) (l : List Rc) : Rc :=
  if nd.op = 1 then moveR (l.getD 0 Rc.zero) (par nd 0) (par nd 1)
  else if nd.op = 2 ∨ nd.op = 4 then growR (l.getD 0 Rc.zero) (par nd 0) (par nd 1) (par nd 0) (par nd 1)
  else if nd.op = 3 then someR (l.getD 0 Rc.zero)
  else if nd.op = 5 then (if calmB nd.p = true then someR (l.getD 0 Rc.zero) else planeR)
  else if nd.op = 6 then (if floodB nd = true then Rc.zero else someR (pbox (nd.p.drop 4)))
  else if nd.op = 12 then meetR (l.getD 0 Rc.zero) (pbox nd.p)
  else if nd.op = 10 then (if (meetR (l.getD 0 Rc.zero) (pbox nd.p)).emp = true then Rc.zero else planeR)
  else if nd.op = 11 then joinR (l.getD 0 Rc.zero) (growR (moveR (l.getD 0 Rc.zero) (par nd 0) (par nd 1)) (par nd 2) (par nd 3) (par nd 2) (par nd 3))
  else l.foldl joinR Rc.zero
/-- a node is right -/
structure RaOk (nd : Nd) : Prop where
  pa : PaOk nd
  op : 1 ≤ nd.op ∧ nd.op ≤ 12
  one : nd.op ≠ 6 → 1 ≤ nd.ins.length
  two : nd.op = 7 ∨ nd.op = 8 → nd.ins.length = 2 ∧ nd.p.length = 1
  sin : nd.op = 1 ∨ nd.op = 2 ∨ nd.op = 3 ∨ nd.op = 4 ∨ nd.op = 5 ∨ nd.op = 10 ∨ nd.op = 11 ∨ nd.op = 12 → nd.ins.length = 1
  mt : nd.op = 5 → nd.p.length = 20 ∧ ∀ j, j < 20 → -32768 ≤ nd.p.getD j 0 ∧ nd.p.getD j 0 ≤ 32767
  fl : nd.op = 6 → nd.p.length = 8 ∧ (∀ j, j < 4 → 0 ≤ par nd j ∧ par nd j ≤ 255) ∧ RcP (pbox (nd.p.drop 4))
  sh : nd.op = 11 → nd.p.length = 8 ∧ ∀ j, j < 4 → 0 ≤ par nd (4 + j) ∧ par nd (4 + j) ≤ 255
  ti : nd.op = 10 → par nd 0 < par nd 2 ∧ par nd 1 < par nd 3 ∧ par nd 2 - par nd 0 ≤ 4096 ∧ par nd 3 - par nd 1 ≤ 4096
  few : nd.ins.length ≤ 8
theorem getD_mem_or {l : List Rc} (h : ∀ r ∈ l, RcP r) (k : Nat) : RcP (l.getD k Rc.zero) := by
  rw [List.getD_eq_getElem?_getD]
  cases e : l[k]? with
  | none => exact zero_pl
  | some r => exact h r (List.mem_of_getElem? e)
theorem foldl_pl : ∀ (l : List Rc) (a : Rc), RcP a → (∀ r ∈ l, RcP r) → RcP (l.foldl joinR a)
  | [], a, ha, _ => ha
  | r :: rs, a, ha, h => foldl_pl rs _ (joinR_pl ha (h r (by simp))) fun q hq => h q (by simp [hq])
theorem reachN_pl {nd : Nd} {l : List Rc} (h : RaOk nd) (hl : ∀ r ∈ l, RcP r) : RcP (reachN nd l) := by
  have h0 := getD_mem_or hl 0
  unfold reachN
  split
  · exact moveR_pl _ _ _
  · split
    · exact growR_pl _ _ _ _ _
    · split
      · exact someR_pl h0
      · split
        · split
          · exact someR_pl h0
          · exact plane_pl
        · split
          · split
            · exact zero_pl
            · exact someR_pl (h.fl (by assumption)).2.2
          · split
            · exact meetR_pl h0 (h.pa.bx (.inl (by assumption))).2
            · split
              · split
                · exact zero_pl
                · exact plane_pl
              · split
                · exact joinR_pl h0 (growR_pl _ _ _ _ _)
                · exact foldl_pl _ _ zero_pl hl
/-- what stands at an input -/
def rin (r : Rc) (vs : List Rc) (i : Int) : Rc := if i = -1 then r else vs.getD i.toNat Rc.zero
def reachS (nds : List Nd) (r : Rc) (vs : List Rc) (k : Nat) : List Rc := vs.set k (reachN (nds.getD k Nd.none) ((nds.getD k Nd.none).ins.map (rin r vs)))
def reachL (nds : List Nd) (r : Rc) (o : List Nat) : List Rc := o.foldl (reachS nds r) (List.replicate nds.length Rc.zero)
def reachG (g : Fg) (r : Rc) : Rc := (reachL g.nds r (ord (insOf g.nds))).getD g.out.toNat Rc.zero
theorem reachS_len (nds : List Nd) (r : Rc) (vs : List Rc) (k : Nat) : (reachS nds r vs k).length = vs.length := by simp [reachS]
theorem reachF_len (nds : List Nd) (r : Rc) : ∀ (o : List Nat) (vs : List Rc), (o.foldl (reachS nds r) vs).length = vs.length
  | [], _ => rfl
  | k :: ks, vs => (reachF_len nds r ks _).trans (reachS_len nds r vs k)
theorem reachL_len (nds : List Nd) (r : Rc) (o : List Nat) : (reachL nds r o).length = nds.length := by unfold reachL; rw [reachF_len]; simp
theorem rin_pl {r : Rc} {vs : List Rc} (hr : RcP r) (hv : ∀ q ∈ vs, RcP q) (i : Int) : RcP (rin r vs i) := by
  unfold rin
  split
  · exact hr
  · exact getD_mem_or hv _
theorem reachS_pl {nds : List Nd} {r : Rc} {vs : List Rc} {k : Nat} (hr : RcP r) (hv : ∀ q ∈ vs, RcP q) (hk : RaOk (nds.getD k Nd.none)) : ∀ q ∈ reachS nds r vs k, RcP q := by
  intro q hq
  rcases List.mem_or_eq_of_mem_set hq with h | rfl
  · exact hv q h
  · refine reachN_pl hk fun x hx => ?_
    obtain ⟨i, _, rfl⟩ := List.mem_map.1 hx
    exact rin_pl hr hv i
theorem reachF_pl {nds : List Nd} {r : Rc} (hr : RcP r) : ∀ (o : List Nat) (vs : List Rc), (∀ q ∈ vs, RcP q) → (∀ k ∈ o, RaOk (nds.getD k Nd.none)) → ∀ q ∈ o.foldl (reachS nds r) vs, RcP q
  | [], _, hv, _ => hv
  | k :: ks, vs, hv, hk => reachF_pl hr ks _ (reachS_pl hr hv (hk k (by simp))) fun j hj => hk j (by simp [hj])
theorem reachL_pl {nds : List Nd} {r : Rc} (hr : RcP r) {o : List Nat} (hk : ∀ k ∈ o, RaOk (nds.getD k Nd.none)) : ∀ q ∈ reachL nds r o, RcP q :=
  reachF_pl hr o _ (fun q hq => by rw [List.eq_of_mem_replicate hq]; exact zero_pl) hk
theorem reachL_snoc (nds : List Nd) (r : Rc) (o : List Nat) (k : Nat) : reachL nds r (o ++ [k]) = reachS nds r (reachL nds r o) k := by simp [reachL]

/-! ### right nodes, right filters -/
theorem r7_get {xs : List Int} (h : r7 xs = true) : ∀ j, j < 20 → -32768 ≤ xs.getD j 0 ∧ xs.getD j 0 ≤ 32767 := by
  unfold r7 inB at h
  simp only [Bool.and_eq_true, decide_eq_true_eq, List.all_eq_true, List.mem_range] at h
  intro j hj
  exact h.1 j (by omega)
theorem ra_of {nd : Nd} {n : Nat} (h : oneB nd n = 0) : RaOk nd := by
  have hpa := (pa_of h).1
  unfold oneB at h
  split at h
  · cases h
  rename_i h1
  split at h
  · cases h
  rename_i h2
  split at h
  · cases h
  rename_i h3
  split at h
  · cases h
  rename_i h4
  have hp : (nd.p.length : Int) = parL.getD nd.op.toNat 0 := by
    have : ¬ ((nd.p.length : Int) == parL.getD nd.op.toNat 0) = false := fun e => h2 (.inr (.inr e))
    simpa using this
  have hi : leastL.getD nd.op.toNat 0 ≤ (nd.ins.length : Int) ∧ (nd.ins.length : Int) ≤ mostL.getD nd.op.toNat 0 := ⟨by
    have : ¬ (nd.ins.length : Int) < leastL.getD nd.op.toNat 0 := fun e => h2 (.inl e)
    omega, by
    have : ¬ mostL.getD nd.op.toNat 0 < (nd.ins.length : Int) := fun e => h2 (.inr (.inl e))
    omega⟩
  have hb : bndB nd.op nd.p = true := by simpa using h4
  have hop : 1 ≤ nd.op ∧ nd.op ≤ 12 := by omega
  clear h h1 h2 h3 h4
  obtain ⟨op, ins, p⟩ := nd
  dsimp only at *
  have hcase : op = 1 ∨ op = 2 ∨ op = 3 ∨ op = 4 ∨ op = 5 ∨ op = 6 ∨ op = 7 ∨ op = 8 ∨ op = 9 ∨ op = 10 ∨ op = 11 ∨ op = 12 := by omega
  have hlen : (op = 6 ∨ 1 ≤ ins.length) ∧ (op = 7 ∨ op = 8 → ins.length = 2 ∧ p.length = 1) ∧ (op = 1 ∨ op = 2 ∨ op = 3 ∨ op = 4 ∨ op = 5 ∨ op = 10 ∨ op = 11 ∨ op = 12 → ins.length = 1) ∧ (op = 5 → p.length = 20) ∧ (op = 6 → p.length = 8) ∧ (op = 11 → p.length = 8) ∧ ins.length ≤ 8 := by
    clear hb hpa hop
    rcases hcase with rfl | rfl | rfl | rfl | rfl | rfl | rfl | rfl | rfl | rfl | rfl | rfl <;> (simp [parL, leastL, mostL] at hp hi; (try subst hi); simp; try omega)
  refine ⟨hpa, hop, fun e => hlen.1.elim (fun h => absurd h e) (fun h => h), hlen.2.1, hlen.2.2.1, fun e => ⟨hlen.2.2.2.1 e, ?_⟩, fun e => ⟨hlen.2.2.2.2.1 e, ?_⟩, fun e => ⟨hlen.2.2.2.2.2.1 e, ?_⟩, fun e => ?_, hlen.2.2.2.2.2.2⟩
  · dsimp only at e
    rw [e] at hb
    have hb : r7 p = true := hb
    exact r7_get hb
  · dsimp only at e
    rw [e] at hb
    have hb : (pixB p 0 && nearB p 4 8 (-1048576) 1048576) = true := hb
    unfold pixB at hb
    simp only [Bool.and_eq_true, nearB_iff] at hb
    refine ⟨fun j hj => hb.1.1 j (by omega) (by omega), ?_⟩
    have g : ∀ k, (p.drop 4).getD k 0 = p.getD (4 + k) 0 := fun k => by simp [List.getD_eq_getElem?_getD]
    have c0 := hb.2 4 (by omega) (by omega)
    have c1 := hb.2 5 (by omega) (by omega)
    have c2 := hb.2 6 (by omega) (by omega)
    have c3 := hb.2 7 (by omega) (by omega)
    unfold pbox
    rw [g, g, g, g]
    refine ⟨?_, ?_, ?_, ?_⟩ <;> (unfold Pl; dsimp only [Nat.reduceAdd]; omega)
  · dsimp only at e
    rw [e] at hb
    have hb : (nearB p 0 2 (-1048576) 1048576 && (nearB p 2 4 0 255 && pixB p 4)) = true := hb
    unfold pixB at hb
    simp only [Bool.and_eq_true, nearB_iff] at hb
    exact fun j hj => hb.2.2.1 (4 + j) (by omega) (by omega)
  · dsimp only at e
    rw [e] at hb
    have hb : (nearB p 0 4 (-1048576) 1048576 && (decide (p.getD 0 0 < p.getD 2 0) && (decide (p.getD 1 0 < p.getD 3 0) && (decide (p.getD 2 0 - p.getD 0 0 ≤ 4096) && decide (p.getD 3 0 - p.getD 1 0 ≤ 4096))))) = true := hb
    simp only [Bool.and_eq_true, decide_eq_true_eq] at hb
    exact hb.2
/-- a right filter -/
structure GoodR (g : Fg) : Prop where
  gn : GoodN g.nds g.out
  ra : ∀ i, i < g.nds.length → RaOk (g.nds.getD i Nd.none)
  acy : g.nds.length ≤ (ord (insOf g.nds)).length
theorem goodR_of {g : Fg} {m : Nat} (h1 : fewB g.nds m = true) (hm : m ≤ 12) (h2 : chkB g.nds g.out = 0) : GoodR g := by
  obtain ⟨nds, out⟩ := g
  dsimp only at *
  have hr : rightB nds out = true := by
    unfold rightB
    rw [Bool.and_eq_true]
    refine ⟨?_, by rw [h2]; rfl⟩
    rw [fewB_iff] at h1 ⊢
    exact ⟨by omega, h1.2⟩
  refine ⟨goodN_of hr, fun i hi => ?_, ?_⟩
  · unfold chkB at h2
    split at h2
    · cases h2
    · split at h2
      · rename_i h3; exact absurd h2 h3
      · rename_i h3
        exact ra_of ((badB_iff _ _).1 (by simpa using h3) i hi)
  · unfold chkB at h2
    split at h2
    · cases h2
    · split at h2
      · rename_i h3; exact absurd h2 h3
      · split at h2
        · cases h2
        · split at h2
          · cases h2
          · dsimp only; omega
theorem reachG_pl {g : Fg} {r : Rc} (hg : GoodR g) (hr : RcP r) (ho : ∀ k ∈ ord (insOf g.nds), k < g.nds.length) : RcP (reachG g r) :=
  getD_mem_or (reachL_pl hr fun k hk => hg.ra k (ho k hk)) _
end Go.Proofs.YtgodhpampaleeaaDoor
