/- Texts joined: XEg. -/
import Derived.Test.YtgodhpampaleeaaDoorEf
set_option maxRecDepth 4000
/- Layer 24, plainly: the extents of contents, looks and layers. -/
namespace Go.Proofs.YtgodhpampaleeaaDoor
open Go.RowKit Go.Bx Go.Od Go.Hp
set_option linter.unusedVariables false

def Nc (x : Int) : Prop := -1048576 ≤ x ∧ x ≤ 1048576
def RcN (r : Rc) : Prop := Nc r.x0 ∧ Nc r.y0 ∧ Nc r.x1 ∧ Nc r.y1
theorem RcN.pl {r : Rc} (h : RcN r) : RcP r := by
  obtain ⟨h0, h1, h2, h3⟩ := h
  unfold Nc at h0 h1 h2 h3
  refine ⟨?_, ?_, ?_, ?_⟩ <;> (unfold Pl; omega)
/-- a content is right -/
structure CtOk (c : Ct) : Prop where
  kind : c.kind = 0 ∨ c.kind = 1 ∨ c.kind = 2
  px : c.px.Ok
  box : c.kind = 1 → RcN c.box
  pic : c.kind = 2 → (1 ≤ c.w ∧ c.w ≤ 4096) ∧ (1 ≤ c.h ∧ c.h ≤ 4096) ∧ (c.pix.length : Int) = c.w * c.h ∧ c.w * c.h ≤ 65536 ∧ (0 ≤ c.turn ∧ c.turn ≤ 3) ∧ Nc c.box.x0 ∧ Nc c.box.y0
/-- where a content shows something -/
def ctR (c : Ct) : Rc :=
  if c.kind = 1 then (if pxEq c.px Px.zero = true then Rc.zero else someR c.box)
  else if c.kind = 2 then ⟨c.box.x0, c.box.y0, c.box.x0 + Vc.sx (Vc.qn c.turn) c.w c.h, c.box.y0 + Vc.sy (Vc.qn c.turn) c.w c.h⟩
  else Rc.zero
theorem sx_bd (q : Nat) {a b m : Int} (ha : 1 ≤ a ∧ a ≤ m) (hb : 1 ≤ b ∧ b ≤ m) : (1 ≤ Vc.sx q a b ∧ Vc.sx q a b ≤ m) ∧ (1 ≤ Vc.sy q a b ∧ Vc.sy q a b ≤ m) := by
  unfold Vc.sx Vc.sy
  match q with
  | 0 => exact ⟨ha, hb⟩
  | 1 => exact ⟨hb, ha⟩
  | 2 => exact ⟨ha, hb⟩
  | q + 3 => exact ⟨hb, ha⟩
theorem ctR_pl {c : Ct} (h : CtOk c) : RcP (ctR c) := by
  unfold ctR
  split
  · rename_i h1
    split
    · exact zero_pl
    · exact someR_pl (h.box h1).pl
  · split
    · rename_i h2
      obtain ⟨hw, hh, _, _, _, h3, h4⟩ := h.pic h2
      obtain ⟨h5, h6⟩ := sx_bd (Vc.qn c.turn) hw hh
      unfold Nc at h3 h4
      refine ⟨?_, ?_, ?_, ?_⟩ <;> (unfold Pl; dsimp only; omega)
    · exact zero_pl
/-- a Look is right -/
structure LkOk (k : Lk) : Prop where
  ct : CtOk k.ct
  dx : Nc k.dx
  dy : Nc k.dy
  opa : 0 ≤ k.opa ∧ k.opa ≤ 255
  mode : 0 ≤ k.mode ∧ k.mode ≤ 6
  clip : k.hasC = true → RcN k.clip
  fil : k.hasF = true → GoodR k.fil
  bak : k.hasB = true → GoodR k.bak
/-- where a backdrop is -/
def areaL (k : Lk) : Rc := if k.hasC = true then moveR k.clip k.dx k.dy else planeR
theorem areaL_pl (k : Lk) : RcP (areaL k) := by
  unfold areaL
  split
  · exact moveR_pl _ _ _
  · exact plane_pl
def belowR (r : Rc) (k : Lk) : Rc := if k.hasB = true then joinR r (meetR (reachG k.bak r) (areaL k)) else r
theorem ord_lt (nds : List Nd) : ∀ k ∈ ord (insOf nds), k < nds.length := fun k hk => by
  have := (ord_fine (insOf nds)).bound k hk
  rwa [insOf_len] at this
theorem reachG_pl' {g : Fg} {r : Rc} (hg : GoodR g) (hr : RcP r) : RcP (reachG g r) := reachG_pl hg hr (ord_lt g.nds)
theorem belowR_pl {r : Rc} {k : Lk} (hr : RcP r) (hk : LkOk k) : RcP (belowR r k) := by
  unfold belowR
  split
  · exact joinR_pl hr (meetR_pl (reachG_pl' (hk.bak (by assumption)) hr) (areaL_pl k))
  · exact hr
def filR (k : Lk) (r : Rc) : Rc := if k.hasF = true then reachG k.fil r else r
def clpR (k : Lk) (r : Rc) : Rc := if k.hasC = true then meetR r k.clip else r
def resK (k : Lk) (r : Rc) : Rc := if k.opa = 0 then Rc.zero else moveR (clpR k (filR k r)) k.dx k.dy
theorem filR_pl {k : Lk} {r : Rc} (hk : LkOk k) (hr : RcP r) : RcP (filR k r) := by
  unfold filR
  split
  · exact reachG_pl' (hk.fil (by assumption)) hr
  · exact hr
theorem clpR_pl {k : Lk} {r : Rc} (hk : LkOk k) (hr : RcP r) : RcP (clpR k r) := by
  unfold clpR
  split
  · exact meetR_pl hr (hk.clip (by assumption)).pl
  · exact hr
theorem resK_pl (k : Lk) (r : Rc) : RcP (resK k r) := by
  unfold resK
  split
  · exact zero_pl
  · exact moveR_pl _ _ _
/-- where layers may show something: of so much depth -/
def stepR (f : Ly → Rc) (r : Rc) (k : Ly) : Rc := joinR (belowR r k.look) (f k)
def resN : Nat → Ly → Rc
  | 0, _ => Rc.zero
  | n + 1, l => resK l.look (l.kids.foldl (stepR (resN n)) (ctR l.look.ct))
def grpN (n : Nat) (l : Ly) : Rc := l.kids.foldl (stepR (resN n)) (ctR l.look.ct)
theorem resN_succ (n : Nat) (l : Ly) : resN (n + 1) l = resK l.look (grpN n l) := rfl
theorem resN_pl (n : Nat) (l : Ly) : RcP (resN n l) := by
  cases n with
  | zero => exact zero_pl
  | succ n => exact resK_pl _ _
/-- all Looks within are right -/
def LyOk : Nat → Ly → Prop
  | 0, _ => False
  | n + 1, l => LkOk l.look ∧ ∀ k ∈ l.kids, LyOk n k
theorem stepR_pl {n : Nat} {r : Rc} {k : Ly} (hr : RcP r) (hk : LyOk n k) : RcP (stepR (resN n) r k) := by
  cases n with
  | zero => exact hk.elim
  | succ n => exact joinR_pl (belowR_pl hr hk.1) (resN_pl _ _)
theorem foldS_pl {n : Nat} : ∀ (l : List Ly) (r : Rc), RcP r → (∀ k ∈ l, LyOk n k) → RcP (l.foldl (stepR (resN n)) r)
  | [], r, hr, _ => hr
  | k :: ks, r, hr, h => foldS_pl ks _ (stepR_pl hr (h k (by simp))) fun q hq => h q (by simp [hq])
theorem grpN_pl {n : Nat} {l : Ly} (h : LyOk (n + 1) l) : RcP (grpN n l) := foldS_pl _ _ (ctR_pl h.1.ct) h.2
/-- more depth is no matter -/
theorem LyOk.up : ∀ (n m : Nat), n ≤ m → ∀ {l : Ly}, LyOk n l → LyOk m l
  | 0, _, _, _, h => h.elim
  | n + 1, 0, hm, _, _ => by omega
  | n + 1, m + 1, hm, _, h => ⟨h.1, fun k hk => LyOk.up n m (by omega) (h.2 k hk)⟩
end Go.Proofs.YtgodhpampaleeaaDoor
