/- Texts joined: XEt. -/
import Derived.Test.YtgodhpampaleeaaDoorAd
import Derived.Test.YtgodhpampaleeaaDoorAb
set_option maxRecDepth 4000
/- Layer 24: layers in memory: contents, looks, trees; how they are read off an argument. -/
namespace Go.Proofs.YtgodhpampaleeaaDoor
open Go.RowKit Go.Bx Go.Od Go.Hp Go.ChangeShapes Go.WideShapes Go.ChangeAt
attribute [local go_sem ↓] Go.wp_at_zero Go.wp_at_succ
set_option linter.unusedVariables false

structure Px where
  r : Int
  g : Int
  b : Int
  a : Int
def Px.zero : Px := ⟨0, 0, 0, 0⟩
abbrev pxv (p : Px) : Value := .agg #[.int .u8 p.r, .int .u8 p.g, .int .u8 p.b, .int .u8 p.a]
def Byte (x : Int) : Prop := 0 ≤ x ∧ x ≤ 255
def Px.Ok (p : Px) : Prop := Byte p.r ∧ Byte p.g ∧ Byte p.b ∧ Byte p.a
def RPx : Rep Px := fun _ _ cs p => cs = [.int .u8 p.r, .int .u8 p.g, .int .u8 p.b, .int .u8 p.a] ∧ p.Ok
theorem RPx.ok : RPx.Ok := ⟨fun _ _ _ _ _ _ h => h, fun _ _ _ _ _ _ h => h⟩
def RRc : Rep Rc := fun _ _ cs r => cs = [.int .i64 r.x0, .int .i64 r.y0, .int .i64 r.x1, .int .i64 r.y1] ∧ In64 r.x0 ∧ In64 r.y0 ∧ In64 r.x1 ∧ In64 r.y1
theorem RRc.ok : RRc.Ok := ⟨fun _ _ _ _ _ _ h => h, fun _ _ _ _ _ _ h => h⟩
/-- what a layer shows of itself -/
structure Ct where
  kind : Int
  box : Rc
  px : Px
  w : Int
  h : Int
  turn : Int
  pix : List Px
/-- a content's cells -/
abbrev ctc (c : Ct) (v : Value) : List Value := [.int .i64 c.kind, .int .i64 c.box.x0, .int .i64 c.box.y0, .int .i64 c.box.x1, .int .i64 c.box.y1, .int .u8 c.px.r, .int .u8 c.px.g, .int .u8 c.px.b, .int .u8 c.px.a, .int .i64 c.w, .int .i64 c.h, .int .i64 c.turn, v]
def Ct.Ok (c : Ct) : Prop := In64 c.kind ∧ (In64 c.box.x0 ∧ In64 c.box.y0 ∧ In64 c.box.x1 ∧ In64 c.box.y1) ∧ c.px.Ok ∧ In64 c.w ∧ In64 c.h ∧ In64 c.turn
def RCt : Rep Ct := fun F w cs c => ∃ v, cs = ctc c v ∧ c.Ok ∧ SlOf RPx 4 F w v c.pix
theorem RCt.ok : RCt.Ok :=
  ⟨fun _ _ _ _ _ hs ⟨v, h1, h2, h3⟩ => ⟨v, h1, h2, h3.same RPx.ok hs⟩, fun _ _ _ _ _ hg ⟨v, h1, h2, h3⟩ => ⟨v, h1, h2, h3.mono RPx.ok hg⟩⟩
/-- a filter -/
structure Fg where
  nds : List Nd
  out : Int
def RFg : Rep Fg := fun F w cs g => ∃ v, cs = [v, .int .i64 g.out] ∧ In64 g.out ∧ SlOf RNode 3 F w v g.nds
theorem RFg.ok : RFg.Ok :=
  ⟨fun _ _ _ _ _ hs ⟨v, h1, h2, h3⟩ => ⟨v, h1, h2, h3.same RNode.ok hs⟩, fun _ _ _ _ _ hg ⟨v, h1, h2, h3⟩ => ⟨v, h1, h2, h3.mono RNode.ok hg⟩⟩
/-- how a layer is shown -/
structure Lk where
  dx : Int
  dy : Int
  hasC : Bool
  clip : Rc
  opa : Int
  mode : Int
  ct : Ct
  hasF : Bool
  fil : Fg
  hasB : Bool
  bak : Fg
/-- a Look's cells -/
abbrev lkc (k : Lk) (pv fv bv : Value) : List Value := [.int .i64 k.dx, .int .i64 k.dy, .bool k.hasC, .int .i64 k.clip.x0, .int .i64 k.clip.y0, .int .i64 k.clip.x1, .int .i64 k.clip.y1, .int .i64 k.opa, .int .i64 k.mode,
  .int .i64 k.ct.kind, .int .i64 k.ct.box.x0, .int .i64 k.ct.box.y0, .int .i64 k.ct.box.x1, .int .i64 k.ct.box.y1, .int .u8 k.ct.px.r, .int .u8 k.ct.px.g, .int .u8 k.ct.px.b, .int .u8 k.ct.px.a, .int .i64 k.ct.w, .int .i64 k.ct.h, .int .i64 k.ct.turn, pv,
  .bool k.hasF, fv, .int .i64 k.fil.out, .bool k.hasB, bv, .int .i64 k.bak.out]
def Lk.Ok (k : Lk) : Prop := In64 k.dx ∧ In64 k.dy ∧ (In64 k.clip.x0 ∧ In64 k.clip.y0 ∧ In64 k.clip.x1 ∧ In64 k.clip.y1) ∧ In64 k.opa ∧ In64 k.mode ∧ k.ct.Ok ∧ In64 k.fil.out ∧ In64 k.bak.out
/-- where a Look's rows lie -/
def LkAt (F : Nat → Prop) (w : World) (k : Lk) (pv fv bv : Value) : Prop := k.Ok ∧ SlOf RPx 4 F w pv k.ct.pix ∧ SlOf RNode 3 F w fv k.fil.nds ∧ SlOf RNode 3 F w bv k.bak.nds
theorem LkAt.same {F : Nat → Prop} {w w' : World} {k : Lk} {pv fv bv : Value} (h : LkAt F w k pv fv bv) (hs : Same F w w') : LkAt F w' k pv fv bv := ⟨h.1, h.2.1.same RPx.ok hs, h.2.2.1.same RNode.ok hs, h.2.2.2.same RNode.ok hs⟩
theorem LkAt.mono {F G : Nat → Prop} {w : World} {k : Lk} {pv fv bv : Value} (h : LkAt F w k pv fv bv) (hg : ∀ b, F b → G b) : LkAt G w k pv fv bv := ⟨h.1, h.2.1.mono RPx.ok hg, h.2.2.1.mono RNode.ok hg, h.2.2.2.mono RNode.ok hg⟩
def RLk : Rep Lk := fun F w cs k => ∃ pv fv bv, cs = lkc k pv fv bv ∧ LkAt F w k pv fv bv
theorem RLk.ok : RLk.Ok :=
  ⟨fun _ _ _ _ _ hs ⟨a, b, c, h, k⟩ => ⟨a, b, c, h, k.same hs⟩, fun _ _ _ _ _ hg ⟨a, b, c, h, k⟩ => ⟨a, b, c, h, k.mono hg⟩⟩
/-- a layer, with all within -/
inductive Ly where
  | mk (i0 i1 : Int) (k : Lk) (kids : List Ly) : Ly
def Ly.look : Ly → Lk
  | .mk _ _ k _ => k
def Ly.kids : Ly → List Ly
  | .mk _ _ _ l => l
def Ly.i0 : Ly → Int
  | .mk i _ _ _ => i
def Ly.i1 : Ly → Int
  | .mk _ i _ _ => i
/-- a layer's cells -/
abbrev lyc (i0 i1 : Int) (k : Lk) (pv fv bv kv : Value) : List Value := [.int .i64 i0, .int .i64 i1, .int .i64 k.dx, .int .i64 k.dy, .bool k.hasC, .int .i64 k.clip.x0, .int .i64 k.clip.y0, .int .i64 k.clip.x1, .int .i64 k.clip.y1, .int .i64 k.opa, .int .i64 k.mode,
  .int .i64 k.ct.kind, .int .i64 k.ct.box.x0, .int .i64 k.ct.box.y0, .int .i64 k.ct.box.x1, .int .i64 k.ct.box.y1, .int .u8 k.ct.px.r, .int .u8 k.ct.px.g, .int .u8 k.ct.px.b, .int .u8 k.ct.px.a, .int .i64 k.ct.w, .int .i64 k.ct.h, .int .i64 k.ct.turn, pv,
  .bool k.hasF, fv, .int .i64 k.fil.out, .bool k.hasB, bv, .int .i64 k.bak.out, kv]
theorem sl_form {α : Type} {E : Rep α} {sz : Nat} {F : Nat → Prop} {w : World} {v : Value} {xs : List α} (h : SlOf E sz F w v xs) : ∃ a n c, v = .slice a n c := by
  obtain ⟨a, c, h, _⟩ := h
  exact ⟨a, _, c, h⟩
/-- a layer of so much depth (at most) -/
def RLy : Nat → Rep Ly
  | 0 => fun _ _ _ _ => False
  | n + 1 => fun F w cs l => ∃ pv fv bv kv, cs = lyc l.i0 l.i1 l.look pv fv bv kv ∧ In64 l.i0 ∧ In64 l.i1 ∧ LkAt F w l.look pv fv bv ∧ SlOf (RLy n) 31 F w kv l.kids
theorem RLy.ok : ∀ n, (RLy n).Ok
  | 0 => ⟨fun _ _ _ _ _ _ h => h, fun _ _ _ _ _ _ h => h⟩
  | n + 1 => ⟨fun _ _ _ _ _ hs ⟨a, b, c, d, h, i, j, k, l⟩ => ⟨a, b, c, d, h, i, j, k.same hs, l.same (RLy.ok n) hs⟩, fun _ _ _ _ _ hg ⟨a, b, c, d, h, i, j, k, l⟩ => ⟨a, b, c, d, h, i, j, k.mono hg, l.mono (RLy.ok n) hg⟩⟩
theorem SlOf.imp {α : Type} {E G : Rep α} {sz : Nat} {F : Nat → Prop} {w : World} {v : Value} {xs : List α} (hi : ∀ cs x, x ∈ xs → E F w cs x → G F w cs x) (h : SlOf E sz F w v xs) : SlOf G sz F w v xs := by
  obtain ⟨a, cap, hv, h1, h2, h3⟩ := h
  refine ⟨a, cap, hv, h1, h2, ?_⟩
  rcases h3 with h3 | ⟨b, o, ha, hF, h3⟩
  · exact .inl h3
  · refine .inr ⟨b, o, ha, hF, fun i x hx => ?_⟩
    obtain ⟨cs, hl, hc, he⟩ := h3 i x hx
    exact ⟨cs, hl, hc, hi _ _ (List.mem_of_getElem? hx) he⟩
theorem RLy.up : ∀ (n m : Nat), n ≤ m → ∀ {F : Nat → Prop} {w : World} {cs : List Value} {l : Ly}, RLy n F w cs l → RLy m F w cs l
  | 0, _, _, _, _, _, _, h => h.elim
  | n + 1, 0, hm, _, _, _, _, _ => by omega
  | n + 1, m + 1, hm, _, _, _, _, ⟨a, b, c, d, h, i, j, k, l⟩ => ⟨a, b, c, d, h, i, j, k, SlOf.imp (fun cs x _ hx => RLy.up n m (by omega) hx) l⟩

section
variable {H : Type} {enc : TypeId × Value → H} {W : World} {base : Nat}
theorem cells_bool : Tryd.prog.cellsOf 4 = 1 := by kernel_rfl
theorem cells_u8 : Tryd.prog.cellsOf 5 = 1 := by kernel_rfl
theorem cells_px : Tryd.prog.cellsOf 27 = 4 := by kernel_rfl
theorem cells_pxs : Tryd.prog.cellsOf 28 = 1 := by kernel_rfl
theorem cells_rect : Tryd.prog.cellsOf 25 = 4 := by kernel_rfl
theorem cells_id : Tryd.prog.cellsOf 23 = 2 := by kernel_rfl
theorem cells_content : Tryd.prog.cellsOf 30 = 13 := by kernel_rfl
theorem cells_look : Tryd.prog.cellsOf 35 = 28 := by kernel_rfl
theorem cells_layer : Tryd.prog.cellsOf 38 = 31 := by kernel_rfl
theorem cells_layers : Tryd.prog.cellsOf 36 = 1 := by kernel_rfl
theorem cutL (cs : List Value) (off n : Nat) : cs.drop off = (cs.drop off).take n ++ cs.drop (off + n) := by
  rw [← List.drop_drop, List.take_append_drop]
theorem rb : Reads enc Tryd.prog W 4 RBool := reads_bool Tryd.underlying4
theorem reads_rect : Reads enc Tryd.prog W 25 RRc := fun fuel cs x h => by
  obtain ⟨a, h0⟩ := reads_field Tryd.underlying25 h 0 (ft := 3) (off := 0) (n := 1) rfl cells_int (E := RInt) ri
  obtain ⟨b, h1⟩ := reads_field Tryd.underlying25 h 1 (ft := 3) (off := 1) (n := 1) rfl cells_int (E := RInt) ri
  obtain ⟨c, h2⟩ := reads_field Tryd.underlying25 h 2 (ft := 3) (off := 2) (n := 1) rfl cells_int (E := RInt) ri
  obtain ⟨d, h3⟩ := reads_field Tryd.underlying25 h 3 (ft := 3) (off := 3) (n := 1) rfl cells_int (E := RInt) ri
  have hl := struct_len Tryd.underlying25 h
  rw [cells_rect] at hl
  refine ⟨⟨a, b, c, d⟩, ?_, h0.2, h1.2, h2.2, h3.2⟩
  have e : cs = cs.drop 0 := rfl
  rw [e, cutL cs 0 1, cutL cs (0 + 1) 1, cutL cs (0 + 1 + 1) 1, cutL cs (0 + 1 + 1 + 1) 1, h0.1, h1.1, h2.1, h3.1, List.drop_eq_nil_of_le (by omega)]
  rfl
theorem reads_px : Reads enc Tryd.prog W 27 RPx := fun fuel cs x h => by
  obtain ⟨xs, m, _, _, hl, hxl, hel⟩ := DataW.trod_array Tryd.underlying27 h
  rw [cells_px] at hl
  have hx : ∀ i, i < 4 → ∃ y, RU8 (· < W.heap.size) W ((cs.drop i).take 1) y := fun i hi => by
    have h1 := hel i hi
    rw [cells_u8, Nat.mul_one, List.getElem?_eq_getElem (by omega)] at h1
    exact (reads_u8 (enc := enc) (W := W) Tryd.underlying5) m _ _ h1
  obtain ⟨a, h0, a0⟩ := hx 0 (by omega)
  obtain ⟨b, h1, b0⟩ := hx 1 (by omega)
  obtain ⟨c, h2, c0⟩ := hx 2 (by omega)
  obtain ⟨d, h3, d0⟩ := hx 3 (by omega)
  refine ⟨⟨a, b, c, d⟩, ?_, a0, b0, c0, d0⟩
  have e : cs = cs.drop 0 := rfl
  rw [e, cutL cs 0 1, cutL cs (0 + 1) 1, cutL cs (0 + 1 + 1) 1, cutL cs (0 + 1 + 1 + 1) 1, h0, h1, h2, h3, List.drop_eq_nil_of_le (by omega)]
  rfl
theorem reads_graph : Reads enc Tryd.prog W 33 RFg := fun fuel cs x h => by
  obtain ⟨nds, v, h0, hn⟩ := reads_field Tryd.underlying33 h 0 (ft := 31) (off := 0) (n := 1) rfl cells_nodes (E := RSl RNode 3) (reads_slice Tryd.underlying31 cells_node (by decide) reads_node)
  obtain ⟨out, h1, ho⟩ := reads_field Tryd.underlying33 h 1 (ft := 3) (off := 1) (n := 1) rfl cells_int (E := RInt) ri
  have hl := struct_len Tryd.underlying33 h
  rw [cells_graph] at hl
  refine ⟨⟨nds, out⟩, v, ?_, ho, hn⟩
  have e : cs = cs.drop 0 := rfl
  rw [e, cutL cs 0 1, cutL cs (0 + 1) 1, h0, h1, List.drop_eq_nil_of_le (by omega)]
  rfl
theorem reads_content : Reads enc Tryd.prog W 30 RCt := fun fuel cs x h => by
  obtain ⟨kind, h0, k0⟩ := reads_field Tryd.underlying30 h 0 (ft := 3) (off := 0) (n := 1) rfl cells_int (E := RInt) ri
  obtain ⟨box, h1, k1⟩ := reads_field Tryd.underlying30 h 1 (ft := 25) (off := 1) (n := 4) rfl cells_rect (E := RRc) reads_rect
  obtain ⟨px, h2, k2⟩ := reads_field Tryd.underlying30 h 2 (ft := 27) (off := 5) (n := 4) rfl cells_px (E := RPx) reads_px
  obtain ⟨cw, h3, k3⟩ := reads_field Tryd.underlying30 h 3 (ft := 3) (off := 9) (n := 1) rfl cells_int (E := RInt) ri
  obtain ⟨ch, h4, k4⟩ := reads_field Tryd.underlying30 h 4 (ft := 3) (off := 10) (n := 1) rfl cells_int (E := RInt) ri
  obtain ⟨turn, h5, k5⟩ := reads_field Tryd.underlying30 h 5 (ft := 3) (off := 11) (n := 1) rfl cells_int (E := RInt) ri
  obtain ⟨pix, v, h6, k6⟩ := reads_field Tryd.underlying30 h 6 (ft := 28) (off := 12) (n := 1) rfl cells_pxs (E := RSl RPx 4) (reads_slice Tryd.underlying28 cells_px (by decide) reads_px)
  have hl := struct_len Tryd.underlying30 h
  rw [cells_content] at hl
  refine ⟨⟨kind, box, px, cw, ch, turn, pix⟩, v, ?_, ⟨k0, k1, k2, k3, k4, k5⟩, k6⟩
  have e : cs = cs.drop 0 := rfl
  rw [e, cutL cs 0 1, cutL cs (0 + 1) 4, cutL cs (0 + 1 + 4) 4, cutL cs (0 + 1 + 4 + 4) 1, cutL cs (0 + 1 + 4 + 4 + 1) 1, cutL cs (0 + 1 + 4 + 4 + 1 + 1) 1, cutL cs (0 + 1 + 4 + 4 + 1 + 1 + 1) 1, h0, h1, h2, h3, h4, h5, h6, List.drop_eq_nil_of_le (by omega)]
  rfl
theorem reads_look : Reads enc Tryd.prog W 35 RLk := fun fuel cs x h => by
  obtain ⟨dx, h0, k0⟩ := reads_field Tryd.underlying35 h 0 (ft := 3) (off := 0) (n := 1) rfl cells_int (E := RInt) ri
  obtain ⟨dy, h1, k1⟩ := reads_field Tryd.underlying35 h 1 (ft := 3) (off := 1) (n := 1) rfl cells_int (E := RInt) ri
  obtain ⟨hc, h2⟩ := reads_field Tryd.underlying35 h 2 (ft := 4) (off := 2) (n := 1) rfl cells_bool (E := RBool) rb
  obtain ⟨clip, h3, k3⟩ := reads_field Tryd.underlying35 h 3 (ft := 25) (off := 3) (n := 4) rfl cells_rect (E := RRc) reads_rect
  obtain ⟨opa, h4, k4⟩ := reads_field Tryd.underlying35 h 4 (ft := 3) (off := 7) (n := 1) rfl cells_int (E := RInt) ri
  obtain ⟨mode, h5, k5⟩ := reads_field Tryd.underlying35 h 5 (ft := 3) (off := 8) (n := 1) rfl cells_int (E := RInt) ri
  obtain ⟨ct, pv, h6, k6, p6⟩ := reads_field Tryd.underlying35 h 6 (ft := 30) (off := 9) (n := 13) rfl cells_content (E := RCt) reads_content
  obtain ⟨hf, h7⟩ := reads_field Tryd.underlying35 h 7 (ft := 4) (off := 22) (n := 1) rfl cells_bool (E := RBool) rb
  obtain ⟨fil, fv, h8, k8, p8⟩ := reads_field Tryd.underlying35 h 8 (ft := 33) (off := 23) (n := 2) rfl cells_graph (E := RFg) reads_graph
  obtain ⟨hb, h9⟩ := reads_field Tryd.underlying35 h 9 (ft := 4) (off := 25) (n := 1) rfl cells_bool (E := RBool) rb
  obtain ⟨bak, bv, h10, k10, p10⟩ := reads_field Tryd.underlying35 h 10 (ft := 33) (off := 26) (n := 2) rfl cells_graph (E := RFg) reads_graph
  have hl := struct_len Tryd.underlying35 h
  rw [cells_look] at hl
  unfold RBool at h2 h7 h9
  refine ⟨⟨dx, dy, hc, clip, opa, mode, ct, hf, fil, hb, bak⟩, pv, fv, bv, ?_, ⟨k0, k1, k3, k4, k5, k6, k8, k10⟩, p6, p8, p10⟩
  have e : cs = cs.drop 0 := rfl
  rw [e, cutL cs 0 1, cutL cs (0 + 1) 1, cutL cs (0 + 1 + 1) 1, cutL cs (0 + 1 + 1 + 1) 4, cutL cs (0 + 1 + 1 + 1 + 4) 1, cutL cs (0 + 1 + 1 + 1 + 4 + 1) 1, cutL cs (0 + 1 + 1 + 1 + 4 + 1 + 1) 13, cutL cs (0 + 1 + 1 + 1 + 4 + 1 + 1 + 13) 1, cutL cs (0 + 1 + 1 + 1 + 4 + 1 + 1 + 13 + 1) 2, cutL cs (0 + 1 + 1 + 1 + 4 + 1 + 1 + 13 + 1 + 2) 1, cutL cs (0 + 1 + 1 + 1 + 4 + 1 + 1 + 13 + 1 + 2 + 1) 2,
    h0, h1, h2, h3, h4, h5, h6, h7, h8, h9, h10, List.drop_eq_nil_of_le (by omega)]
  rfl
def RId : Rep (Int × Int) := fun _ _ cs p => cs = [.int .i64 p.1, .int .i64 p.2] ∧ In64 p.1 ∧ In64 p.2
theorem reads_id : Reads enc Tryd.prog W 23 RId := fun fuel cs x h => by
  obtain ⟨a, h0, k0⟩ := reads_field Tryd.underlying23 h 0 (ft := 3) (off := 0) (n := 1) rfl cells_int (E := RInt) ri
  obtain ⟨b, h1, k1⟩ := reads_field Tryd.underlying23 h 1 (ft := 3) (off := 1) (n := 1) rfl cells_int (E := RInt) ri
  have hl := struct_len Tryd.underlying23 h
  rw [cells_id] at hl
  refine ⟨(a, b), ?_, k0, k1⟩
  have e : cs = cs.drop 0 := rfl
  rw [e, cutL cs 0 1, cutL cs (0 + 1) 1, h0, h1, List.drop_eq_nil_of_le (by omega)]
  rfl
/-- a slice's elements of depths of their own are of one depth together -/
theorem sl_depth {F : Nat → Prop} {w : World} {v : Value} {xs : List Ly} (h : SlOf (fun F w cs l => ∃ n, RLy n F w cs l) 31 F w v xs) : ∃ n, SlOf (RLy n) 31 F w v xs := by
  obtain ⟨a, cap, hv, h1, h2, h3⟩ := h
  rcases h3 with h3 | ⟨b, o, ha, hF, h3⟩
  · exact ⟨0, a, cap, hv, h1, h2, .inl h3⟩
  · have key : ∀ m, ∃ n, ∀ i x, i < m → xs[i]? = some x → ∃ cs, cs.length = 31 ∧ LiesAt w b (o + i * 31) cs ∧ RLy n F w cs x := by
      intro m
      induction m with
      | zero => exact ⟨0, fun i x hi => by omega⟩
      | succ m ih =>
        obtain ⟨n, hn⟩ := ih
        cases hx : xs[m]? with
        | none => exact ⟨n, fun i x hi h => hn i x (by
            by_cases e : i = m
            · subst e; rw [hx] at h; cases h
            · omega) h⟩
        | some y =>
          obtain ⟨cs, hl, hc, k, hk⟩ := h3 m y hx
          refine ⟨max n k, fun i x hi h => ?_⟩
          by_cases e : i = m
          · subst e
            rw [hx] at h
            cases h
            exact ⟨cs, hl, hc, RLy.up k _ (by omega) hk⟩
          · obtain ⟨cs', a1, a2, a3⟩ := hn i x (by omega) h
            exact ⟨cs', a1, a2, RLy.up n _ (by omega) a3⟩
    obtain ⟨n, hn⟩ := key xs.length
    exact ⟨n, a, cap, hv, h1, h2, .inr ⟨b, o, ha, hF, fun i x hx => hn i x (List.getElem?_eq_some_iff.1 hx).1 hx⟩⟩
/-- fuel by fuel -/
theorem reads_layer_fuel : ∀ (fuel : Nat) (cs : List Value) (x : DataW H × List MemPlace), DataW.trod enc Tryd.prog W 0 (fun _ => true) true fuel 38 cs = some x → ∃ l : Ly, ∃ n, RLy n (· < W.heap.size) W cs l := by
  intro fuel
  induction fuel using Nat.strongRecOn with
  | ind fuel ih =>
    intro cs x h
    obtain ⟨id, e0, i0, i1⟩ := reads_field Tryd.underlying38 h 0 (ft := 23) (off := 0) (n := 2) rfl cells_id (E := RId) reads_id
    obtain ⟨k, pv, fv, bv, e1, hk⟩ := reads_field Tryd.underlying38 h 1 (ft := 35) (off := 2) (n := 28) rfl cells_look (E := RLk) reads_look
    have hl := struct_len Tryd.underlying38 h
    rw [cells_layer] at hl
    obtain ⟨xs, m, hm, _, _, hxl, hf⟩ := DataW.trod_struct Tryd.underlying38 h
    have h2 := hf 2 _ rfl
    rw [List.getElem?_eq_getElem (by rw [hxl]; decide)] at h2
    have hs : ∃ kids, ∃ kv, (cs.drop 30).take 1 = [kv] ∧ SlOf (fun F w cs l => ∃ n, RLy n F w cs l) 31 (· < W.heap.size) W kv kids := by
      have ht := Tryd.underlying36
      have h3 : DataW.trod enc Tryd.prog W 0 (fun _ => true) true m 36 ((cs.drop 30).take 1) = some _ := h2
      rcases DataW.trod_slice ht h3 with ⟨h4, _⟩ | ⟨a, len, cap, elems, rest, n, hn, h4, _, hb, hl, hmx, hlen, hel, _⟩
      · exact ⟨[], _, h4, none, 0, rfl, Nat.le_refl _, by decide, .inl rfl⟩
      · have hall : ∀ i, i < len → ∃ y : Ly, ∃ cs, cs.length = 31 ∧ (∀ j u, cs[j]? = some u → W.cell? ((a.add (i * 31)).add j) = some u) ∧ ∃ n, RLy n (· < W.heap.size) W cs y := by
          intro i hi
          have h1 := hel i hi
          rw [cells_layer] at h1
          rw [List.getElem?_eq_getElem (by omega), Option.bind_eq_some_iff] at h1
          obtain ⟨cs, hcs, hr⟩ := h1
          obtain ⟨y, hy⟩ := ih n (by omega) cs _ hr
          have hc := World.cells?_some hcs
          refine ⟨y, cs, hc.2.1, fun j u hu => ?_, hy⟩
          have hj : j < 31 := by
            have := (List.getElem?_eq_some_iff.1 hu).1
            have := hc.2.1
            omega
          exact (hc.2.2 j hj).trans hu
        obtain ⟨xs, hxl, hx⟩ := list_of len hall
        refine ⟨xs, _, h4, some a, cap, by rw [hxl], by omega, hmx, ?_⟩
        by_cases h0 : len = 0
        · left; exact List.eq_nil_of_length_eq_zero (by omega)
        · right
          obtain ⟨b, o, spot⟩ := a
          have hspot : spot = none ∧ b < W.heap.size := by
            obtain ⟨y, cs, hcl, hc, _⟩ := hall 0 (by omega)
            have hu : cs[0]? = some cs[0] := List.getElem?_eq_getElem (by omega)
            have := hc 0 _ hu
            simp only [Nat.zero_mul, Addr.add, if_true] at this
            exact ⟨World.cell?_spot this, lt_of_cell this⟩
          obtain ⟨rfl, hlt⟩ := hspot
          refine ⟨b, o, rfl, hlt, fun i x hi => ?_⟩
          obtain ⟨cs, hcl, hc, hE⟩ := hx i x hi
          refine ⟨cs, hcl, fun j u hu => ?_, hE⟩
          have := hc j u hu
          rw [Go.WideShapes.add_plain, Go.WideShapes.add_plain] at this
          exact this
    obtain ⟨kids, kv, e2, hs⟩ := hs
    obtain ⟨n, hs⟩ := sl_depth hs
    refine ⟨.mk id.1 id.2 k kids, n + 1, pv, fv, bv, kv, ?_, i0, i1, hk, hs⟩
    have e : cs = cs.drop 0 := rfl
    rw [e, cutL cs 0 2, cutL cs (0 + 2) 28, cutL cs (0 + 2 + 28) 1, e0, e1, e2, List.drop_eq_nil_of_le (by omega)]
    rfl
theorem layer_arg {v : Value} {d : DataW H} {p : List MemPlace} (h : DataW.Trod enc Tryd.prog W 0 (fun _ => true) true 38 v d p) (hv : Value.okWide Tryd.prog W .any base 38 v) :
    ∃ (l : Ly) (n : Nat) (pv fv bv kv : Value), v = .agg (lyc l.i0 l.i1 l.look pv fv bv kv).toArray ∧ In64 l.i0 ∧ In64 l.i1 ∧ LkAt (· < W.heap.size) W l.look pv fv bv ∧ SlOf (RLy n) 31 (· < W.heap.size) W kv l.kids := by
  obtain ⟨cs, rfl⟩ := arg_struct Tryd.underlying38 hv
  obtain ⟨fuel, hf⟩ := h
  obtain ⟨l, n, hn⟩ := reads_layer_fuel fuel _ _ hf
  match n, hn with
  | n + 1, ⟨pv, fv, bv, kv, h1, h2, h3, h4, h5⟩ =>
    refine ⟨l, n, pv, fv, bv, kv, ?_, h2, h3, h4, h5⟩
    exact agg_of rfl h1
end
end Go.Proofs.YtgodhpampaleeaaDoor
