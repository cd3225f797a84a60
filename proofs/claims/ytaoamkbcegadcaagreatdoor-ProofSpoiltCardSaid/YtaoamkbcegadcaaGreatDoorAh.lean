/- Texts joined: XShelfSl XSi XSl XSr XSu XTc. -/
import Derived.Shelf.Sort.Plain
import Derived.Shelf.Slices.Turned
import Derived.Ground.Names2Prog
import Derived.Shelf.Slices.CompactI
import Derived.Shelf.Slices.In.SortNone
import Derived.Test.YtaoamkbcegadcaaGreatDoorProg
import Derived.Test.YtaoamkbcegadcaaGreatDoorAg
import Derived.Test.YtaoamkbcegadcaaGreatDoorAb
import Derived.Sort.OwnSorted
set_option maxRecDepth 4000
/- The library's contracts of slices.Sort, Contains and Compact at this translation (written by the kit's shelf in its plain mode). -/
namespace Go.Proofs
open Go.Shelf
def Tryz.lays189_ren : Go.Shelf.Ren := ⟨fun | 189 => 51 | 125 => 73 | 257 => 72 | 128 => 96 | 129 => 74 | 294 => 87 | 295 => 88 | 296 => 89 | 297 => 90 | 298 => 91 | 299 => 92 | 216 => 93 | 300 => 94 | 301 => 95 | 328 => 100 | 329 => 101 | 330 => 102 | 331 => 103 | 332 => 104 | 215 => 105 | 343 => 107 | n => n,fun | 28 => 35 | 3 => 3 | 46 => 116 | 0 => 0 | 51 => 143 | 53 => 118 | 4 => 4 | 183 => 137 | 182 => 136 | 131 => 78 | 5 => 5 | 9 => 9 | 218 => 146 | 222 => 150 | 228 => 153 | 229 => 154 | n => n,fun | n => n⟩
theorem Tryz.lays189 : Go.Proofs.Lays.n189 Tryz.prog Tryz.lays189_ren := {
  mixed := by kernel_rfl
  f125 := Tryz.func73.trans (congrArg some (by kernel_rfl))
  f128 := Tryz.func96.trans (congrArg some (by kernel_rfl))
  f129 := Tryz.func74.trans (congrArg some (by kernel_rfl))
  f189 := Tryz.func51.trans (congrArg some (by kernel_rfl))
  f215 := Tryz.func105.trans (congrArg some (by kernel_rfl))
  f216 := Tryz.func93.trans (congrArg some (by kernel_rfl))
  f257 := Tryz.func72.trans (congrArg some (by kernel_rfl))
  f294 := Tryz.func87.trans (congrArg some (by kernel_rfl))
  f295 := Tryz.func88.trans (congrArg some (by kernel_rfl))
  f296 := Tryz.func89.trans (congrArg some (by kernel_rfl))
  f297 := Tryz.func90.trans (congrArg some (by kernel_rfl))
  f298 := Tryz.func91.trans (congrArg some (by kernel_rfl))
  f299 := Tryz.func92.trans (congrArg some (by kernel_rfl))
  f300 := Tryz.func94.trans (congrArg some (by kernel_rfl))
  f301 := Tryz.func95.trans (congrArg some (by kernel_rfl))
  f328 := Tryz.func100.trans (congrArg some (by kernel_rfl))
  f329 := Tryz.func101.trans (congrArg some (by kernel_rfl))
  f330 := Tryz.func102.trans (congrArg some (by kernel_rfl))
  f331 := Tryz.func103.trans (congrArg some (by kernel_rfl))
  f332 := Tryz.func104.trans (congrArg some (by kernel_rfl))
  f343 := Tryz.func107.trans (congrArg some (by kernel_rfl))
  t0 := Tryz.underlying0
  a0 := Tryz.isAgg0
  z0 := Tryz.sizeOf0
  v0 := Tryz.zeroValue0
  t3 := Tryz.underlying3
  a3 := Tryz.isAgg3
  z3 := Tryz.sizeOf3
  v3 := Tryz.zeroValue3
  t4 := Tryz.underlying4
  a4 := Tryz.isAgg4
  z4 := Tryz.sizeOf4
  v4 := Tryz.zeroValue4
  t5 := Tryz.underlying5
  a5 := Tryz.isAgg5
  z5 := Tryz.sizeOf5
  v5 := Tryz.zeroValue5
  t9 := Tryz.underlying9
  a9 := Tryz.isAgg9
  z9 := Tryz.sizeOf9
  v9 := Tryz.zeroValue9
  t28 := Tryz.underlying35
  a28 := Tryz.isAgg35
  z28 := Tryz.sizeOf35
  v28 := Tryz.zeroValue35
  t46 := Tryz.underlying116
  a46 := Tryz.isAgg116
  z46 := Tryz.sizeOf116
  v46 := Tryz.zeroValue116
  t51 := Tryz.underlying143
  a51 := Tryz.isAgg143
  z51 := Tryz.sizeOf143
  v51 := Tryz.zeroValue143
  t53 := Tryz.underlying118
  a53 := Tryz.isAgg118
  z53 := Tryz.sizeOf118
  v53 := Tryz.zeroValue118
  t131 := Tryz.underlying78
  a131 := Tryz.isAgg78
  z131 := Tryz.sizeOf78
  v131 := Tryz.zeroValue78
  t182 := Tryz.underlying136
  a182 := Tryz.isAgg136
  z182 := Tryz.sizeOf136
  v182 := Tryz.zeroValue136
  t183 := Tryz.underlying137
  a183 := Tryz.isAgg137
  z183 := Tryz.sizeOf137
  v183 := Tryz.zeroValue137
  t218 := Tryz.underlying146
  a218 := Tryz.isAgg146
  z218 := Tryz.sizeOf146
  v218 := Tryz.zeroValue146
  t222 := Tryz.underlying150
  a222 := Tryz.isAgg150
  z222 := Tryz.sizeOf150
  v222 := Tryz.zeroValue150
  t228 := Tryz.underlying153
  a228 := Tryz.isAgg153
  z228 := Tryz.sizeOf153
  v228 := Tryz.zeroValue153
  t229 := Tryz.underlying154
  a229 := Tryz.isAgg154
  z229 := Tryz.sizeOf154
  v229 := Tryz.zeroValue154 }
open Go.Sort Go.RowKit in
theorem Tryz.slices_Sort_int (blk off cap : Nat) (zs : List Int) (w : World) (hH : Holds (Value.int .i64) w blk off zs.toArray) (hblk : blk < w.heap.size) (hsz : zs.length < 4611686018427387904) :
    Calls Tryz.prog 51 #[.slice (some ⟨blk,off,none⟩) zs.length cap] w fun e w' =>
      e = .returned (.tuple #[]) ∧ ∃ n os,w' = grow (putRow (Value.int .i64) (Sort.ahead w n) blk off (zs.mergeSort fun x y => decide (x ≤ y)).toArray) os := Any.slices_Sort_int Tryz.lays189 blk off cap zs w hH hblk hsz
def Tryz.lays107_ren : Go.Shelf.Ren := ⟨fun | 107 => 50 | 108 => 62 | n => n,fun | 28 => 35 | 3 => 3 | 4 => 4 | 0 => 0 | n => n,fun | n => n⟩
theorem Tryz.lays107 : Go.Proofs.Lays.n107 Tryz.prog Tryz.lays107_ren := {
  mixed := by kernel_rfl
  f107 := Tryz.func50.trans (congrArg some (by kernel_rfl))
  f108 := Tryz.func62.trans (congrArg some (by kernel_rfl))
  t0 := Tryz.underlying0
  a0 := Tryz.isAgg0
  z0 := Tryz.sizeOf0
  v0 := Tryz.zeroValue0
  t3 := Tryz.underlying3
  a3 := Tryz.isAgg3
  z3 := Tryz.sizeOf3
  v3 := Tryz.zeroValue3
  t4 := Tryz.underlying4
  a4 := Tryz.isAgg4
  z4 := Tryz.sizeOf4
  v4 := Tryz.zeroValue4
  t28 := Tryz.underlying35
  a28 := Tryz.isAgg35
  z28 := Tryz.sizeOf35
  v28 := Tryz.zeroValue35 }
open Go.Lib in
theorem Tryz.slices_Contains_int (b off n c : Nat) (zs : List Int) (x : Int) (w : World) (hz : n ≤ zs.length) (hbig : n ≤ 9223372036854775807) (hc : ∀ j,j < zs.length → w.cell? ⟨b,off + j,none⟩ = some (.int .i64 (zs.getD j 0))) :
    Calls Tryz.prog 50 #[.slice (some ⟨b,off,none⟩) n c,.int .i64 x] w fun e w' => e = .returned (.bool ((zs.take n).contains x)) ∧ w' = w := Any.slices_Contains_int Tryz.lays107 b off n c zs x w hz hbig hc
open Go.Lib in
theorem Tryz.slices_Contains_int_empty (a : Option Addr) (c : Nat) (x : Int) (w : World) :
    Calls Tryz.prog 50 #[.slice a 0 c,.int .i64 x] w fun e w' => e = .returned (.bool false) ∧ w' = w := Any.slices_Contains_int_empty Tryz.lays107 a c x w
def Tryz.laysNm220_ren : Go.Shelf.Ren := ⟨fun | 20 => 52 | n => n,fun | 22 => 35 | 3 => 3 | 4 => 4 | 0 => 0 | n => n,fun | n => n⟩
theorem Tryz.laysNm220 : Go.Proofs.Lays2.n20 Tryz.prog Tryz.laysNm220_ren := {
  mixed := by kernel_rfl
  f20 := Tryz.func52.trans (congrArg some (by kernel_rfl))
  t0 := Tryz.underlying0
  a0 := Tryz.isAgg0
  z0 := Tryz.sizeOf0
  v0 := Tryz.zeroValue0
  t3 := Tryz.underlying3
  a3 := Tryz.isAgg3
  z3 := Tryz.sizeOf3
  v3 := Tryz.zeroValue3
  t4 := Tryz.underlying4
  a4 := Tryz.isAgg4
  z4 := Tryz.sizeOf4
  v4 := Tryz.zeroValue4
  t22 := Tryz.underlying35
  a22 := Tryz.isAgg35
  z22 := Tryz.sizeOf35
  v22 := Tryz.zeroValue35
  i3 := by kernel_rfl }
open Go.RowKit Go.Lib Go.Sort in
theorem Tryz.slices_Compact_int (blk off cap : Nat) (zs : List Int) (w : World) (hH : Holds (Value.int .i64) w blk off zs.toArray) (hsz : zs.length ≤ 9223372036854775807) (hcap : zs.length ≤ cap) :
    Calls Tryz.prog 52 #[.slice (some ⟨blk,off,none⟩) zs.length cap] w fun e w' => e = .returned (.slice (some ⟨blk,off,none⟩) (Lib.compact zs).length cap) ∧ ∃ q,w' = putRow (Value.int .i64) (Sort.ahead w q) blk off (Lib.compact zs ++ List.replicate (zs.length - (Lib.compact zs).length) 0).toArray := Any.slices_Compact_int Tryz.laysNm220 blk off cap zs w hH hsz hcap
open Go.RowKit Go.Lib Go.Sort in
theorem Tryz.slices_Compact_int_empty (a : Option Addr) (cap : Nat) (w : World) :
    Calls Tryz.prog 52 #[.slice a 0 cap] w fun e w' => e = .returned (.slice a 0 cap) ∧ w' = w := Any.slices_Compact_int_empty Tryz.laysNm220 a cap w
open Go.RowKit Go.Sort in
theorem Tryz.slices_Sort_int_none (p : Option Addr) (cap : Nat) (w : World) :
    Calls Tryz.prog 51 #[.slice p 0 cap] w fun e w' => e = .returned (.tuple #[]) ∧ w' = w := Any.slices_Sort_int_none Tryz.lays189 p cap w
end Go.Proofs
/- Layer 17: lists of lists in memory; rows of rows of ints that grow; what slices.Sort, Compact and Contains leave. -/
namespace Go.Proofs.YtaoamkbcegadcaaGreatDoor
open Go.RowKit Go.Bx Go.Od Go.Hp Go.Sort
set_option linter.unusedVariables false

/-! ### lists of lists -/
def LL (B : Nat) (W : World) (lv : Value) (L : List (List Int)) : Prop := SlOf (RSl RInt 1) 1 (· < B) W lv L
theorem LL.below {B : Nat} {W W' : World} {lv : Value} {L : List (List Int)} (h : LL B W lv L) (hb : Below B W W') : LL B W' lv L := SlOf.same (RSl.ok RInt.ok) (Same.of_below hb fun b hb => hb) h
theorem LL.isSl {B : Nat} {W : World} {lv : Value} {L : List (List Int)} (h : LL B W lv L) : ∃ a c,lv = .slice a L.length c ∧ L.length ≤ maxLen := by
  obtain ⟨a,c,h1,h2,h3,_⟩ := h
  exact ⟨a,c,h1,Nat.le_trans h2 h3⟩
theorem LL.at {B : Nat} {W : World} {lv : Value} {L : List (List Int)} (h : LL B W lv L) {i : Nat} (hi : i < L.length) : ∃ b o c x y,lv = .slice (some ⟨b,o,none⟩) L.length c ∧ b < B ∧ W.cell? ⟨b,o + i,none⟩ = some (.slice x (L.getD i []).length y) ∧ SlOf RInt 1 (· < B) W (.slice x (L.getD i []).length y) (L.getD i []) := by
  obtain ⟨a,c,h1,h2,h3,h4⟩ := h
  rcases h4 with h4 | ⟨b,o,rfl,hF,h4⟩
  · subst h4; simp at hi
  · obtain ⟨cs,hl,hlies,v,rfl,hv⟩ := h4 i _ (List.getElem?_eq_getElem hi)
    have e : L[i] = L.getD i [] := by simp [hi]
    rw [e] at hv
    obtain ⟨x,y,hxy⟩ : ∃ x y,v = .slice x (L.getD i []).length y := by
      obtain ⟨x,y,hv',_⟩ := hv
      exact ⟨x,y,hv'⟩
    subst hxy
    have := hlies 0 _ rfl
    rw [Nat.mul_one,Nat.add_zero] at this
    exact ⟨b,o,c,x,y,h1,hF,this,hv⟩
theorem sl_cellsS {F : Nat → Prop} {w : World} {v : Value} {p : List Int} (h : SlOf RInt 1 F w v p) (h0 : 0 < p.length) : ∃ b o c,v = .slice (some ⟨b,o,none⟩) p.length c ∧ F b ∧ (∀ j,j < p.length → w.cell? ⟨b,o + j,none⟩ = some (.int .i64 (p.getD j 0))) ∧ p.length ≤ c ∧ c ≤ maxLen := by
  obtain ⟨a,cap,rfl,hcap,hcm,hin,hcell⟩ := h.ints
  obtain ⟨b,o,rfl,hF,hc⟩ := hcell 0 h0
  refine ⟨b,o,cap,rfl,hF,fun j hj => ?_,hcap,hcm⟩
  obtain ⟨b',o',e,_,hc'⟩ := hcell j hj
  cases e
  exact hc' j hj
theorem ofN_get (l : List Nat) (k : Nat) : (ofN l).getD k 0 = ((l.getD k 0 : Nat) : Int) := by
  unfold ofN
  by_cases h : k < l.length
  · simp [h]
  · simp only [List.getD_eq_getElem?_getD,List.getElem?_map]
    rw [List.getElem?_eq_none (by omega)]
    simp
theorem own_sl_x {w : World} {B : Nat} {v : Value} {xs : List Int} (h : OwnP w B v xs) (hin : ∀ x ∈ xs,In64 x) : SlOf RInt 1 (· < w.heap.size) w v xs := by
  rcases h.form with ⟨rfl,rfl⟩ | ⟨g,cap,rfl,hB,hlt,hle,hcap,_,_,hc⟩
  · exact sl_nil _ _
  · refine ⟨_,cap,rfl,hle,hcap,.inr ⟨g,0,rfl,hlt,fun i x hi => ?_⟩⟩
    obtain ⟨hil,hx⟩ := List.getElem?_eq_some_iff.1 hi
    refine ⟨[.int .i64 x],rfl,fun j u hu => ?_,rfl,hin x (List.mem_of_getElem? hi)⟩
    cases j with
    | zero =>
      simp at hu
      subst hu
      simp only [Nat.mul_one,Nat.zero_add,Nat.add_zero]
      rw [hc i hil]
      simp [hi]
    | succ j => simp at hu

/-! ### rows of rows of ints that grow -/
structure GI (B : Nat) (G : List (List Int)) (ov : Value) (vs : List Value) (wr : World) : Prop where
  own : wr.ownsRow B 35 1 ov G.length vs
  inner : ∀ r,r < G.length → OwnP wr B (vs.getD r undef) (G.getD r [])
section
variable {wr w' w8 : World} {B : Nat} {ov lv : Value} {G : List (List Int)} {vs : List Value} {g : List Int}
theorem GI.nil (B : Nat) (wr : World) : GI B [] (.slice none 0 0) [] wr := ⟨World.ownsRow_nil _ _ _ _,fun r hr => by simp at hr⟩
theorem GI.call (h : GI B G ov vs wr) (hb : Below wr.heap.size wr w') : GI B G ov vs w' := ⟨owns_below h.own hb (Nat.le_refl _),fun r hr => (h.inner r hr).below hb⟩
theorem GI.mono {C : Nat} (h : GI B G ov vs wr) (hC : C ≤ B) : GI C G ov vs wr := ⟨row_mono h.own hC,fun r hr => OwnP.mono (h.inner r hr) hC⟩
theorem GI.alloc (h : GI B G ov vs wr) (o : Obj) : GI B G ov vs (wr.alloc o) := h.call (below_alloc wr o)
theorem GI.away {X : Nat} (h : GI B G ov vs wr) {row : Option Nat} (hX : ∀ r,r < G.length → ∀ k,(vs.getD r undef).ownBlock = some k → k < X) (hO : ∀ k,ov.ownBlock = some k → k < X) (hg : wr.grownBy w8 row) (hr : ∀ k,row = some k → X ≤ k) : GI B G ov vs w8 := by
  have kept : ∀ (v : Value) (e : TypeId) (n : Nat) (xs : List Value),wr.ownsRow B e 1 v n xs → (∀ k,v.ownBlock = some k → k < X) → w8.ownsRow B e 1 v n xs := fun v e n xs hv hk => World.ownsRow.kept hv hg (by
    cases e1 : v.ownBlock with
    | none => exact .inl rfl
    | some j => exact .inr fun e2 => by have := hk j e1; have := hr j e2.symm; omega)
  exact ⟨kept _ _ _ _ h.own hO,fun r hr => kept _ _ _ _ (h.inner r hr) (hX r hr)⟩
theorem GI.push {g8 c8 : Nat} {o : Obj} (h : GI B G ov vs wr) (hl : OwnP wr B lv g) (hown : w8.ownsRow B 35 1 (.slice (some ⟨g8,0,none⟩) (G.length + 1) c8) (G.length + 1) (vs ++ [lv])) (hg : (wr.alloc o).grownBy w8 ov.ownBlock) :
    GI B (G ++ [g]) (.slice (some ⟨g8,0,none⟩) (G.length + 1) c8) (vs ++ [lv]) w8 := by
  have h' := h.alloc o
  have hvl : vs.length = G.length := by have := h.own.1; omega
  have kept : ∀ (v : Value) (xs : List Int),OwnP (wr.alloc o) B v xs → OwnP w8 B v xs := fun v xs hv => World.ownsRow.kept hv hg (by
    cases e1 : v.ownBlock with
    | none => exact .inl rfl
    | some j => exact .inr fun e2 => rows_apart hv h'.own (by decide) e1 e2.symm)
  refine ⟨by rw [List.length_append]; exact hown,fun r hr => ?_⟩
  rw [List.length_append,List.length_singleton] at hr
  by_cases e : r = G.length
  · subst e
    have e1 : (vs ++ [lv]).getD G.length undef = lv := by rw [← hvl]; simp
    have e2 : (G ++ [g]).getD G.length [] = g := by simp
    rw [e1,e2]
    exact kept _ _ (hl.alloc o)
  · have e1 : (vs ++ [lv]).getD r undef = vs.getD r undef := by
      simp only [List.getD_eq_getElem?_getD]
      rw [List.getElem?_append_left (by omega)]
    have e2 : (G ++ [g]).getD r [] = G.getD r [] := by
      simp only [List.getD_eq_getElem?_getD]
      rw [List.getElem?_append_left (by omega)]
    rw [e1,e2]
    exact kept _ _ (h'.inner r (by omega))
theorem GI.ll (h : GI B G ov vs wr) (hin : ∀ g ∈ G,∀ x ∈ g,In64 x) : LL wr.heap.size wr ov G := by
  rcases h.own.2 with ⟨rfl,h0⟩ | ⟨g,cap,cur,rfl,hB,hb,hnc,hcm,_⟩
  · exact ⟨none,0,by rw [h0],by omega,by decide,.inl (List.eq_nil_of_length_eq_zero h0)⟩
  · refine ⟨_,cap,rfl,hnc,hcm,.inr ⟨g,0,rfl,(Array.getElem?_eq_some_iff.1 hb).1,fun i x hi => ?_⟩⟩
    obtain ⟨hil,hx⟩ := List.getElem?_eq_some_iff.1 hi
    have e : G.getD i [] = x := by simp [hi]
    have h1 := h.inner i hil
    rw [e] at h1
    refine ⟨[vs.getD i undef],rfl,fun j u hu => ?_,_,rfl,own_sl_x h1 (hin x (List.mem_of_getElem? hi))⟩
    cases j with
    | zero =>
      simp at hu
      subst hu
      rw [Nat.zero_add,Nat.mul_one,Nat.add_zero,World.ownsRow.cellAt h.own i (by omega)]
      have := h.own.1
      have hiv : i < vs.length := by omega
      simp [hiv]
    | succ j => simp at hu
end
theorem GU.gi {B : Nat} {G : List (List Nat)} {ov : Value} {vs : List Value} {wr : World} (h : GU B G ov vs wr) : GI B (G.map ofN) ov vs wr := by
  refine ⟨by rw [List.length_map]; exact h.own,fun r hr => ?_⟩
  rw [List.length_map] at hr
  have := h.inner r hr
  have e : (G.map ofN).getD r [] = ofN (G.getD r []) := by simp [hr]
  rw [e]
  exact this
def QO (w3 : World) (G : List (List Int)) (ov : Value) (wr : World) : Prop := ∃ vs,GI w3.heap.size G ov vs wr ∧ Below w3.heap.size w3 wr
def QI (w3 : World) (G : List (List Int)) (ov lv : Value) (l : List Int) (X : Nat) (wr : World) : Prop :=
  ∃ vs,GI w3.heap.size G ov vs wr ∧ Below w3.heap.size w3 wr ∧ OwnP wr X lv l ∧ X ≤ wr.heap.size ∧ w3.heap.size ≤ X ∧ (∀ r,r < G.length → ∀ k,(vs.getD r undef).ownBlock = some k → k < X) ∧ ∀ k,ov.ownBlock = some k → k < X
theorem own_slv {w : World} {B : Nat} {v : Value} {xs : List Int} (h : OwnP w B v xs) : ∃ a c,v = .slice a xs.length c := by
  rcases h.form with ⟨rfl,rfl⟩ | ⟨g,cap,rfl,_⟩
  · exact ⟨none,0,rfl⟩
  · exact ⟨_,cap,rfl⟩
section
variable {w3 wr w8 : World} {G : List (List Int)} {ov lv : Value} {l : List Int} {X : Nat}
theorem QO.isSl (h : QO w3 G ov wr) : ∃ a c,ov = .slice a G.length c := by
  obtain ⟨vs,h3,_⟩ := h
  exact row_sl h3.own
theorem QO.bel (h : QO w3 G ov wr) : Below w3.heap.size w3 wr := by
  obtain ⟨vs,h1,h2⟩ := h
  exact h2
theorem QI.isSl (h : QI w3 G ov lv l X wr) : ∃ a c,lv = .slice a l.length c := by
  obtain ⟨vs,_,_,h3,_⟩ := h
  exact own_slv h3
theorem QO.start (h : QO w3 G ov wr) : QI w3 G ov (.slice none 0 0) [] wr.heap.size wr := by
  obtain ⟨vs,h1,h2⟩ := h
  exact ⟨vs,h1,h2,own_nil _ _,Nat.le_refl _,h2.size,(fun r hr k hk => (row_ge (h1.inner r hr) k hk).2),fun k hk => (World.ownsRow.lt h1.own k hk).2⟩
theorem QI.own (h : QI w3 G ov lv l X wr) : OwnP wr X lv l ∧ X ≤ wr.heap.size := by
  obtain ⟨vs,h1,h2,h3,h4,h5⟩ := h
  exact ⟨h3,h4⟩
theorem QI.bel (h : QI w3 G ov lv l X wr) : Below w3.heap.size w3 wr := by
  obtain ⟨vs,h1,h2,h3,h4,h5⟩ := h
  exact h2
theorem QI.turn {lv' : Value} {l' : List Int} (h : QI w3 G ov lv l X wr) (hown : OwnP w8 X lv' l') (hg : wr.grownBy w8 lv.ownBlock) : QI w3 G ov lv' l' X w8 := by
  obtain ⟨vs,h1,h2,h3,h4,h5,h6,h7⟩ := h
  have hge := row_ge h3
  exact ⟨vs,h1.away h6 h7 hg fun k hk => (hge k hk).1,h2.grown hg h2.size fun k hk => Nat.le_trans h5 (hge k hk).1,hown,Nat.le_trans h4 hg.size,h5,h6,h7⟩
theorem QI.app {k : Int} {g8 c8 : Nat} {o : Obj} (h : QI w3 G ov lv l X wr) (hown : w8.ownsRow X 3 1 (.slice (some ⟨g8,0,none⟩) (l.length + 1) c8) (l.length + 1) (l.map (Value.int .i64) ++ [.int .i64 k])) (hg : (wr.alloc o).grownBy w8 lv.ownBlock) :
    QI w3 G ov (.slice (some ⟨g8,0,none⟩) (l.length + 1) c8) (l ++ [k]) X w8 := by
  refine h.turn ?_ ((World.grownBy_alloc _ _ _).trans hg)
  unfold OwnP
  rw [List.map_append,List.length_append]
  exact hown
theorem QI.row (h : QI w3 G ov lv l X wr) : ∃ vs,wr.ownsRow w3.heap.size 35 1 ov G.length vs ∧ w3.heap.size ≤ wr.heap.size ∧ ∀ (o : Obj) (w8 : World) (g8 c8 : Nat),(wr.alloc o).grownBy w8 ov.ownBlock →
    w8.ownsRow w3.heap.size 35 1 (.slice (some ⟨g8,0,none⟩) (G.length + 1) c8) (G.length + 1) (vs ++ [lv]) → QO w3 (G ++ [l]) (.slice (some ⟨g8,0,none⟩) (G.length + 1) c8) w8 := by
  obtain ⟨vs,h1,h2,h3,h4,h5,h6,h7⟩ := h
  exact ⟨vs,h1.own,h2.size,fun o w8 g8 c8 hg hown => ⟨_,h1.push (OwnP.mono h3 h5) hown hg,h2.grown ((World.grownBy_alloc _ _ _).trans hg) h2.size fun k hk => (World.ownsRow.lt h1.own k hk).1⟩⟩
end

/-! ### the library -/
def srt (xs : List Int) : List Int := xs.mergeSort fun x y => decide (x ≤ y)
theorem srt_len (xs : List Int) : (srt xs).length = xs.length := by simp [srt]
theorem own_put {w : World} {B g cap n : Nat} {os : Array Obj} {xs ts : List Int} (h : OwnP w B (.slice (some ⟨g,0,none⟩) xs.length cap) xs) (hl : ts.length = xs.length) :
    Holds (Value.int .i64) w g 0 xs.toArray ∧ g < w.heap.size ∧ xs.length ≤ cap ∧ OwnP (grow (putRow (Value.int .i64) (Sort.ahead w n) g 0 ts.toArray) os) B (.slice (some ⟨g,0,none⟩) ts.length cap) ts ∧ w.grownBy (grow (putRow (Value.int .i64) (Sort.ahead w n) g 0 ts.toArray) os) (some g) := by
  have hc : ∀ j,j < xs.length → w.cell? ⟨g,j,none⟩ = some (.int .i64 (xs.getD j 0)) ∧ w.frozen? ⟨g,j,none⟩ = false := by
    rcases h.form with ⟨h',_⟩ | ⟨g',cap',h1,_,_,_,_,_,hf,hc⟩
    · cases h'
    · simp only [Value.slice.injEq,Option.some.injEq,Addr.mk.injEq,and_true] at h1
      obtain ⟨rfl,_,_⟩ := h1
      exact fun j hj => ⟨hc j hj,hf j⟩
  rcases h.2 with ⟨h',_⟩ | ⟨g',cap',cur,h1,hB,hb,hle,hcm,hsz,htk⟩
  · cases h'
  · simp only [Value.slice.injEq,Option.some.injEq,Addr.mk.injEq,and_true,true_and] at h1
    obtain ⟨rfl,rfl⟩ := h1
    have hg := (Array.getElem?_eq_some_iff.1 hb).1
    have hheap : (grow (putRow (Value.int .i64) (Sort.ahead w n) g 0 ts.toArray) os).heap[g]? = some (.cells (putCells (Value.int .i64) 0 ts.toArray cur) 3 (0,0)) := by
      rw [heap_grow_old _ _ (by simpa using hg)]
      simp [putRow,mapBlock,Sort.ahead,Array.getElem?_modify,hb,onCells]
    refine ⟨fun j hj => ?_,hg,hle,⟨by simp,.inr ⟨g,cap,_,rfl,hB,hheap,by omega,hcm,by simp [putCells,hsz],?_⟩⟩,rfl,rfl,rfl,by simp,fun k hk hne => ?_⟩
    · have hj' : j < xs.length := by simpa using hj
      have := hc j hj'
      rw [Nat.zero_add]
      refine ⟨this.1.trans ?_,this.2⟩
      simp [hj']
    · rw [Nat.mul_one]
      apply List.ext_getElem?
      intro j
      by_cases hj : j < ts.length
      · rw [List.getElem?_take_of_lt hj,Array.getElem?_toList]
        simp [putCells,hj,show j < cur.size by omega]
      · rw [List.getElem?_take_eq_none (by omega),List.getElem?_eq_none (by simp; omega)]
    · rw [heap_grow_old _ _ (by simpa using hk)]
      have : g ≠ k := fun e => hne (by rw [e])
      simp [putRow,mapBlock,Sort.ahead,Array.getElem?_modify,this]
theorem sort_c {w : World} {B : Nat} {lv : Value} {xs : List Int} (h : OwnP w B lv xs) (hl : xs.length ≤ 1000000) :
    Calls Tryz.prog 51 #[lv] w fun e w' => e = .returned (.tuple #[]) ∧ OwnP w' B lv (srt xs) ∧ w.grownBy w' lv.ownBlock := by
  rcases h.form with ⟨rfl,rfl⟩ | ⟨g,cap,rfl,_⟩
  · refine (Tryz.slices_Sort_int_none none 0 w).mono ?_
    rintro e w' ⟨rfl,rfl⟩
    have e : srt [] = [] := by simp [srt]
    rw [e]
    exact ⟨rfl,h,World.grownBy.refl _ _⟩
  · have hp := fun n os => own_put (n := n) (os := os) h (srt_len xs)
    refine (Tryz.slices_Sort_int g 0 cap xs w (hp 0 #[]).1 (hp 0 #[]).2.1 (by omega)).mono ?_
    rintro e w' ⟨rfl,n,os,rfl⟩
    have := hp n os
    rw [srt_len] at this
    exact ⟨rfl,this.2.2.2.1,this.2.2.2.2⟩
def cpt (xs : List Int) : List Int := Lib.compact xs
theorem cpt_le (xs : List Int) : (cpt xs).length ≤ xs.length := by
  unfold cpt Lib.compact Lib.compactUpTo
  rw [List.length_map]
  refine Nat.le_trans (List.length_filter_le _ _) ?_
  simp
theorem compact_c {w : World} {B : Nat} {lv : Value} {xs : List Int} (h : OwnP w B lv xs) (hl : xs.length ≤ 1000000) :
    Calls Tryz.prog 52 #[lv] w fun e w' => ∃ lv',e = .returned lv' ∧ OwnP w' B lv' (cpt xs) ∧ w.grownBy w' lv.ownBlock := by
  rcases h.form with ⟨rfl,rfl⟩ | ⟨g,cap,rfl,_⟩
  · refine (Tryz.slices_Compact_int_empty none 0 w).mono ?_
    rintro e w' ⟨rfl,rfl⟩
    exact ⟨_,rfl,h,World.grownBy.refl _ _⟩
  · have hcl := cpt_le xs
    have hlen : (cpt xs ++ List.replicate (xs.length - (cpt xs).length) 0).length = xs.length := by simp; omega
    have hp := fun n => own_put (n := n) (os := #[]) h hlen
    refine (Tryz.slices_Compact_int g 0 cap xs w (hp 0).1 (by omega) (hp 0).2.2.1).mono ?_
    rintro e w' ⟨rfl,q,rfl⟩
    have h1 := hp q
    have hg : ∀ W : World,grow W #[] = W := fun W => by simp [grow]
    rw [hg,hlen] at h1
    have h2 := OwnP.less (n := (cpt xs).length) hlen (by omega) h1.2.2.2.1
    rw [List.take_left'] at h2
    · exact ⟨_,rfl,h2,h1.2.2.2.2⟩
    · rfl
theorem contains_c {F : Nat → Prop} {w : World} {v : Value} {xs : List Int} (h : SlOf RInt 1 F w v xs) (x : Int) :
    Calls Tryz.prog 50 #[v,.int .i64 x] w fun e w' => e = .returned (.bool (xs.contains x)) ∧ w' = w := by
  by_cases h0 : 0 < xs.length
  · obtain ⟨b,o,c,rfl,_,hc,h1,h2⟩ := sl_cellsS h h0
    have := Tryz.slices_Contains_int b o xs.length c xs x w (Nat.le_refl _) (by unfold maxLen at h2; omega) hc
    rw [List.take_length] at this
    exact this
  · have e : xs = [] := List.eq_nil_of_length_eq_zero (by omega)
    obtain ⟨a,c,rfl,_⟩ := h
    subst e
    exact Tryz.slices_Contains_int_empty a c x w
end Go.Proofs.YtaoamkbcegadcaaGreatDoor
/- Layer 17: what groups read, and until when they are kept: plain laws of lists. -/
namespace Go.Proofs.YtaoamkbcegadcaaGreatDoor
open Go.RowKit Go.Bx Go.Od Go.Hp Go.Sort
set_option linter.unusedVariables false

theorem strict_ext : ∀ {xs ys : List Int},xs.Pairwise (· < ·) → ys.Pairwise (· < ·) → (∀ x,x ∈ xs ↔ x ∈ ys) → xs = ys
  | [],[],_,_,_ => rfl
  | [],y :: ys,_,_,h => absurd ((h y).2 (by simp)) (by simp)
  | x :: xs,[],_,_,h => absurd ((h x).1 (by simp)) (by simp)
  | x :: xs,y :: ys,h1,h2,h => by
    rw [List.pairwise_cons] at h1 h2
    have hxy : x = y := by
      rcases List.mem_cons.1 ((h x).1 (by simp)) with e | hx
      · exact e
      · rcases List.mem_cons.1 ((h y).2 (by simp)) with e | hy
        · exact e.symm
        · have := h1.1 y hy; have := h2.1 x hx; omega
    subst hxy
    rw [strict_ext h1.2 h2.2 fun z => ?_]
    have hz := h z
    constructor
    · intro hm
      have hlt := h1.1 z hm
      rcases List.mem_cons.1 (hz.1 (by simp [hm])) with e | e
      · omega
      · exact e
    · intro hm
      have hlt := h2.1 z hm
      rcases List.mem_cons.1 (hz.2 (by simp [hm])) with e | e
      · omega
      · exact e
theorem srt_le (xs : List Int) : (srt xs).Pairwise (· ≤ ·) := by
  have := List.pairwise_mergeSort (le := fun x y : Int => decide (x ≤ y)) (fun a b c h1 h2 => by simp at *; omega) (fun a b => by simp; omega) xs
  exact this.imp fun h => by simpa using h
theorem srt_mem {xs : List Int} {x : Int} : x ∈ srt xs ↔ x ∈ xs := List.mem_mergeSort
theorem cpt_mem {xs : List Int} {x : Int} : x ∈ cpt xs ↔ x ∈ xs := by
  unfold cpt Lib.compact Lib.compactUpTo
  rw [List.mem_map]
  constructor
  · rintro ⟨j,hj,rfl⟩
    have := (List.mem_range.1 (List.mem_filter.1 hj).1)
    simp [this]
  · intro hx
    obtain ⟨j,hj,rfl⟩ := List.mem_iff_getElem.1 hx
    have : ∀ (m j : Nat),j ≤ m → (hj : j < xs.length) → ∃ a,a ∈ (List.range xs.length).filter (Lib.keeps xs.toArray) ∧ xs.toArray[a]! = xs[j] := by
      intro m
      induction m with
      | zero =>
        intro j hm hj
        have e : j = 0 := by omega
        subst e
        exact ⟨0,List.mem_filter.2 ⟨List.mem_range.2 hj,by simp [Lib.keeps]⟩,by simp [hj]⟩
      | succ m ih =>
        intro j hm hj
        by_cases hk : Lib.keeps xs.toArray j = true
        · exact ⟨j,List.mem_filter.2 ⟨List.mem_range.2 hj,hk⟩,by simp [hj]⟩
        · have h1 : ¬ (j = 0 ∨ xs.toArray[j]! ≠ xs.toArray[j - 1]!) := fun h => hk (by unfold Lib.keeps; exact decide_eq_true h)
          have h2 : j ≠ 0 ∧ xs.toArray[j]! = xs.toArray[j - 1]! := ⟨fun h => h1 (.inl h),Classical.byContradiction fun h => h1 (.inr h)⟩
          obtain ⟨a,ha,he⟩ := ih (j - 1) (by omega) (by omega)
          refine ⟨a,ha,he.trans ?_⟩
          have := h2.2
          simp [hj,show j - 1 < xs.length by omega] at this
          exact this.symm
    exact this j j (Nat.le_refl _) hj
theorem cpt_lt {xs : List Int} (h : xs.Pairwise (· ≤ ·)) : (cpt xs).Pairwise (· < ·) := by
  unfold cpt Lib.compact Lib.compactUpTo
  rw [List.pairwise_map]
  have h1 : ((List.range xs.length).filter (Lib.keeps xs.toArray)).Pairwise (· < ·) := List.pairwise_lt_range.filter _
  refine h1.imp_of_mem fun {a b} ha hb hab => ?_
  obtain ⟨ha1,_⟩ := List.mem_filter.1 ha
  obtain ⟨hb1,hb2⟩ := List.mem_filter.1 hb
  have hal := List.mem_range.1 ha1
  have hbl := List.mem_range.1 hb1
  have hle := List.pairwise_iff_getElem.1 h
  unfold Lib.keeps at hb2
  have hb3 := of_decide_eq_true hb2
  have hne : xs[b] ≠ xs[b - 1] := by
    rcases hb3 with e | e
    · omega
    · simpa [hbl,show b - 1 < xs.length by omega] using e
  have h2 : xs[b - 1] ≤ xs[b] := hle _ _ (by omega) hbl (by omega)
  have h3 : xs[a] ≤ xs[b - 1] := by
    by_cases e : a = b - 1
    · subst e; exact Int.le_refl _
    · exact hle _ _ hal (by omega) (by omega)
  simp [hal,hbl]
  omega
def rdF (nds : List Nd) (g : List Int) (k : Int) : List Int := (nds.getD k.toNat Nd.none).ins.filter fun x => !g.contains x
def rdL (nds : List Nd) (g : List Int) : List Int := g.flatMap (rdF nds g)
def rdS (nds : List Nd) (g : List Int) : List Int := cpt (srt (rdL nds g))
theorem rdS_mem {nds : List Nd} {g : List Int} {x : Int} : x ∈ rdS nds g ↔ (∃ k ∈ g,x ∈ (nds.getD k.toNat Nd.none).ins) ∧ x ∉ g := by
  unfold rdS
  rw [cpt_mem,srt_mem]
  unfold rdL rdF
  rw [List.mem_flatMap]
  constructor
  · rintro ⟨k,hk,hx⟩
    obtain ⟨h1,h2⟩ := List.mem_filter.1 hx
    exact ⟨⟨k,hk,h1⟩,by simpa using h2⟩
  · rintro ⟨⟨k,hk,h1⟩,h2⟩
    exact ⟨k,hk,List.mem_filter.2 ⟨h1,by simpa using h2⟩⟩
theorem rdS_lt (nds : List Nd) (g : List Int) : (rdS nds g).Pairwise (· < ·) := cpt_lt (srt_le _)
theorem rdL_len {nds : List Nd} (hs : ∀ i,(nds.getD i Nd.none).ins.length ≤ 1000) (g h : List Int) : (g.flatMap (rdF nds h)).length ≤ g.length * 1000 := by
  induction g with
  | nil => simp
  | cons k g ih =>
    rw [List.flatMap_cons,List.length_append,List.length_cons]
    have h1 : (rdF nds h k).length ≤ 1000 := Nat.le_trans (List.length_filter_le _ _) (hs _)
    omega
def rfB (nds : List Nd) (g : List Int) (z : Int) : Bool := (g.any fun k => decide (z ∈ (nds.getD k.toNat Nd.none).ins)) && !g.contains z
def rfR (nds : List Nd) (g : List Int) (m : Nat) : List Int := ((List.range m).map fun t : Nat => (t : Int) - 1).filter (rfB nds g)
theorem rfR_eq {nds : List Nd} {g : List Int} (h : ∀ k ∈ g,∀ x ∈ (nds.getD k.toNat Nd.none).ins,-1 ≤ x ∧ x < nds.length) : rfR nds g (nds.length + 1) = rdS nds g := by
  refine strict_ext ?_ (rdS_lt nds g) fun x => ?_
  · unfold rfR
    refine List.Pairwise.filter _ ?_
    rw [List.pairwise_map]
    exact List.pairwise_lt_range.imp fun h => by omega
  · rw [rdS_mem]
    unfold rfR rfB
    rw [List.mem_filter,Bool.and_eq_true,List.any_eq_true,List.mem_map]
    constructor
    · rintro ⟨_,⟨k,hk,h1⟩,h2⟩
      exact ⟨⟨k,hk,by simpa using h1⟩,by simpa using h2⟩
    · rintro ⟨⟨k,hk,h1⟩,h2⟩
      have := h k hk x h1
      exact ⟨⟨(x + 1).toNat,List.mem_range.2 (by omega),by omega⟩,⟨k,hk,by simpa using h1⟩,by simpa using h2⟩
/-! ### until when -/
def lstI (g : List Int) : Int := g.getD (g.length - 1) 0
theorem filter_step {p : Nat → Bool} (m : Nat) : lastN ((List.range (m + 1)).filter p) = if p m = true then m else lastN ((List.range m).filter p) := by
  rw [List.range_succ,List.filter_append]
  by_cases h : p m = true
  · rw [if_pos h,List.filter_cons_of_pos h,List.filter_nil,lastN_snoc]
  · rw [if_neg h,List.filter_cons_of_neg h,List.filter_nil,List.append_nil]
def hitA (R : List (List Int)) (z : Int) (i m : Nat) : Nat := lastN ((List.range m).filter fun k => decide (i < k) && (R.getD k []).contains z)
theorem hitA_zero (R : List (List Int)) (z : Int) (i : Nat) : hitA R z i (i + 1) = 0 := by
  unfold hitA
  rw [List.filter_eq_nil_iff.2 fun k hk => by have := List.mem_range.1 hk; simp; omega]
  rfl
theorem hitA_step {R : List (List Int)} {z : Int} {i m : Nat} (h : i < m) : hitA R z i (m + 1) = if (R.getD m []).contains z = true then m else hitA R z i m := by
  unfold hitA
  rw [filter_step,decide_eq_true h,Bool.true_and]
theorem lastN_lt {l : List Nat} {m : Nat} (h : ∀ x ∈ l,x < m) (h0 : 0 < m) : lastN l < m := by
  unfold lastN
  cases l with
  | nil => simpa using h0
  | cons a l => simp only [List.getLastD_cons]; exact h _ (List.getLastD_mem_cons)
theorem hitA_lt (R : List (List Int)) (z : Int) (i : Nat) {m : Nat} (h0 : 0 < m) : hitA R z i m < m := lastN_lt (fun x hx => List.mem_range.1 (List.mem_filter.1 hx).1) h0
def unA (R L : List (List Int)) (out : Int) (i : Nat) : Int := if lstI (L.getD i []) = out then (L.length : Int) else (hitA R (lstI (L.getD i [])) i L.length : Nat)
def part (f : Nat → Int) (n i : Nat) : List Int := (List.range n).map fun j => if j < i then f j else 0
theorem part_len (f : Nat → Int) (n i : Nat) : (part f n i).length = n := by simp [part]
theorem part_zero (f : Nat → Int) (n : Nat) : part f n 0 = List.replicate n 0 := by
  apply List.ext_getElem?
  intro j
  by_cases h : j < n <;> simp [part,h]
theorem part_step (f : Nat → Int) {n i : Nat} : (part f n i).set i (f i) = part f n (i + 1) := by
  apply List.ext_getElem?
  intro j
  rw [List.getElem?_set]
  by_cases h : j < n
  · by_cases e : i = j
    · subst e
      simp [part,h]
    · rw [if_neg e]
      have : (j < i + 1) = (j < i) := by apply propext; omega
      simp [part,h,this]
  · by_cases e : i = j
    · subst e
      simp [part,h]
    · rw [if_neg e]
      simp [part,h]
theorem part_all (f : Nat → Int) (n : Nat) : part f n n = (List.range n).map f := by
  unfold part
  exact List.map_congr_left fun j hj => by rw [if_pos (List.mem_range.1 hj)]
end Go.Proofs.YtaoamkbcegadcaaGreatDoor
/- Layer 17: span.Reads. -/
namespace Go.Proofs.YtaoamkbcegadcaaGreatDoor
open Go.RowKit Go.Bx Go.Od Go.Hp Go.Sort
attribute [local go_sem ↓] Go.wp_at_zero Go.wp_at_succ
set_option linter.unusedVariables false

theorem LL.belowN {B C : Nat} {W W' : World} {lv : Value} {L : List (List Int)} (h : LL B W lv L) (hb : Below C W W') (hC : B ≤ C) : LL B W' lv L := h.below (hb.mono hC)
def RdPost (w : World) (R : List (List Int)) (e : Ending) (w' : World) : Prop := ∃ a c vs,e = .returned (.slice a R.length c) ∧ GI w.heap.size R (.slice a R.length c) vs w' ∧ Below w.heap.size w w'
theorem take_map {α β : Type} {L : List α} {d : α} {f : α → β} {i : Nat} (hi : i < L.length) : (L.take (i + 1)).map f = (L.take i).map f ++ [f (L.getD i d)] := by
  rw [List.take_succ_eq_append_getElem hi,List.map_append]
  simp [hi]
theorem take_flat {L : List Int} {f : Int → List Int} {i : Nat} (hi : i < L.length) : (L.take (i + 1)).flatMap f = (L.take i).flatMap f ++ f (L.getD i 0) := by
  rw [List.take_succ_eq_append_getElem hi,List.flatMap_append]
  simp [hi]
theorem take_filt {L : List Int} {p : Int → Bool} {i : Nat} (hi : i < L.length) : (L.take (i + 1)).filter p = if p (L.getD i 0) = true then (L.take i).filter p ++ [L.getD i 0] else (L.take i).filter p := by
  rw [List.take_succ_eq_append_getElem hi,List.filter_append]
  have e : L.getD i 0 = L[i] := by simp [hi]
  rw [e]
  by_cases h : p L[i] = true
  · rw [if_pos h,List.filter_cons_of_pos h,List.filter_nil]
  · rw [if_neg h,List.filter_cons_of_neg h,List.filter_nil,List.append_nil]
theorem flat_len {nds : List Nd} (hs : ∀ i,(nds.getD i Nd.none).ins.length ≤ 1000) (g : List Int) (k : Nat) (h : k ≤ 100) : ((g.take k).flatMap (rdF nds g)).length ≤ 100000 := by
  have := rdL_len hs (g.take k) g
  have h2 : (g.take k).length ≤ k := by rw [List.length_take]; omega
  omega
set_option maxRecDepth 4000 in
set_option maxHeartbeats 3200000 in
theorem reads_c (B : Nat) (nv lv : Value) (nds : List Nd) (out : Int) (L : List (List Int)) (w : World) (hm : nds.length ≤ 900) (hs : ∀ i,(nds.getD i Nd.none).ins.length ≤ 1000) (hg : Gr B w nv nds) (hL : LL B w lv L) (hB : B ≤ w.heap.size) (hLn : L.length ≤ 900) (hk : ∀ g ∈ L,g.length ≤ 100 ∧ ∀ x ∈ g,0 ≤ x ∧ x < nds.length) :
    Calls Tryz.prog 27 #[.agg #[nv,.int .i64 out],lv] w (RdPost w (L.map (rdS nds))) := by
  have hgl := hg.len_le
  obtain ⟨ga,gc,rfl⟩ := hg.isSl
  obtain ⟨la,lc,rfl,hLm⟩ := hL.isSl
  obtain ⟨i3,hi3,hz0,hz1,hz2⟩ := info_parts infoI
  obtain ⟨iS,hiS,sz0,sz1,sz2⟩ := info_parts infoS
  have HG : Hid (Gr B w (.slice ga nds.length gc) nds ∧ LL B w (.slice la L.length lc) L ∧ (∀ i,(nds.getD i Nd.none).ins.length ≤ 1000) ∧ ∀ g ∈ L,g.length ≤ 100 ∧ ∀ x ∈ g,0 ≤ x ∧ x < nds.length) := ⟨hg,hL,hs,hk⟩
  clear hg hL hs hk
  go_enter Tryz.func27,Tryz.ntmps27
  go_wp2_with fail
  have X := Box.new w [.slice ga nds.length gc,.int .i64 out] 24
  have hb1 := below_alloc w (.cells #[.slice ga nds.length gc,.int .i64 out] 24)
  obtain ⟨W1,hW1⟩ : ∃ W,W = w.alloc (.cells #[.slice ga nds.length gc,.int .i64 out] 24) := ⟨_,rfl⟩
  rw [← hW1] at X hb1 ⊢
  clear hW1
  have HW : Hid (Box W1 w.heap.size [.slice ga nds.length gc,.int .i64 out] ∧ Below w.heap.size w W1) := ⟨X,hb1⟩
  have H0 : Hid (QO W1 ((L.take 0).map (rdS nds)) (.slice none 0 0) W1) := ⟨[],by exact GI.nil _ _,Below.refl _ _⟩
  have HBW : Hid (∀ wr,Below W1.heap.size W1 wr → Box wr w.heap.size [.slice ga nds.length gc,.int .i64 out] ∧ Below w.heap.size w wr ∧ Gr B wr (.slice ga nds.length gc) nds ∧ LL B wr (.slice la L.length lc) L) := fun wr hb => by
    have hbw : Below w.heap.size w wr := HW.out.2.trans (hb.mono HW.out.2.size)
    exact ⟨HW.out.1.call hb,hbw,HG.out.1.below hbw hB,HG.out.2.1.belowN hbw hB⟩
  clear X hb1
  go_loopw [5,15] (fun ov iv wr => ∃ i : Nat,i ≤ L.length ∧ iv = .int .i64 i ∧ QO W1 ((L.take i).map (rdS nds)) ov wr) (fun _ iv _ => L.length - (intOf iv).toNat)
  case atStart => exact ⟨0,Nat.zero_le _,rfl,H0.out⟩
  case round =>
    obtain ⟨i,hi,rfl,hr⟩ := hrel
    clear H0
    obtain ⟨oa,oc,hov⟩ := hr.isSl
    subst hov
    by_cases hil : i < L.length
    · have HR : Hid (QO W1 ((L.take i).map (rdS nds)) (.slice oa ((L.take i).map (rdS nds)).length oc) wr) := hr
      obtain ⟨b,o,c,x,y,hlv,hbB,c0w,hsg⟩ := HG.out.2.1.at hil
      have c0 := ((HBW.out wr hr.bel).2.1.cell (lt_of_cell c0w)).trans c0w
      simp only [Value.slice.injEq,true_and] at hlv
      obtain ⟨rfl,rfl⟩ := hlv
      obtain ⟨g,hg⟩ : ∃ g,g = L.getD i [] := ⟨_,rfl⟩
      have hgm : g ∈ L := by rw [hg]; simp [hil]
      rw [← hg] at c0 hsg
      clear c0w
      obtain ⟨m,hm1⟩ : ∃ m,m = g.length := ⟨_,rfl⟩
      have HGM : Hid (m = g.length ∧ g = L.getD i [] ∧ ∀ x ∈ g,0 ≤ x ∧ x < nds.length) := ⟨hm1,hg,(HG.out.2.2.2 g hgm).2⟩
      have hm100 : m ≤ 100 := by rw [hm1]; exact (HG.out.2.2.2 g hgm).1
      rw [← hm1] at c0 hsg
      have HSG : Hid (∀ wr',Below w.heap.size w wr' → SlOf RInt 1 (· < B) wr' (.slice x m y) g) := fun wr' hb => sl_below hsg (hb.mono hB)
      have hi0 : (0 : Int) ≤ (i : Int) := by omega
      have hi1 : (i : Int) < (L.length : Int) := by omega
      obtain ⟨n8,hn8⟩ : ∃ n,n = ((L.take i).map (rdS nds)).length := ⟨_,rfl⟩
      have HN8 : Hid (n8 = ((L.take i).map (rdS nds)).length) := hn8
      have hn8l : n8 ≤ 900 := by rw [hn8]; simp; omega
      rw [← hn8] at HR ⊢
      obtain ⟨X,hX⟩ : ∃ X,X = wr.heap.size := ⟨_,rfl⟩
      have H1 : Hid (QI W1 ((L.take i).map (rdS nds)) (.slice oa n8 oc) (.slice none 0 0) ((g.take 0).flatMap (rdF nds g)) X wr) := by rw [hX]; exact HR.out.start
      clear hr hX hg hm1 hn8 hgm hsg HR
      go_wp2_with fail
      clear c0
      go_loopw [8,21] (fun rv kv wr => ∃ k : Nat,k ≤ m ∧ kv = .int .i64 k ∧ QI W1 ((L.take i).map (rdS nds)) (.slice oa n8 oc) rv ((g.take k).flatMap (rdF nds g)) X wr) (fun _ kv _ => m - (intOf kv).toNat)
      case atStart => exact ⟨0,Nat.zero_le _,rfl,H1.out⟩
      case round =>
        obtain ⟨k,hk,rfl,hr⟩ := hrel
        clear H1
        obtain ⟨rva,rvc,hrv⟩ := hr.isSl
        subst hrv
        obtain ⟨rvn,hrvn⟩ : ∃ n,n = ((g.take k).flatMap (rdF nds g)).length := ⟨_,rfl⟩
        have HRVN : Hid (rvn = ((g.take k).flatMap (rdF nds g)).length) := hrvn
        rw [← hrvn] at hr ⊢
        clear hrvn
        by_cases hkm : k < m
        · have hfl : ((g.take k).flatMap (rdF nds g)).length ≤ 100000 := flat_len HG.out.2.2.1 g k (by omega)
          obtain ⟨gb,go,gcap,hgv,_,hgc,_,_⟩ := sl_cellsS (HSG.out wr (HBW.out wr hr.bel).2.1) (by rw [← HGM.out.1]; omega)
          simp only [Value.slice.injEq] at hgv
          obtain ⟨rfl,he1,he2⟩ := hgv
          clear he1 he2
          have c1 := hgc k (by rw [← HGM.out.1]; exact hkm)
          obtain ⟨u,hu,hun⟩ : ∃ u : Nat,g.getD k 0 = u ∧ u < nds.length := by
            have hm' : g.getD k 0 ∈ g := by
              have hkl : k < g.length := by rw [← HGM.out.1]; exact hkm
              have : g[k]? = some (g.getD k 0) := by simp [hkl]
              exact List.mem_of_getElem? this
            have := HGM.out.2.2 _ hm'
            exact ⟨(g.getD k 0).toNat,by omega,by omega⟩
          rw [hu] at c1
          obtain ⟨nb,no,ncap,ia,ic,pa,pc,hv,hbB2,hcap,hcm,k0,k1,k2,s1,s2⟩ := HG.out.1.node hun
          simp only [Value.slice.injEq,true_and] at hv
          obtain ⟨rfl,rfl⟩ := hv
          have hbw := (HBW.out wr hr.bel).2.1
          have n1 := (hbw.cell (lt_of_cell k1)).trans k1
          have g0 := (HBW.out wr hr.bel).1.cell 0 rfl
          obtain ⟨ins,hins⟩ : ∃ ins,ins = (nds.getD u Nd.none).ins := ⟨_,rfl⟩
          obtain ⟨q,hq⟩ : ∃ q,q = ins.length := ⟨_,rfl⟩
          rw [← hins] at n1 s1
          rw [← hq] at n1 s1
          have hq1000 : q ≤ 1000 := by rw [hq,hins]; exact HG.out.2.2.1 u
          have HSI : Hid (∀ wr',Below w.heap.size w wr' → SlOf RInt 1 (· < B) wr' (.slice ia q ic) ins) := fun wr' hb => sl_below s1 (hb.mono hB)
          have HIN : Hid (q = ins.length ∧ rdF nds g (g.getD k 0) = ins.filter fun x => !g.contains x) := ⟨hq,by rw [hu,hins]; rfl⟩
          obtain ⟨pre,hpre⟩ : ∃ pre,pre = (g.take k).flatMap (rdF nds g) := ⟨_,rfl⟩
          have HPR : Hid (pre = (g.take k).flatMap (rdF nds g)) := hpre
          rw [← hpre] at hr hfl
          have H2 : Hid (QI W1 ((L.take i).map (rdS nds)) (.slice oa n8 oc) (.slice rva rvn rvc) (pre ++ (ins.take 0).filter fun x => !g.contains x) X wr) := (by simpa using hr : QI W1 ((L.take i).map (rdS nds)) (.slice oa n8 oc) (.slice rva rvn rvc) (pre ++ (ins.take 0).filter fun x => !g.contains x) X wr)
          have hk0 : (0 : Int) ≤ (k : Int) := by omega
          have hk1 : (k : Int) < (m : Int) := by omega
          have hu0 : (0 : Int) ≤ (u : Int) := by omega
          have hu1 : (u : Int) < (nds.length : Int) := by omega
          clear hgc k0 k1 k2 s1 s2 hr hins hq hpre hu hbw
          go_wp2_with fail
          clear c1 n1 g0
          go_loopw [8,32] (fun rv jv wr => ∃ j : Nat,j ≤ q ∧ jv = .int .i64 j ∧ QI W1 ((L.take i).map (rdS nds)) (.slice oa n8 oc) rv (pre ++ (ins.take j).filter fun x => !g.contains x) X wr) (fun _ jv _ => q - (intOf jv).toNat)
          case atStart => exact ⟨0,Nat.zero_le _,rfl,H2.out⟩
          case round =>
            obtain ⟨j,hj,rfl,hr⟩ := hrel
            clear H2
            obtain ⟨ra,rc,hrv⟩ := hr.isSl
            subst hrv
            by_cases hjq : j < q
            · obtain ⟨ib,io,icap,hiv,_,hic,_,_⟩ := sl_cellsS (HSI.out wr (HBW.out wr hr.bel).2.1) (by rw [← HIN.out.1]; omega)
              simp only [Value.slice.injEq] at hiv
              obtain ⟨rfl,he1,he2⟩ := hiv
              clear he1 he2
              have c1 := hic j (by rw [← HIN.out.1]; exact hjq)
              obtain ⟨z,hz⟩ : ∃ z,z = ins.getD j 0 := ⟨_,rfl⟩
              rw [← hz] at c1
              obtain ⟨M,hM⟩ : ∃ M,M = pre ++ (ins.take j).filter fun x => !g.contains x := ⟨_,rfl⟩
              have hMl : M.length ≤ 101000 := by
                rw [hM,List.length_append]
                have h1 := List.length_filter_le (fun x => !g.contains x) (ins.take j)
                have h2 : (ins.take j).length ≤ j := by rw [List.length_take]; omega
                omega
              obtain ⟨cz,hcz⟩ : ∃ cz,cz = g.contains z := ⟨_,rfl⟩
              have HT : Hid (pre ++ (ins.take (j + 1)).filter (fun x => !g.contains x) = if (!cz) = true then M ++ [z] else M) := by
                have : pre ++ (ins.take (j + 1)).filter (fun x => !g.contains x) = if (!cz) = true then M ++ [z] else M := by
                  rw [take_filt (by rw [← HIN.out.1]; exact hjq),← hz,← hcz,hM]
                  split
                  · rw [List.append_assoc]
                  · rfl
                exact this
              rw [← hM] at hr ⊢
              obtain ⟨nM,hnM⟩ : ∃ nM,nM = M.length := ⟨_,rfl⟩
              have HR : Hid (QI W1 ((L.take i).map (rdS nds)) (.slice oa n8 oc) (.slice ra nM rc) M X wr ∧ nM = M.length) := ⟨by rw [hnM]; exact hr,hnM⟩
              have hbw := (HBW.out wr hr.bel).2.1
              have hcc := contains_c (HSG.out wr hbw) z
              rw [← hcz] at hcc
              have HCC : Hid (Calls Tryz.prog 50 #[.slice (some ⟨gb,go,none⟩) m y,.int .i64 z] wr fun e w' => e = .returned (.bool cz) ∧ w' = wr) := hcc
              have hj0 : (0 : Int) ≤ (j : Int) := by omega
              have hj1 : (j : Int) < (q : Int) := by omega
              rw [← hnM] at hMl ⊢
              clear hic hr hz hM hcz hcc hbw hnM
              go_wp2_with fail
              refine HCC.out.mono ?_; rintro e w5 ⟨rfl,rfl⟩
              clear HCC
              cases cz with
              | true =>
                have HE : Hid (pre ++ (ins.take (j + 1)).filter (fun x => !g.contains x) = M) := HT.out
                have HR5 : Hid (QI W1 ((L.take i).map (rdS nds)) (.slice oa n8 oc) (.slice ra nM rc) M X w5) := HR.out.1
                clear HT HR c1
                go_wp2_with fail
                go_roundw
                case rel => exact ⟨j + 1,by omega,by go_num,by rw [HE.out]; exact HR5.out⟩
                case measure => simp [intOf]; omega
              | false =>
                have HE : Hid (pre ++ (ins.take (j + 1)).filter (fun x => !g.contains x) = M ++ [z]) := HT.out
                obtain ⟨hown5,hX5⟩ := HR.out.1.own
                have HO5 : Hid (OwnP w5 X (.slice ra nM rc) M) := hown5
                have HM : Hid (nM + 1 ≤ maxLen ∧ (nM + 1) * 8 ≤ 140737488355328) := by constructor <;> (try unfold maxLen) <;> omega
                have HAPP : Hid (∀ (w8 : World) (o : Obj) (g8 c8 : Nat),w8.ownsRow X 3 1 (.slice (some ⟨g8,0,none⟩) (nM + 1) c8) (nM + 1) (M.map (Value.int .i64) ++ [.int .i64 z]) → (w5.alloc o).grownBy w8 (Value.slice ra nM rc).ownBlock → QI W1 ((L.take i).map (rdS nds)) (.slice oa n8 oc) (.slice (some ⟨g8,0,none⟩) (nM + 1) c8) (M ++ [z]) X w8) := fun w8 o g8 c8 h1 h2 => by
                  have e := HR.out.2
                  rw [e] at h1 ⊢
                  exact HR.out.1.app h1 h2
                have HNM : Hid (M.length = nM) := HR.out.2.symm
                have HAL : Hid ((M ++ [z]).length = nM + 1) := by
                  have : (M ++ [z]).length = nM + 1 := by rw [List.length_append,HR.out.2]; rfl
                  exact this
                clear HT hown5 HR c1
                go_wp2_with (at_builtin; refine wpList_append_lies _ rfl _ _ 35 rfl X 3 i3 (.int .i64 0) 1 8 Tryz.underlying35 hi3 hz0 hz1 hz2 rfl (by decide) (.slice ra nM rc) nM (M.map (Value.int .i64)) rfl (OwnP.row HNM.out (HO5.out.alloc (.cells #[.int .i64 z] 3))) _ 1 1 [.int .i64 z] rfl rfl (news_one (by simp)) (by simp [Value.oneCell']) (by decide) HM.out.1 HM.out.2 (by first | omega | (simp; omega)) _ rfl ?_; intro g8 c8 w8 hown8 hgrow8 hat8 hlt8; have HA : Hid (QI W1 ((L.take i).map (rdS nds)) (.slice oa n8 oc) (.slice (some ⟨g8,0,none⟩) (nM + 1) c8) (M ++ [z]) X w8) := HAPP.out w8 _ g8 c8 hown8 hgrow8; clear hown8 hgrow8 hat8 hlt8)
                go_roundw
                case rel => exact ⟨j + 1,by omega,by go_num,by rw [HE.out]; exact HA.out⟩
                case measure => simp [intOf]; omega
            · have ej : j = q := by omega
              subst ej
              have hE : pre ++ (ins.take j).filter (fun x => !g.contains x) = (g.take (k + 1)).flatMap (rdF nds g) := by
                rw [take_flat (by rw [← HGM.out.1]; exact hkm),HIN.out.2,HIN.out.1,List.take_length,HPR.out]
              rw [hE] at hr ⊢
              have HR5 : Hid (QI W1 ((L.take i).map (rdS nds)) (.slice oa n8 oc) (.slice ra ((g.take (k + 1)).flatMap (rdF nds g)).length rc) ((g.take (k + 1)).flatMap (rdF nds g)) X wr) := hr
              clear hr hE
              go_wp2_with fail
              go_roundw
              case rel => exact ⟨k + 1,by omega,by go_num,HR5.out⟩
              case measure => simp [intOf]; omega
        · have ek : k = m := by omega
          subst ek
          have hE : (g.take k).flatMap (rdF nds g) = rdL nds g := by rw [HGM.out.1,List.take_length]; rfl
          have hRl : (rdL nds g).length ≤ 100000 := by rw [← hE]; exact flat_len HG.out.2.2.1 g k (by omega)
          rw [hE] at hr
          rw [hE] at HRVN
          have HR : Hid (QI W1 ((L.take i).map (rdS nds)) (.slice oa n8 oc) (.slice rva rvn rvc) (rdL nds g) X wr) := hr
          have hsort := sort_c hr.own.1 (by omega)
          have HST : Hid (∀ w',OwnP w' X (.slice rva rvn rvc) (srt (rdL nds g)) → wr.grownBy w' (Value.slice rva rvn rvc).ownBlock → QI W1 ((L.take i).map (rdS nds)) (.slice oa n8 oc) (.slice rva rvn rvc) (srt (rdL nds g)) X w') := fun w' h1 h2 => HR.out.turn h1 h2
          have HCM : Hid ((L.take (i + 1)).map (rdS nds) = (L.take i).map (rdS nds) ++ [rdS nds g]) := by
            have : (L.take (i + 1)).map (rdS nds) = (L.take i).map (rdS nds) ++ [rdS nds g] := by rw [take_map (d := []) hil,← HGM.out.2.1]
            exact this
          clear hE hr HR
          go_wp2_with fail
          refine hsort.mono ?_; rintro e w5 ⟨rfl,ho5,hg5⟩
          have HR5 : Hid (QI W1 ((L.take i).map (rdS nds)) (.slice oa n8 oc) (.slice rva rvn rvc) (srt (rdL nds g)) X w5) := HST.out w5 ho5 hg5
          have hcomp := compact_c ho5 (by rw [srt_len]; omega)
          clear ho5 hg5 hsort HST
          go_wp2_with fail
          refine hcomp.mono ?_; rintro e w6 ⟨cv,rfl,ho6,hg6⟩
          have HR6 : Hid (QI W1 ((L.take i).map (rdS nds)) (.slice oa n8 oc) cv (rdS nds g) X w6) := HR5.out.turn ho6 hg6
          clear ho6 hg6 hcomp HR5
          obtain ⟨ca,cc,hcv⟩ := HR6.out.isSl
          subst hcv
          obtain ⟨cn,hcn⟩ : ∃ n,n = (rdS nds g).length := ⟨_,rfl⟩
          rw [← hcn] at HR6 ⊢
          clear hcn
          obtain ⟨vs,hown,hsz,hpush⟩ := HR6.out.row
          rw [← HN8.out] at hown hpush
          have HBK : Hid (∀ (o : Obj) (w8 : World) (g8 c8 : Nat),(w6.alloc o).grownBy w8 (Value.slice oa n8 oc).ownBlock → w8.ownsRow W1.heap.size 35 1 (.slice (some ⟨g8,0,none⟩) (n8 + 1) c8) (n8 + 1) (vs ++ [.slice ca cn cc]) → QO W1 ((L.take i).map (rdS nds) ++ [rdS nds g]) (.slice (some ⟨g8,0,none⟩) (n8 + 1) c8) w8) := hpush
          have HO : Hid (w6.ownsRow W1.heap.size 35 1 (.slice oa n8 oc) n8 vs) := hown
          have HM : Hid (n8 + 1 ≤ maxLen ∧ (n8 + 1) * 24 ≤ 140737488355328) := by constructor <;> (try unfold maxLen) <;> omega
          clear hown hpush HR6
          go_wp2_with (at_builtin; refine wpList_append_lies _ rfl _ _ 61 rfl W1.heap.size 35 iS (.slice none 0 0) 1 24 Tryz.underlying61 hiS sz0 sz1 sz2 rfl (by decide) (.slice oa n8 oc) n8 vs rfl (HO.out.alloc (.cells #[.slice ca cn cc] 35)) _ 1 1 [.slice ca cn cc] rfl rfl (news_one (by simp)) (by simp [Value.oneCell']) (by decide) HM.out.1 HM.out.2 (by first | omega | (simp; omega)) _ rfl ?_; intro g8 c8 w8 hown8 hgrow8 hat8 hlt8; have HA : Hid (QO W1 ((L.take i).map (rdS nds) ++ [rdS nds g]) (.slice (some ⟨g8,0,none⟩) (n8 + 1) c8) w8) := HBK.out _ w8 g8 c8 hgrow8 hown8; clear hown8 hgrow8 hat8 hlt8)
          go_roundw
          case rel => exact ⟨i + 1,by omega,by go_num,by rw [HCM.out]; exact HA.out⟩
          case measure => simp [intOf]; omega
    · have ei : i = L.length := by omega
      subst ei
      rw [List.take_length] at hr ⊢
      have HE : Hid (RdPost w (L.map (rdS nds)) (.returned (.slice oa (L.map (rdS nds)).length oc)) wr) := by
        obtain ⟨vs,h1,h2⟩ := hr
        exact ⟨oa,oc,vs,rfl,h1.mono HW.out.2.size,HW.out.2.trans (h2.mono HW.out.2.size)⟩
      clear hr
      go_wp2_with fail
      go_ret
      exact HE.out
end Go.Proofs.YtaoamkbcegadcaaGreatDoor
/- Layer 17: span.Until. -/
namespace Go.Proofs.YtaoamkbcegadcaaGreatDoor
open Go.RowKit Go.Bx Go.Od Go.Hp Go.Sort
attribute [local go_sem ↓] Go.wp_at_zero Go.wp_at_succ
set_option linter.unusedVariables false

structure GrpOk (nds : List Nd) (L : List (List Int)) : Prop where
  few : nds.length ≤ 900
  short : ∀ i,(nds.getD i Nd.none).ins.length ≤ 1000
  rng : ∀ i,∀ x ∈ (nds.getD i Nd.none).ins,-1 ≤ x ∧ x < nds.length
  len : L.length ≤ 900
  grp : ∀ g ∈ L,(0 < g.length ∧ g.length ≤ 100) ∧ ∀ x ∈ g,0 ≤ x ∧ x < nds.length
theorem GrpOk.at {nds : List Nd} {L : List (List Int)} (h : GrpOk nds L) {i : Nat} (hi : i < L.length) : (0 < (L.getD i []).length ∧ (L.getD i []).length ≤ 100) ∧ ∀ x ∈ L.getD i [],0 ≤ x ∧ x < nds.length := h.grp _ (by simp [hi])
theorem GrpOk.in64 {nds : List Nd} {L : List (List Int)} (h : GrpOk nds L) : ∀ g ∈ L.map (rdS nds),∀ x ∈ g,In64 x := by
  intro g hg x hx
  obtain ⟨g',_,rfl⟩ := List.mem_map.1 hg
  obtain ⟨⟨k,_,hk⟩,_⟩ := rdS_mem.1 hx
  have h1 := h.rng _ x hk
  have h2 := h.few
  unfold In64
  omega
theorem readsG_c (B : Nat) (nv lv : Value) (nds : List Nd) (out : Int) (L : List (List Int)) (w : World) (hk : GrpOk nds L) (hg : Gr B w nv nds) (hL : LL B w lv L) (hB : B ≤ w.heap.size) :
    Calls Tryz.prog 27 #[.agg #[nv,.int .i64 out],lv] w (RdPost w (L.map (rdS nds))) :=
  reads_c B nv lv nds out L w hk.few hk.short hg hL hB hk.len fun g hg => ⟨(hk.grp g hg).1.2,(hk.grp g hg).2⟩
def UnPost (w : World) (us : List Int) (e : Ending) (w' : World) : Prop := ∃ O,w.heap.size ≤ O ∧ e = .returned (.slice (some ⟨O,0,none⟩) us.length us.length) ∧ Box w' O (us.map (Value.int .i64)) ∧ Below w.heap.size w w'
theorem sl_lastS {F : Nat → Prop} {w : World} {x : Option Addr} {m y : Nat} {g : List Int} (h : SlOf RInt 1 F w (.slice x (m + 1) y) g) (hm : g.length = m + 1) : ∃ b o,x = some ⟨b,o,none⟩ ∧ w.cell? ⟨b,o + m,none⟩ = some (.int .i64 (lstI g)) := by
  obtain ⟨b,o,c,hv,_,hc,_,_⟩ := sl_cellsS h (by omega)
  simp only [Value.slice.injEq] at hv
  refine ⟨b,o,hv.1,?_⟩
  have := hc m (by omega)
  unfold lstI
  rw [hm]
  exact this
set_option maxRecDepth 4000 in
set_option maxHeartbeats 3200000 in
theorem until_c (B : Nat) (nv lv : Value) (nds : List Nd) (out : Int) (L : List (List Int)) (w : World) (hk : GrpOk nds L) (hg : Gr B w nv nds) (hL : LL B w lv L) (hB : B ≤ w.heap.size) :
    Calls Tryz.prog 28 #[.agg #[nv,.int .i64 out],lv] w (UnPost w ((List.range L.length).map (unA (L.map (rdS nds)) L out))) := by
  have hgl := hg.len_le
  have hLn := hk.len
  obtain ⟨ga,gc,rfl⟩ := hg.isSl
  obtain ⟨la,lc,rfl,hLm⟩ := hL.isSl
  obtain ⟨i3,hi3,hz0,hz1,hz2⟩ := info_parts infoI
  have HG : Hid (Gr B w (.slice ga nds.length gc) nds ∧ LL B w (.slice la L.length lc) L ∧ GrpOk nds L) := ⟨hg,hL,hk⟩
  clear hg hL hk
  go_enter Tryz.func28,Tryz.ntmps28
  go_wp2_with fail
  have X := Box.new w [.slice ga nds.length gc,.int .i64 out] 24
  have hb1 := below_alloc w (.cells #[.slice ga nds.length gc,.int .i64 out] 24)
  obtain ⟨W1,hW1⟩ : ∃ W,W = w.alloc (.cells #[.slice ga nds.length gc,.int .i64 out] 24) := ⟨_,rfl⟩
  rw [← hW1] at X hb1 ⊢
  clear hW1
  refine (readsG_c B _ _ nds out L W1 HG.out.2.2 (HG.out.1.below hb1 hB) (HG.out.2.1.belowN hb1 hB) (Nat.le_trans hB hb1.size)).mono ?_; rintro e w2 ⟨ra,rc,rvs,rfl,hR,hb2⟩
  obtain ⟨R,hRe⟩ : ∃ R,R = L.map (rdS nds) := ⟨_,rfl⟩
  have hRl : R.length = L.length := by rw [hRe]; simp
  have HRE : Hid (R = L.map (rdS nds)) := hRe
  have hR64 := HG.out.2.2.in64
  rw [← hRe] at hR hR64 ⊢
  have H2 : Hid (Box w2 w.heap.size [.slice ga nds.length gc,.int .i64 out] ∧ Below w.heap.size w w2 ∧ LL w2.heap.size w2 (.slice ra R.length rc) R) := ⟨X.call hb2,hb1.trans (hb2.mono hb1.size),hR.ll hR64⟩
  have HRL : Hid (R.length = L.length) := hRl
  rw [hRl] at H2 ⊢
  clear X hb1 hb2 hR hRl hRe hR64
  go_wp2_with (at_make; refine wpList_make_full _ rfl _ _ 35 rfl w2.heap.size 3 i3 (.int .i64 0) 1 Tryz.underlying35 hi3 hz0 hz1 .i64 .i64 _ _ L.length rfl rfl rfl rfl (by rw [hz2]; omega) (by unfold maxLen; omega) (Nat.le_refl _) ?_; intro w6 hown6 hgrow6; have HM6 : Hid (w6.ownsRow w2.heap.size 3 1 (.slice (some ⟨w2.heap.size,0,none⟩) L.length L.length) L.length (madeCells (Value.int .i64 0).cells (L.length * 1)).toList ∧ w2.grownBy w6 none) := ⟨hown6,hgrow6⟩; clear hown6 hgrow6)
  obtain ⟨O,hO⟩ : ∃ O,O = w2.heap.size := ⟨_,rfl⟩
  obtain ⟨f,hf⟩ : ∃ f,f = unA R L out := ⟨_,rfl⟩
  have HFE : Hid (unA (L.map (rdS nds)) L out = f) := by
    have : unA (L.map (rdS nds)) L out = f := by rw [hf,HRE.out]
    exact this
  have HFF : Hid (∀ i,f i = if lstI (L.getD i []) = out then (L.length : Int) else (hitA R (lstI (L.getD i [])) i L.length : Nat)) := fun i => by rw [hf]; rfl
  have H6 : Hid (Below O w2 w6 ∧ Box w6 O ((part f L.length 0).map (Value.int .i64))) := by
    have hB6 : Below w2.heap.size w2 w6 := (Below.refl _ _).grown HM6.out.2 (Nat.le_refl _) (fun k hk => by cases hk)
    have := box_own HM6.out.1
    have e : (madeCells (Value.int .i64 0).cells (L.length * 1)).toList = List.replicate L.length (.int .i64 0) := by
      rw [Nat.mul_one]
      exact toList_madeCells_one _ _
    rw [e] at this
    rw [part_zero,List.map_replicate,hO]
    exact ⟨hB6,this⟩
  have HFX : Hid (∀ W,Below O w2 W → Box W w.heap.size [.slice ga nds.length gc,.int .i64 out] ∧ LL O W (.slice ra L.length rc) R ∧ Below w.heap.size w W ∧ R.length = L.length) := fun W hb => by
    rw [hO] at hb ⊢
    exact ⟨H2.out.1.call hb,H2.out.2.2.below hb,H2.out.2.1.trans (hb.mono H2.out.2.1.size),HRL.out⟩
  have hOw : w.heap.size ≤ O := by rw [hO]; exact H2.out.2.1.size
  rw [← hO,← hf] at *
  clear HM6 hO hf H2
  go_loopw [19] (fun iv wr => ∃ i : Nat,i ≤ L.length ∧ iv = .int .i64 i ∧ Below O w2 wr ∧ Box wr O ((part f L.length i).map (Value.int .i64))) (fun iv _ => L.length - (intOf iv).toNat)
  case atStart => exact ⟨0,Nat.zero_le _,rfl,H6.out⟩
  case round =>
    obtain ⟨i,hi,rfl,hb,hx⟩ := hrel
    clear H6
    by_cases hil : i < L.length
    · have HW := HFX.out wr hb
      obtain ⟨b,o,c,x,y,hlv,hbB,c0w,hsg⟩ := HG.out.2.1.at hil
      have c0 := (HW.2.2.1.cell (lt_of_cell c0w)).trans c0w
      simp only [Value.slice.injEq,true_and] at hlv
      obtain ⟨rfl,rfl⟩ := hlv
      obtain ⟨g,hg⟩ : ∃ g,g = L.getD i [] := ⟨_,rfl⟩
      rw [← hg] at c0 hsg
      have hgo := HG.out.2.2.at hil
      rw [← hg] at hgo
      obtain ⟨m,hm⟩ : ∃ m,g.length = m + 1 := ⟨g.length - 1,by omega⟩
      have hm100 : m ≤ 100 := by omega
      rw [hm] at c0 hsg
      obtain ⟨gb,go,rfl,c1w⟩ := sl_lastS hsg hm
      have c1 := (HW.2.2.1.cell (lt_of_cell c1w)).trans c1w
      obtain ⟨z,hz⟩ : ∃ z,z = lstI g := ⟨_,rfl⟩
      rw [← hz] at c1
      have g1 := HW.1.cell 1 rfl
      have HZ : Hid (f i = if z = out then (L.length : Int) else (hitA R z i L.length : Nat)) := by
        have : f i = if z = out then (L.length : Int) else (hitA R z i L.length : Nat) := by rw [HFF.out i,hz,hg]
        exact this
      have hi0 : (0 : Int) ≤ (i : Int) := by omega
      have hi1 : (i : Int) < (L.length : Int) := by omega
      have H7 : Hid (Below O w2 wr ∧ ∃ us : List Int,us.length = L.length ∧ us.set i (f i) = part f L.length (i + 1) ∧ us.getD i 0 = (hitA R z i (i + 1) : Nat) ∧ Box wr O (us.map (Value.int .i64))) := by
        refine ⟨hb,_,part_len _ _ _,part_step _,?_,hx⟩
        rw [hitA_zero]
        simp [part,hil]
      clear hsg c0w c1w hg hgo hm hz hb hx HW
      go_wp2_with fail
      clear c0 c1 g1
      go_loopw [10] (fun kv wr => ∃ k : Nat,i + 1 ≤ k ∧ k ≤ L.length ∧ kv = .int .i64 k ∧ Below O w2 wr ∧ ∃ us : List Int,us.length = L.length ∧ us.set i (f i) = part f L.length (i + 1) ∧ us.getD i 0 = (hitA R z i k : Nat) ∧ Box wr O (us.map (Value.int .i64))) (fun kv _ => L.length - (intOf kv).toNat)
      case atStart => exact ⟨i + 1,Nat.le_refl _,hil,by go_num,H7.out⟩
      case round =>
        obtain ⟨k,hik,hkl,rfl,hb,us,hul,hus,hug,hx⟩ := hrel
        clear H7
        have HU : Hid (us.length = L.length ∧ us.set i (f i) = part f L.length (i + 1) ∧ us.getD i 0 = (hitA R z i k : Nat)) := ⟨hul,hus,hug⟩
        have HX : Hid (Below O w2 wr ∧ Box wr O (us.map (Value.int .i64))) := ⟨hb,hx⟩
        have hcell := hx.cell i (show (us.map (Value.int .i64))[i]? = some (.int .i64 (us.getD i 0)) by simp [hul,hil])
        have hfz := hx.frozen i
        by_cases hkn : k < L.length
        · obtain ⟨b2,o2,c2,x2,y2,hlv2,_,d0,hsr⟩ := (HFX.out wr hb).2.1.at (i := k) (by rw [(HFX.out wr hb).2.2.2]; exact hkn)
          rw [(HFX.out wr hb).2.2.2] at hlv2
          simp only [Value.slice.injEq,true_and] at hlv2
          obtain ⟨rfl,rfl⟩ := hlv2
          obtain ⟨cz,hcz⟩ : ∃ cz,cz = (R.getD k []).contains z := ⟨_,rfl⟩
          have hcc := contains_c hsr z
          rw [← hcz] at hcc
          have HCZ : Hid (hitA R z i (k + 1) = if cz = true then k else hitA R z i k) := by
            have : hitA R z i (k + 1) = if cz = true then k else hitA R z i k := by rw [hitA_step (by omega),hcz]
            exact this
          obtain ⟨q,hq⟩ : ∃ q,q = (R.getD k []).length := ⟨_,rfl⟩
          rw [← hq] at d0 hcc
          have hk0 : (0 : Int) ≤ (k : Int) := by omega
          have hk1 : (k : Int) < (L.length : Int) := by omega
          clear hb hul hus hug hx hcz hq hsr
          go_wp2_with fail
          refine hcc.mono ?_; rintro e w5 ⟨rfl,rfl⟩
          clear hcc d0
          cases cz with
          | false =>
            have HE : Hid (hitA R z i (k + 1) = hitA R z i k) := HCZ.out
            clear hcell hfz HCZ
            go_wp2_with fail
            go_roundw
            case rel => exact ⟨k + 1,by omega,by omega,by go_num,HX.out.1,us,HU.out.1,HU.out.2.1,by rw [HE.out]; exact HU.out.2.2,HX.out.2⟩
            case measure => simp [intOf]; omega
          | true =>
            have HE : Hid (hitA R z i (k + 1) = k) := HCZ.out
            have HN : Hid (Below O w2 (w5.setCell ⟨O,i,none⟩ (.int .i64 k)) ∧ (us.set i (k : Int)).length = L.length ∧ (us.set i (k : Int)).set i (f i) = part f L.length (i + 1) ∧ (us.set i (k : Int)).getD i 0 = k ∧ Box (w5.setCell ⟨O,i,none⟩ (.int .i64 k)) O ((us.set i (k : Int)).map (Value.int .i64))) := by
              refine ⟨HX.out.1.setCell (Nat.le_refl _) _,by rw [List.length_set]; exact HU.out.1,by rw [List.set_set]; exact HU.out.2.1,?_,?_⟩
              · have := HU.out.1
                simp [this,hil]
              · rw [List.map_set]
                exact HX.out.2.self i _
            clear HCZ
            go_wp2_with fail
            go_roundw
            case rel => exact ⟨k + 1,by omega,by omega,by go_num,HN.out.1,_,HN.out.2.1,HN.out.2.2.1,by rw [HE.out]; exact HN.out.2.2.2.1,HN.out.2.2.2.2⟩
            case measure => simp [intOf]; omega
        · have ek : k = L.length := by omega
          subst ek
          have g1 := (HFX.out wr hb).1.cell 1 rfl
          clear hul hus hug hx hb
          by_cases hzo : z = out
          · have hzo' : (z == out) = true := by simp [hzo]
            have HF : Hid (f i = L.length) := HZ.out.trans (if_pos hzo)
            have HN : Hid (Below O w2 (wr.setCell ⟨O,i,none⟩ (.int .i64 L.length)) ∧ Box (wr.setCell ⟨O,i,none⟩ (.int .i64 L.length)) O ((part f L.length (i + 1)).map (Value.int .i64))) := by
              refine ⟨HX.out.1.setCell (Nat.le_refl _) _,?_⟩
              rw [← HU.out.2.1,List.map_set,HF.out]
              exact HX.out.2.self i _
            clear hzo HZ HF
            go_wp2_with fail
            go_roundw
            case rel => exact ⟨i + 1,by omega,by go_num,HN.out⟩
            case measure => simp [intOf]; omega
          · have hzo' : (z == out) = false := beq_eq_false_iff_ne.2 hzo
            have HF : Hid (f i = (hitA R z i L.length : Nat)) := HZ.out.trans (if_neg hzo)
            have HN : Hid (Below O w2 wr ∧ Box wr O ((part f L.length (i + 1)).map (Value.int .i64))) := by
              refine ⟨HX.out.1,?_⟩
              rw [← HU.out.2.1,HF.out,← HU.out.2.2]
              have : us.set i (us.getD i 0) = us := by
                apply List.ext_getElem?
                intro j
                rw [List.getElem?_set]
                by_cases e : i = j
                · subst e
                  rw [if_pos rfl]
                  have := HU.out.1
                  simp [this,hil]
                · rw [if_neg e]
              rw [this]
              exact HX.out.2
            clear hzo HZ HF hcell hfz
            go_wp2_with fail
            go_roundw
            case rel => exact ⟨i + 1,by omega,by go_num,HN.out⟩
            case measure => simp [intOf]; omega
    · have ei : i = L.length := by omega
      subst ei
      have HE : Hid (UnPost w ((List.range L.length).map f) (.returned (.slice (some ⟨O,0,none⟩) L.length L.length)) wr) := by
        rw [part_all] at hx
        exact ⟨O,hOw,by simp,hx,(HFX.out wr hb).2.2.1⟩
      clear hb hx
      go_wp2_with fail
      go_ret
      rw [HFE.out]
      exact HE.out
end Go.Proofs.YtaoamkbcegadcaaGreatDoor
/- Layer 17: what a right filter's groups read, and until when they are kept: plain laws. -/
namespace Go.Proofs.YtaoamkbcegadcaaGreatDoor
open Go.RowKit Go.Bx Go.Od Go.Hp Go.Sort
set_option linter.unusedVariables false

theorem rng_of {nd : Nd} {n : Nat} (h : oneB nd n = 0) : ∀ x ∈ nd.ins,-1 ≤ x ∧ x < n := by
  unfold oneB at h
  split at h
  · cases h
  split at h
  · cases h
  split at h
  · cases h
  rename_i h3
  have hn : nearB nd.ins 0 nd.ins.length (-1) ((n : Int) - 1) = true := by simpa using h3
  rw [nearB_iff] at hn
  intro x hx
  obtain ⟨j,hj,rfl⟩ := List.mem_iff_getElem.1 hx
  have := hn j (by omega) hj
  rw [List.getD_eq_getElem?_getD,List.getElem?_eq_getElem hj,Option.getD_some] at this
  omega
theorem right_rng {nds : List Nd} {out : Int} (h : rightB nds out = true) : ∀ i,∀ x ∈ (nds.getD i Nd.none).ins,-1 ≤ x ∧ x < nds.length := by
  unfold rightB at h
  rw [Bool.and_eq_true] at h
  have hc := eq_of_beq h.2
  unfold chkB at hc
  intro i x hx
  by_cases c1 : nds.length < 1 ∨ 256 < nds.length
  · rw [if_pos c1] at hc; omega
  · rw [if_neg c1] at hc
    by_cases c2 : badB nds nds.length ≠ 0
    · rw [if_pos c2] at hc; exact absurd hc c2
    · have hbad : ∀ q,q < nds.length → oneB (nds.getD q Nd.none) nds.length = 0 := (badB_iff _ _).1 (by simpa using c2)
      by_cases hi : i < nds.length
      · exact rng_of (hbad i hi) x hx
      · have : nds.getD i Nd.none = Nd.none := by
          rw [List.getD_eq_getElem?_getD,List.getElem?_eq_none (by omega)]
          rfl
        rw [this] at hx
        cases hx
structure SGood (nds : List Nd) (out : Int) : Prop extends Good nds out where
  rng : ∀ i,∀ x ∈ (nds.getD i Nd.none).ins,-1 ≤ x ∧ x < nds.length
  few20 : ∀ i,(nds.getD i Nd.none).ins.length ≤ 1000
theorem sgood_of {nds : List Nd} {out : Int} (h : rightB nds out = true) : SGood nds out := by
  refine ⟨good_of h,right_rng h,fun i => ?_⟩
  by_cases hi : i < nds.length
  · exact (good_of h).short i hi
  · have : nds.getD i Nd.none = Nd.none := by
      rw [List.getD_eq_getElem?_getD,List.getElem?_eq_none (by omega)]
      rfl
    rw [this]
    simp [Nd.none]
noncomputable def gL (nds : List Nd) (out : Int) (on : Bool) : List (List Int) := (grp nds out on).map ofN
section
variable {nds : List Nd} {out : Int} {on : Bool}
theorem gL_len : (gL nds out on).length = (grp nds out on).length := by simp [gL]
theorem gL_get {i : Nat} (hi : i < (grp nds out on).length) : (gL nds out on).getD i [] = ofN ((grp nds out on).getD i []) := by simp [gL,hi]
theorem grp_le (h : Good nds out) : (grp nds out on).length ≤ 100 := by
  have h1 := gsP_len (pR nds out on) (ord (insOf nds)) (ord (insOf nds)).length
  have h2 := ord_len (insOf nds)
  rw [insOf_len] at h2
  have := h.few
  unfold grp
  omega
theorem grp_at {i : Nat} (hi : i < (grp nds out on).length) : (grp nds out on).getD i [] ∈ grp nds out on := by
  have : (grp nds out on)[i]? = some ((grp nds out on).getD i []) := by simp [hi]
  exact List.mem_of_getElem? this
theorem grp_lens (h : Good nds out) {i : Nat} (hi : i < (grp nds out on).length) : 0 < ((grp nds out on).getD i []).length ∧ ((grp nds out on).getD i []).length ≤ 100 := by
  obtain ⟨h0,l,_,e⟩ := grp_mem.1 (grp_at hi)
  refine ⟨h0,?_⟩
  rw [← e]
  refine Nat.le_trans (List.length_filter_le _ _) ?_
  have h2 := ord_len (insOf nds)
  rw [insOf_len] at h2
  have := h.few
  omega
theorem SGood.ok (h : SGood nds out) : GrpOk nds (gL nds out on) := by
  refine ⟨by have := h.few; omega,h.few20,h.rng,by rw [gL_len]; have := grp_le (on := on) h.toGood; omega,fun g hg => ?_⟩
  unfold gL at hg
  obtain ⟨l,hl,rfl⟩ := List.mem_map.1 hg
  obtain ⟨i,hi,rfl⟩ := List.mem_iff_getElem.1 hl
  have e : (grp nds out on)[i] = (grp nds out on).getD i [] := by simp [hi]
  rw [e]
  refine ⟨by rw [ofN_len]; exact grp_lens h.toGood hi,fun x hx => ?_⟩
  unfold ofN at hx
  obtain ⟨a,ha,rfl⟩ := List.mem_map.1 hx
  have := h.toGood.w_lt hi ha
  omega
theorem lstI_ofN (l : List Nat) : lstI (ofN l) = (lastN l : Nat) := by
  unfold lstI
  rw [ofN_len,ofN_get]
  unfold lastN
  cases l with
  | nil => rfl
  | cons a l =>
    rw [List.getLastD_eq_getLast?,List.getLast?_eq_getElem?]
    simp
theorem gL_last {i : Nat} (hi : i < (grp nds out on).length) : lstI ((gL nds out on).getD i []) = (lastN ((grp nds out on).getD i []) : Nat) := by rw [gL_get hi,lstI_ofN]
theorem count_two {L : List (List Nat)} {a i j : Nat} (hij : i < j) (hj : j < L.length) (h1 : a ∈ L.getD i []) (h2 : a ∈ L.getD j []) : 2 ≤ L.flatten.count a := by
  have e : L = L.take j ++ L.drop j := (List.take_append_drop j L).symm
  rw [e,List.flatten_append,List.count_append]
  have m1 : a ∈ (L.take j).flatten := by
    refine List.mem_flatten.2 ⟨L.getD i [],?_,h1⟩
    have : (L.take j)[i]? = some (L.getD i []) := by rw [List.getElem?_take_of_lt hij]; simp [show i < L.length by omega]
    exact List.mem_of_getElem? this
  have m2 : a ∈ (L.drop j).flatten := by
    refine List.mem_flatten.2 ⟨L.getD j [],?_,h2⟩
    have : (L.drop j)[0]? = some (L.getD j []) := by simp [hj]
    exact List.mem_of_getElem? this
  have c1 := List.count_pos_iff.2 m1
  have c2 := List.count_pos_iff.2 m2
  omega
theorem Good.one (h : Good nds out) {a i j : Nat} (hi : i < (grp nds out on).length) (hj : j < (grp nds out on).length) (h1 : a ∈ (grp nds out on).getD i []) (h2 : a ∈ (grp nds out on).getD j []) : i = j := by
  have hc := h.w_count (on := on) (h.w_lt hi h1)
  have hle : (grp nds out on).flatten.count a ≤ 1 := by rw [hc]; split <;> omega
  by_cases e : i = j
  · exact e
  · exfalso
    by_cases hlt : i < j
    · have := count_two hlt hj h1 h2; omega
    · have := count_two (show j < i by omega) hi h2 h1; omega
theorem Good.last_in (h : Good nds out) {i : Nat} (hi : i < (grp nds out on).length) : lastN ((grp nds out on).getD i []) ∈ (grp nds out on).getD i [] := by
  have h0 := (grp_lens h hi).1
  generalize (grp nds out on).getD i [] = g at *
  unfold lastN
  cases g with
  | nil => simp at h0
  | cons a g => simp only [List.getLastD_cons]; exact List.getLastD_mem_cons
theorem Good.needs (h : Good nds out) {i a : Nat} (hi : i < (grp nds out on).length) (ha : a ∈ (grp nds out on).getD i []) : ned (insOf nds) out a = true := by
  obtain ⟨_,l,_,e⟩ := grp_mem.1 (grp_at hi)
  rw [← e] at ha
  exact (pR_iff.1 (List.mem_filter.1 ha).2).1
theorem rd_mem {i : Nat} (hi : i < (grp nds out on).length) {x : Int} : x ∈ rdS nds ((gL nds out on).getD i []) ↔ (∃ a ∈ (grp nds out on).getD i [],x ∈ (nds.getD a Nd.none).ins) ∧ x ∉ ofN ((grp nds out on).getD i []) := by
  rw [rdS_mem,gL_get hi]
  constructor
  · rintro ⟨⟨k,hk,hx⟩,h2⟩
    obtain ⟨a,ha,rfl⟩ := List.mem_map.1 hk
    exact ⟨⟨a,ha,by simpa using hx⟩,h2⟩
  · rintro ⟨⟨a,ha,hx⟩,h2⟩
    exact ⟨⟨(a : Int),List.mem_map.2 ⟨a,ha,rfl⟩,by simpa using hx⟩,h2⟩
theorem SGood.ahead (h : SGood nds out) {i : Nat} (hi : i < (grp nds out on).length) {x : Int} (hx : x ∈ rdS nds ((gL nds out on).getD i [])) : x = -1 ∨ ∃ j,j < i ∧ ((lastN ((grp nds out on).getD j []) : Nat) : Int) = x := by
  obtain ⟨⟨a,ha,hin⟩,hni⟩ := (rd_mem hi).1 hx
  have hr := h.rng a x hin
  by_cases e : x = -1
  · exact .inl e
  · right
    obtain ⟨n,rfl⟩ : ∃ n : Nat,x = n := ⟨x.toNat,by omega⟩
    obtain ⟨k,hk,hke⟩ := List.mem_iff_getElem.1 ha
    have hk' : ((grp nds out on).getD i [])[k]? = some a := by rw [List.getElem?_eq_getElem hk,hke]
    have hs := h.toGood.w_behind hi hk' (by omega) hin
    have hng : n ∉ (grp nds out on).getD i [] := fun hm => hni (List.mem_map.2 ⟨n,hm,rfl⟩)
    rcases List.mem_append.1 hs with hs | hs
    · obtain ⟨g,hg,hn⟩ := List.mem_flatten.1 hs
      obtain ⟨j,hj,rfl⟩ := List.mem_iff_getElem.1 hg
      rw [List.length_take] at hj
      have hj1 : j < (grp nds out on).length := by omega
      have hje : ((grp nds out on).take i)[j] = (grp nds out on).getD j [] := by rw [List.getElem_take]; simp [hj1]
      rw [hje] at hn
      refine ⟨j,by omega,?_⟩
      by_cases el : n = lastN ((grp nds out on).getD j [])
      · rw [el]
      · exfalso
        have := h.toGood.w_within hj1 hn el (h.toGood.w_lt hi ha) (h.toGood.needs hi ha) hin
        have := h.toGood.one hi hj1 ha this
        omega
    · exact absurd (List.mem_of_mem_take hs) hng
theorem SGood.behind (h : SGood nds out) {i k : Nat} (hi : i < (grp nds out on).length) (hk : k < (grp nds out on).length) (hx : lstI ((gL nds out on).getD i []) ∈ rdS nds ((gL nds out on).getD k [])) : i < k := by
  rw [gL_last hi] at hx
  rcases h.ahead hk hx with e | ⟨j,hj,e⟩
  · omega
  · have e' : lastN ((grp nds out on).getD j []) = lastN ((grp nds out on).getD i []) := by omega
    have m1 := h.toGood.last_in (on := on) (i := j) (by omega)
    rw [e'] at m1
    have := h.toGood.one hi (by omega) (h.toGood.last_in hi) m1
    omega
theorem SGood.read (h : SGood nds out) {i : Nat} (hi : i < (grp nds out on).length) (hne : lstI ((gL nds out on).getD i []) ≠ out) : ∃ k,k < (grp nds out on).length ∧ lstI ((gL nds out on).getD i []) ∈ rdS nds ((gL nds out on).getD k []) := by
  rw [gL_last hi] at hne ⊢
  have hl := h.toGood.last_in hi
  obtain ⟨l,hle⟩ : ∃ l,l = lastN ((grp nds out on).getD i []) := ⟨_,rfl⟩
  rw [← hle] at hne hl ⊢
  have hn := (ned_iff _ _ _).1 (h.toGood.needs hi hl)
  obtain ⟨h0,h1,hr⟩ := hn
  cases hr with
  | base => omega
  | @step u _ hu hk =>
    have hnu : ned (insOf nds) out u = true := (ned_iff _ _ _).2 ⟨h0,h1,hu⟩
    have hul : u < nds.length := by have := Ned.lt (ins := insOf nds) ⟨h0,h1,hu⟩; rwa [insOf_len] at this
    have hin : (l : Int) ∈ (nds.getD u Nd.none).ins := by have := ((inp_mem _ _ _).1 hk).2; rwa [insOf_get] at this
    have hc := h.toGood.w_count (on := on) hul
    rw [hnu,if_pos rfl] at hc
    have hm : u ∈ (grp nds out on).flatten := List.count_pos_iff.1 (by omega)
    obtain ⟨g,hg,hug⟩ := List.mem_flatten.1 hm
    obtain ⟨k,hkl,rfl⟩ := List.mem_iff_getElem.1 hg
    have hke : (grp nds out on)[k] = (grp nds out on).getD k [] := by simp [hkl]
    rw [hke] at hug
    refine ⟨k,hkl,(rd_mem hkl).2 ⟨⟨u,hug,hin⟩,fun hm => ?_⟩⟩
    obtain ⟨l',hl',e⟩ := List.mem_map.1 hm
    have e' : l' = l := by omega
    subst e'
    have hik := h.toGood.one hi hkl hl hl'
    subst hik
    obtain ⟨L,e2,e3⟩ := h.toGood.w_last hi
    rw [← hle] at e3
    subst e3
    rw [e2] at hug
    obtain ⟨_,hp⟩ := List.mem_filter.1 hug
    have hled := (pR_iff.1 hp).2
    have h5 := (h.toGood.led_up (on := on) hul).1
    rw [hled] at h5
    have h6 := h.toGood.before hul hk
    omega
/-! ### until -/
noncomputable def rL (nds : List Nd) (out : Int) (on : Bool) : List (List Int) := (gL nds out on).map (rdS nds)
theorem rL_get {i : Nat} (hi : i < (grp nds out on).length) : (rL nds out on).getD i [] = rdS nds ((gL nds out on).getD i []) := by
  have : i < (gL nds out on).length := by rw [gL_len]; exact hi
  simp [rL,this]
theorem lastN_top {p : Nat → Bool} {k : Nat} : ∀ {m : Nat},k < m → p k = true → k ≤ lastN ((List.range m).filter p)
  | m + 1,hk,hp => by
    rw [filter_step]
    split
    · omega
    · by_cases e : k = m
      · subst e; contradiction
      · exact lastN_top (by omega) hp
theorem lastN_in {l : List Nat} (h : l ≠ []) : lastN l ∈ l := by
  unfold lastN
  cases l with
  | nil => exact absurd rfl h
  | cons a g => simp only [List.getLastD_cons]; exact List.getLastD_mem_cons
noncomputable def uN (nds : List Nd) (out : Int) (on : Bool) (i : Nat) : Int := unA (rL nds out on) (gL nds out on) out i
theorem uN_out {i : Nat} (e : lstI ((gL nds out on).getD i []) = out) : uN nds out on i = (grp nds out on).length := by
  unfold uN unA
  rw [if_pos e,gL_len]
theorem SGood.uN_not (h : SGood nds out) {i : Nat} (hi : i < (grp nds out on).length) (e : lstI ((gL nds out on).getD i []) ≠ out) : (i : Int) < uN nds out on i ∧ uN nds out on i < (grp nds out on).length ∧ ∀ k,k < (grp nds out on).length → lstI ((gL nds out on).getD i []) ∈ rdS nds ((gL nds out on).getD k []) → (k : Int) ≤ uN nds out on i := by
  unfold uN unA
  rw [if_neg e,gL_len]
  have htop : ∀ k,k < (grp nds out on).length → lstI ((gL nds out on).getD i []) ∈ rdS nds ((gL nds out on).getD k []) → k ≤ hitA (rL nds out on) (lstI ((gL nds out on).getD i [])) i (grp nds out on).length := fun k hk hm => by
    refine lastN_top hk ?_
    rw [rL_get hk,decide_eq_true (h.behind hi hk hm)]
    simpa using hm
  obtain ⟨k,hk,hm⟩ := h.read hi e
  have h1 := htop k hk hm
  have h2 := h.behind hi hk hm
  have h3 := hitA_lt (rL nds out on) (lstI ((gL nds out on).getD i [])) i (m := (grp nds out on).length) (by omega)
  exact ⟨by omega,by omega,fun k hk hm => by have := htop k hk hm; omega⟩
theorem SGood.uN_gt (h : SGood nds out) {i : Nat} (hi : i < (grp nds out on).length) : (i : Int) < uN nds out on i ∧ uN nds out on i ≤ (grp nds out on).length := by
  by_cases e : lstI ((gL nds out on).getD i []) = out
  · rw [uN_out e]; omega
  · have := h.uN_not hi e; omega
end
end Go.Proofs.YtaoamkbcegadcaaGreatDoor
