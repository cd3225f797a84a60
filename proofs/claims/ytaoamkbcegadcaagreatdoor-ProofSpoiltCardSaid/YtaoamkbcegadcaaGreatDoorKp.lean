/- Texts joined: XKp. -/
import Derived.Test.YtaoamkbcegadcaaGreatDoorAc
import Derived.Test.YtaoamkbcegadcaaGreatDoorAg
import Derived.Deep.AppendLies
set_option maxRecDepth 4000
/- Layer 11: 'OrderKeeps': what its first loop's operations yield. -/
namespace Go.Proofs.YtaoamkbcegadcaaGreatDoor
open Go.RowKit Go.Bx Go.Od Go.Hp
set_option linter.unusedVariables false

theorem app_keep {P : Program} {w : World} {base : Nat} (t e : TypeId) (i : TypeInfo) (z : Value) (size bytes : Nat) (ht : P.underlying t = some (.slice e)) (hi : P.info? e = some i) (hz : i.zero = some z) (hsize : i.size = size) (hby : i.bytes = bytes) (hzs : z.cells.size = size) (hsz : 0 < size)
    (v : Value) (n : Nat) (xs : List Value) (hown : w.ownsRow base e size v n xs) (ad : Addr) (m c : Nat) (news : List Value) (hl : news.length = m * size) (hnews : ∀ j u,news[j]? = some u → w.cell? (ad.add j) = some u) (h1 : ∀ u ∈ news,u.oneCell' = true)
    (hm : 0 < m) (h63 : n + m ≤ maxLen) (hbytes : (n + m) * bytes ≤ 140737488355328) (hbase : base ≤ w.heap.size) :
    ∃ g cap w',(Builtin.append_ #[t,t] t #[v,.slice (some ad) m c]).run P w = .ok (.slice (some ⟨g,0,none⟩) (n + m) cap) w' ∧ w'.ownsRow base e size (.slice (some ⟨g,0,none⟩) (n + m) cap) (n + m) (xs ++ news) ∧ w'.ownsRow base e size v n xs ∧ w.grownBy w' v.ownBlock := by
  rcases hown.2 with ⟨rfl,rfl⟩ | ⟨g,cap,cur,rfl,hB,hb,hnc,hcm,hcs,htk⟩
  · obtain ⟨g,cap,w',hr,h2,h3,_,_⟩ := run_append_lies (P := P) w t t base e i z size bytes ht hi hz hsize hby hzs hsz _ 0 xs hown ad m c news hl hnews h1 hm h63 hbytes hbase _ rfl
    exact ⟨g,cap,w',hr,h2,⟨hown.1,.inl ⟨rfl,rfl⟩⟩,h3⟩
  · by_cases hroom : n + m ≤ cap
    · obtain ⟨w',hr,h2,h3⟩ := run_append_fits (P := P) w base t t e i size ht hi hsize g n cap xs hown ad m c news hl hnews h1 hroom
      refine ⟨g,cap,w',hr,h2,⟨hown.1,?_⟩,h3⟩
      rcases h2.2 with ⟨h,_⟩ | ⟨g',cap',cur',h,hB',hb',hnc',hcm',hcs',htk'⟩
      · cases h
      · cases h
        refine .inr ⟨g,cap,cur',rfl,hB',hb',hnc,hcm',hcs',?_⟩
        have e1 : (cur'.toList.take ((n + m) * size)).take (n * size) = (xs ++ news).take (n * size) := by rw [htk']
        rw [List.take_take,Nat.min_eq_left (Nat.mul_le_mul_right _ (Nat.le_add_right _ _)),List.take_append_of_le_length (by rw [hown.1]; exact Nat.le_refl _)] at e1
        exact e1.trans (List.take_of_length_le (by rw [hown.1]; exact Nat.le_refl _))
    · obtain ⟨v',w',hr,ho,hg⟩ := run_append_arg_grows (P := P) w t t e i z size bytes ht hi hz hsize hby hzs hsz ⟨g,0,none⟩ n cap xs hown.1 (fun j u hj => by
        rw [Go.WideShapes.add_plain,Nat.zero_add]
        have hjl : j < xs.length := (List.getElem?_eq_some_iff.1 hj).1
        rw [World.ownsRow.cellAt hown j (by rw [← hown.1]; exact hjl),hj]) ad m c news hl hnews (by omega) h63 hbytes
      obtain ⟨g',c',rfl,hge,_⟩ := World.ownsRow.form ho (by omega)
      refine ⟨g',c',w',hr,⟨ho.1,?_⟩,World.ownsRow.kept hown hg (.inr (by simp [Value.ownBlock])),⟨hg.os,hg.tape,hg.output,hg.size,fun k hk _ => hg.block k hk (by simp)⟩⟩
      rcases ho.2 with hn | ⟨g2,cap2,cur2,hv2,hB2,rest⟩
      · exact .inl hn
      · exact .inr ⟨g2,cap2,cur2,hv2,Nat.le_trans hbase hB2,rest⟩
section
variable {w W W' : World} {nv wv : Value} {out : Int} {H : Nat} {cells : List Value} {nds : List Nd}
end
def K7 (G H Bs n2 i b o : Nat) (wv gv iv pv : Value) (cells : List Value) (x : Nd) (j : Nat) (v : Value) (W : World) : Prop := match j with
  | 0 => v = .pointer (some ⟨H,0,none⟩)
  | 1 => v = wv
  | 2 => v = .pointer (some ⟨G,0,none⟩)
  | 3 => v = gv
  | 4 => v = .int .i64 i
  | 5 => v = .pointer (some ⟨b,o + i * 3,none⟩)
  | 6 => v = .pointer (some ⟨b,o + i * 3,none⟩)
  | 7 => v = .int .i64 x.op
  | 8 => ∃ g,v = .slice (some ⟨g,0,none⟩) 0 0 ∧ W.ownsRow Bs 3 1 (.slice (some ⟨g,0,none⟩) 0 0) 0 []
  | 9 => v = .pointer (some ⟨G,0,none⟩)
  | 10 => v = gv
  | 11 => v = .int .i64 i
  | 12 => v = .pointer (some ⟨b,o + i * 3,none⟩)
  | 13 => v = .pointer (some ⟨b,o + i * 3 + 1,none⟩)
  | 14 => v = iv
  | 15 => OwnP W Bs v x.ins
  | 16 => ∃ g,v = .slice (some ⟨g,0,none⟩) 0 0 ∧ W.ownsRow Bs 3 1 (.slice (some ⟨g,0,none⟩) 0 0) 0 []
  | 17 => v = .pointer (some ⟨G,0,none⟩)
  | 18 => v = gv
  | 19 => v = .int .i64 i
  | 20 => v = .pointer (some ⟨b,o + i * 3,none⟩)
  | 21 => v = .pointer (some ⟨b,o + i * 3 + 2,none⟩)
  | 22 => v = pv
  | 23 => OwnP W Bs v x.p
  | 24 => ∃ s t,v = .agg #[.int .i64 x.op,s,t] ∧ OwnP W Bs s x.ins ∧ OwnP W Bs t x.p
  | 25 => ∃ g s t,v = .slice (some ⟨g,0,none⟩) 1 1 ∧ n2 ≤ g ∧ W.heap[g]? = some (.cells #[.int .i64 x.op,s,t] 44 (0,0)) ∧ OwnP W Bs s x.ins ∧ OwnP W Bs t x.p
  | 26 => ∃ g c s t,v = .slice (some ⟨g,0,none⟩) (i + 1) c ∧ W.ownsRow Bs 44 3 (.slice (some ⟨g,0,none⟩) (i + 1) c) (i + 1) (cells ++ [.int .i64 x.op,s,t]) ∧ OwnP W Bs s x.ins ∧ OwnP W Bs t x.p
  | 27 => v = .pointer (some ⟨H,0,none⟩)
  | _ => True
end Go.Proofs.YtaoamkbcegadcaaGreatDoor
