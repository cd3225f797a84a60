/- Texts joined: XZo. -/
import Derived.Test.YtaoamkbcegadcaaGreatDoorZi
import Derived.Test.YtaoamkbcegadcaaGreatDoorZj
import Derived.Test.YtaoamkbcegadcaaGreatDoorZm
import Derived.ScopeJumps
import Derived.WalkMore
import Derived.LoopN
set_option maxRecDepth 4000
/- Layer 20: Check. -/
namespace Go.Proofs.YtaoamkbcegadcaaGreatDoor
open Go.RowKit Go.Bx Go.Od Go.Hp
attribute [local go_sem ↓] Go.wp_at_zero Go.wp_at_succ
set_option linter.unusedVariables false

theorem wp_scope_out {P : Program} {c rest : Code} (l : Nat) {Q : Exit → Act → World → Prop} {a : Act} {w : World} (hf : findLabel c l = some rest)
    (h : c.wp P (Exit.jump l (fun a w => rest.wp P (Exit.noGoto Q) a w) Q) a w) : (Code.scope c).wp P Q a w :=
  wp_scope_jumps l (fun a w => rest.wp P (Exit.noGoto Q) a w) (fun _ _ => 0) hf h fun a w hj => Code.wp_mono (fun e a w q => by cases e <;> first | exact q | exact q.elim) hj
theorem mapOf_lt {ps : List Ps} {k v : Nat} (h : mapOf (prs ps 0) k = some v) : v < ps.length := by
  unfold mapOf at h
  rw [Option.map_eq_some_iff] at h
  obtain ⟨x,hx,rfl⟩ := h
  obtain ⟨j,hj,e,_⟩ := prs_mem.1 (List.mem_of_find?_eq_some hx)
  omega
theorem Exit.jump_ret {l : Nat} {J : Act → World → Prop} {Q : Exit → Act → World → Prop} {a : Act} {w : World} : Exit.jump l J Q .ret a w = Q .ret a w := rfl
structure ChOk (nds : List Nd) (p : Pn) : Prop where
  few : p.ps.length ≤ 1000
  pairs : (prs p.ps 0).length ≤ 1000
  ok : ∀ y ∈ p.ps,POk y
  nodes : ∀ y ∈ p.ps,∀ k ∈ y.nodes,k < nds.length
  grp : GrpOk nds (grpP p.ps)
  slots : ∀ y ∈ p.ps,y.slot < p.sn
  sn : p.sn ≤ 1000
def errP (b : Bool) : Int := if b = true then 0 else 12
abbrev pnv (pv : Value) (p : Pn) : Value := .agg #[pv,.int .i64 p.src.x0,.int .i64 p.src.y0,.int .i64 p.src.x1,.int .i64 p.src.y1,.int .i64 p.sn,.int .i64 p.pk]
set_option maxRecDepth 100000 in
set_option maxHeartbeats 6400000 in
theorem qcheck_c {B : Nat} {nv pv : Value} {nds : List Nd} {out : Int} {want : Rc} {c : Cf} {p : Pn} (w : World) (hgr : Gr B w nv nds) (hgp : Gp B w pv p.ps) (hB : B ≤ w.heap.size) (hg : GoodN nds out) (hw : RcP want) (hwe : want.emp = false) (h : ChOk nds p) :
    Calls Tryz.prog 9 #[.agg #[nv,.int .i64 out],rv want,cfv c,pnv pv p] w (PPost w (.int .i64 (errP (chkP nds out want c p)))) := by
  obtain ⟨pa,pc,rfl⟩ := hgp.isSl
  obtain ⟨ga,gc,rfl⟩ := hgr.isSl
  have hmm := @run_makeMap Tryz.prog
  have hmf : ∀ (fn : Fn) (first cap : Array Value) (w : World),(Instr.makeFunc fn first cap).run Tryz.prog w = .ok (.func fn first cap) w := fun _ _ _ _ => rfl
  obtain ⟨P,hP⟩ : ∃ P,P = p.ps.length := ⟨_,rfl⟩
  obtain ⟨m,hm⟩ : ∃ P,P = nds.length := ⟨_,rfl⟩
  obtain ⟨R,hR⟩ : ∃ R,R = chkP nds out want c p := ⟨_,rfl⟩
  rw [← hR]
  obtain ⟨ps,⟨s0,s1,s2,s3⟩,sn,pk⟩ := p
  obtain ⟨fu,al,ro,da,rm⟩ := c
  obtain ⟨x0,y0,x1,y1⟩ := want
  dsimp only at hgp hP
  rw [← hP,← hm]
  have HALL : Hid (Gr B w (.slice ga nds.length gc) nds ∧ Gp B w (.slice pa ps.length pc) ps ∧ B ≤ w.heap.size ∧ GoodN nds out ∧ ChOk nds ⟨ps,⟨s0,s1,s2,s3⟩,sn,pk⟩) := ⟨hgr,hgp,hB,hg,h⟩
  have HP : Hid (P = ps.length ∧ m = nds.length) := ⟨hP,hm⟩
  have HR : Hid (R = chkP nds out ⟨x0,y0,x1,y1⟩ ⟨fu,al,ro,da,rm⟩ ⟨ps,⟨s0,s1,s2,s3⟩,sn,pk⟩) := hR
  have HW : Hid (RcP ⟨x0,y0,x1,y1⟩ ∧ (Rc.mk x0 y0 x1 y1).emp = false) := ⟨hw,hwe⟩
  clear hgr hgp hB hg h hP hm hR hw hwe
  go_enter Tryz.func9,Tryz.ntmps9
  go_wp2_with fail
  apply wp_scope_out 0
  case hf => exact rfl
  go_wp2_with fail
  have hszs : ((((w.alloc (.cells #[.slice ga m gc,.int .i64 out] 24)).alloc (.cells #[.int .i64 x0,.int .i64 y0,.int .i64 x1,.int .i64 y1] 26)).alloc (.cells #[.bool fu,.bool al,.bool ro,.bool da,.int .i64 rm] 28)).alloc (.cells #[.slice pa P pc,.int .i64 s0,.int .i64 s1,.int .i64 s2,.int .i64 s3,.int .i64 sn,.int .i64 pk] 33)).heap.size = w.heap.size + 1 + 1 + 1 + 1 ∧ (((((w.alloc (.cells #[.slice ga m gc,.int .i64 out] 24)).alloc (.cells #[.int .i64 x0,.int .i64 y0,.int .i64 x1,.int .i64 y1] 26)).alloc (.cells #[.bool fu,.bool al,.bool ro,.bool da,.int .i64 rm] 28)).alloc (.cells #[.slice pa P pc,.int .i64 s0,.int .i64 s1,.int .i64 s2,.int .i64 s3,.int .i64 sn,.int .i64 pk] 33)).alloc (.map #[] 0)).heap.size = w.heap.size + 1 + 1 + 1 + 1 + 1 ∧ ((((((w.alloc (.cells #[.slice ga m gc,.int .i64 out] 24)).alloc (.cells #[.int .i64 x0,.int .i64 y0,.int .i64 x1,.int .i64 y1] 26)).alloc (.cells #[.bool fu,.bool al,.bool ro,.bool da,.int .i64 rm] 28)).alloc (.cells #[.slice pa P pc,.int .i64 s0,.int .i64 s1,.int .i64 s2,.int .i64 s3,.int .i64 sn,.int .i64 pk] 33)).alloc (.map #[] 0)).alloc (.cells #[.slice ga m gc,.int .i64 out,.int .i64 x0,.int .i64 y0,.int .i64 x1,.int .i64 y1,.bool fu,.bool al,.bool ro,.bool da,.int .i64 rm,.slice pa P pc,.int .i64 s0,.int .i64 s1,.int .i64 s2,.int .i64 s3,.int .i64 sn,.int .i64 pk,.map (some (w.heap.size + 1 + 1 + 1 + 1))] 56)).heap.size = w.heap.size + 1 + 1 + 1 + 1 + 1 + 1 := by simp only [size_alloc,and_self]
  have b4 : Below w.heap.size w ((((w.alloc (.cells #[.slice ga m gc,.int .i64 out] 24)).alloc (.cells #[.int .i64 x0,.int .i64 y0,.int .i64 x1,.int .i64 y1] 26)).alloc (.cells #[.bool fu,.bool al,.bool ro,.bool da,.int .i64 rm] 28)).alloc (.cells #[.slice pa P pc,.int .i64 s0,.int .i64 s1,.int .i64 s2,.int .i64 s3,.int .i64 sn,.int .i64 pk] 33)) := (((below_new w _).alloc (by simp only [size_alloc]; omega) _).alloc (by simp only [size_alloc]; omega) _).alloc (by simp only [size_alloc]; omega) _
  have b5 : Below w.heap.size w (((((w.alloc (.cells #[.slice ga m gc,.int .i64 out] 24)).alloc (.cells #[.int .i64 x0,.int .i64 y0,.int .i64 x1,.int .i64 y1] 26)).alloc (.cells #[.bool fu,.bool al,.bool ro,.bool da,.int .i64 rm] 28)).alloc (.cells #[.slice pa P pc,.int .i64 s0,.int .i64 s1,.int .i64 s2,.int .i64 s3,.int .i64 sn,.int .i64 pk] 33)).alloc (.map #[] 0)) := b4.alloc b4.size _
  have b6 : Below w.heap.size w ((((((w.alloc (.cells #[.slice ga m gc,.int .i64 out] 24)).alloc (.cells #[.int .i64 x0,.int .i64 y0,.int .i64 x1,.int .i64 y1] 26)).alloc (.cells #[.bool fu,.bool al,.bool ro,.bool da,.int .i64 rm] 28)).alloc (.cells #[.slice pa P pc,.int .i64 s0,.int .i64 s1,.int .i64 s2,.int .i64 s3,.int .i64 sn,.int .i64 pk] 33)).alloc (.map #[] 0)).alloc (.cells #[.slice ga m gc,.int .i64 out,.int .i64 x0,.int .i64 y0,.int .i64 x1,.int .i64 y1,.bool fu,.bool al,.bool ro,.bool da,.int .i64 rm,.slice pa P pc,.int .i64 s0,.int .i64 s1,.int .i64 s2,.int .i64 s3,.int .i64 sn,.int .i64 pk,.map (some (w.heap.size + 1 + 1 + 1 + 1))] 56)) := b5.alloc b5.size _
  have b7 : Below w.heap.size w (((((((w.alloc (.cells #[.slice ga m gc,.int .i64 out] 24)).alloc (.cells #[.int .i64 x0,.int .i64 y0,.int .i64 x1,.int .i64 y1] 26)).alloc (.cells #[.bool fu,.bool al,.bool ro,.bool da,.int .i64 rm] 28)).alloc (.cells #[.slice pa P pc,.int .i64 s0,.int .i64 s1,.int .i64 s2,.int .i64 s3,.int .i64 sn,.int .i64 pk] 33)).alloc (.map #[] 0)).alloc (.cells #[.slice ga m gc,.int .i64 out,.int .i64 x0,.int .i64 y0,.int .i64 x1,.int .i64 y1,.bool fu,.bool al,.bool ro,.bool da,.int .i64 rm,.slice pa P pc,.int .i64 s0,.int .i64 s1,.int .i64 s2,.int .i64 s3,.int .i64 sn,.int .i64 pk,.map (some (w.heap.size + 1 + 1 + 1 + 1))] 56)).alloc (.cells #[Value.func (Fn.func 16) #[.pointer (some ⟨w.heap.size + 1 + 1 + 1 + 1 + 1,0,none⟩)] #[],Value.func (Fn.func 17) #[.pointer (some ⟨w.heap.size + 1 + 1 + 1 + 1 + 1,0,none⟩)] #[],Value.func (Fn.func 18) #[.pointer (some ⟨w.heap.size + 1 + 1 + 1 + 1 + 1,0,none⟩)] #[],Value.func (Fn.func 19) #[.pointer (some ⟨w.heap.size + 1 + 1 + 1 + 1 + 1,0,none⟩)] #[],Value.func (Fn.func 20) #[.pointer (some ⟨w.heap.size + 1 + 1 + 1 + 1 + 1,0,none⟩)] #[],Value.func (Fn.func 21) #[.pointer (some ⟨w.heap.size + 1 + 1 + 1 + 1 + 1,0,none⟩)] #[]] 29)) := b6.alloc b6.size _
  have hm1 : MapI (((((((w.alloc (.cells #[.slice ga m gc,.int .i64 out] 24)).alloc (.cells #[.int .i64 x0,.int .i64 y0,.int .i64 x1,.int .i64 y1] 26)).alloc (.cells #[.bool fu,.bool al,.bool ro,.bool da,.int .i64 rm] 28)).alloc (.cells #[.slice pa P pc,.int .i64 s0,.int .i64 s1,.int .i64 s2,.int .i64 s3,.int .i64 sn,.int .i64 pk] 33)).alloc (.map #[] 0)).alloc (.cells #[.slice ga m gc,.int .i64 out,.int .i64 x0,.int .i64 y0,.int .i64 x1,.int .i64 y1,.bool fu,.bool al,.bool ro,.bool da,.int .i64 rm,.slice pa P pc,.int .i64 s0,.int .i64 s1,.int .i64 s2,.int .i64 s3,.int .i64 sn,.int .i64 pk,.map (some (w.heap.size + 1 + 1 + 1 + 1))] 56)).alloc (.cells #[Value.func (Fn.func 16) #[.pointer (some ⟨w.heap.size + 1 + 1 + 1 + 1 + 1,0,none⟩)] #[],Value.func (Fn.func 17) #[.pointer (some ⟨w.heap.size + 1 + 1 + 1 + 1 + 1,0,none⟩)] #[],Value.func (Fn.func 18) #[.pointer (some ⟨w.heap.size + 1 + 1 + 1 + 1 + 1,0,none⟩)] #[],Value.func (Fn.func 19) #[.pointer (some ⟨w.heap.size + 1 + 1 + 1 + 1 + 1,0,none⟩)] #[],Value.func (Fn.func 20) #[.pointer (some ⟨w.heap.size + 1 + 1 + 1 + 1 + 1,0,none⟩)] #[],Value.func (Fn.func 21) #[.pointer (some ⟨w.heap.size + 1 + 1 + 1 + 1 + 1,0,none⟩)] #[]] 29)) (w.heap.size + 1 + 1 + 1 + 1) 1000 0 fun _ => none := by
    have h := ((MapI.made ((((w.alloc (.cells #[.slice ga m gc,.int .i64 out] 24)).alloc (.cells #[.int .i64 x0,.int .i64 y0,.int .i64 x1,.int .i64 y1] 26)).alloc (.cells #[.bool fu,.bool al,.bool ro,.bool da,.int .i64 rm] 28)).alloc (.cells #[.slice pa P pc,.int .i64 s0,.int .i64 s1,.int .i64 s2,.int .i64 s3,.int .i64 sn,.int .i64 pk] 33)) 1000 (by omega)).alloc (.cells #[.slice ga m gc,.int .i64 out,.int .i64 x0,.int .i64 y0,.int .i64 x1,.int .i64 y1,.bool fu,.bool al,.bool ro,.bool da,.int .i64 rm,.slice pa P pc,.int .i64 s0,.int .i64 s1,.int .i64 s2,.int .i64 s3,.int .i64 sn,.int .i64 pk,.map (some (w.heap.size + 1 + 1 + 1 + 1))] 56)).alloc (.cells #[Value.func (Fn.func 16) #[.pointer (some ⟨w.heap.size + 1 + 1 + 1 + 1 + 1,0,none⟩)] #[],Value.func (Fn.func 17) #[.pointer (some ⟨w.heap.size + 1 + 1 + 1 + 1 + 1,0,none⟩)] #[],Value.func (Fn.func 18) #[.pointer (some ⟨w.heap.size + 1 + 1 + 1 + 1 + 1,0,none⟩)] #[],Value.func (Fn.func 19) #[.pointer (some ⟨w.heap.size + 1 + 1 + 1 + 1 + 1,0,none⟩)] #[],Value.func (Fn.func 20) #[.pointer (some ⟨w.heap.size + 1 + 1 + 1 + 1 + 1,0,none⟩)] #[],Value.func (Fn.func 21) #[.pointer (some ⟨w.heap.size + 1 + 1 + 1 + 1 + 1,0,none⟩)] #[]] 29)
    rw [hszs.1] at h
    exact h
  have hq1 : Box (((((((w.alloc (.cells #[.slice ga m gc,.int .i64 out] 24)).alloc (.cells #[.int .i64 x0,.int .i64 y0,.int .i64 x1,.int .i64 y1] 26)).alloc (.cells #[.bool fu,.bool al,.bool ro,.bool da,.int .i64 rm] 28)).alloc (.cells #[.slice pa P pc,.int .i64 s0,.int .i64 s1,.int .i64 s2,.int .i64 s3,.int .i64 sn,.int .i64 pk] 33)).alloc (.map #[] 0)).alloc (.cells #[.slice ga m gc,.int .i64 out,.int .i64 x0,.int .i64 y0,.int .i64 x1,.int .i64 y1,.bool fu,.bool al,.bool ro,.bool da,.int .i64 rm,.slice pa P pc,.int .i64 s0,.int .i64 s1,.int .i64 s2,.int .i64 s3,.int .i64 sn,.int .i64 pk,.map (some (w.heap.size + 1 + 1 + 1 + 1))] 56)).alloc (.cells #[Value.func (Fn.func 16) #[.pointer (some ⟨w.heap.size + 1 + 1 + 1 + 1 + 1,0,none⟩)] #[],Value.func (Fn.func 17) #[.pointer (some ⟨w.heap.size + 1 + 1 + 1 + 1 + 1,0,none⟩)] #[],Value.func (Fn.func 18) #[.pointer (some ⟨w.heap.size + 1 + 1 + 1 + 1 + 1,0,none⟩)] #[],Value.func (Fn.func 19) #[.pointer (some ⟨w.heap.size + 1 + 1 + 1 + 1 + 1,0,none⟩)] #[],Value.func (Fn.func 20) #[.pointer (some ⟨w.heap.size + 1 + 1 + 1 + 1 + 1,0,none⟩)] #[],Value.func (Fn.func 21) #[.pointer (some ⟨w.heap.size + 1 + 1 + 1 + 1 + 1,0,none⟩)] #[]] 29)) (w.heap.size + 1 + 1 + 1 + 1 + 1) [.slice ga m gc,.int .i64 out,.int .i64 x0,.int .i64 y0,.int .i64 x1,.int .i64 y1,.bool fu,.bool al,.bool ro,.bool da,.int .i64 rm,.slice pa P pc,.int .i64 s0,.int .i64 s1,.int .i64 s2,.int .i64 s3,.int .i64 sn,.int .i64 pk,.map (some (w.heap.size + 1 + 1 + 1 + 1))] := by
    have h := (Box.new (((((w.alloc (.cells #[.slice ga m gc,.int .i64 out] 24)).alloc (.cells #[.int .i64 x0,.int .i64 y0,.int .i64 x1,.int .i64 y1] 26)).alloc (.cells #[.bool fu,.bool al,.bool ro,.bool da,.int .i64 rm] 28)).alloc (.cells #[.slice pa P pc,.int .i64 s0,.int .i64 s1,.int .i64 s2,.int .i64 s3,.int .i64 sn,.int .i64 pk] 33)).alloc (.map #[] 0)) [.slice ga m gc,.int .i64 out,.int .i64 x0,.int .i64 y0,.int .i64 x1,.int .i64 y1,.bool fu,.bool al,.bool ro,.bool da,.int .i64 rm,.slice pa P pc,.int .i64 s0,.int .i64 s1,.int .i64 s2,.int .i64 s3,.int .i64 sn,.int .i64 pk,.map (some (w.heap.size + 1 + 1 + 1 + 1))] 56).alloc (.cells #[Value.func (Fn.func 16) #[.pointer (some ⟨w.heap.size + 1 + 1 + 1 + 1 + 1,0,none⟩)] #[],Value.func (Fn.func 17) #[.pointer (some ⟨w.heap.size + 1 + 1 + 1 + 1 + 1,0,none⟩)] #[],Value.func (Fn.func 18) #[.pointer (some ⟨w.heap.size + 1 + 1 + 1 + 1 + 1,0,none⟩)] #[],Value.func (Fn.func 19) #[.pointer (some ⟨w.heap.size + 1 + 1 + 1 + 1 + 1,0,none⟩)] #[],Value.func (Fn.func 20) #[.pointer (some ⟨w.heap.size + 1 + 1 + 1 + 1 + 1,0,none⟩)] #[],Value.func (Fn.func 21) #[.pointer (some ⟨w.heap.size + 1 + 1 + 1 + 1 + 1,0,none⟩)] #[]] 29)
    rw [hszs.2.1] at h
    exact h
  have hf1 : Box (((((((w.alloc (.cells #[.slice ga m gc,.int .i64 out] 24)).alloc (.cells #[.int .i64 x0,.int .i64 y0,.int .i64 x1,.int .i64 y1] 26)).alloc (.cells #[.bool fu,.bool al,.bool ro,.bool da,.int .i64 rm] 28)).alloc (.cells #[.slice pa P pc,.int .i64 s0,.int .i64 s1,.int .i64 s2,.int .i64 s3,.int .i64 sn,.int .i64 pk] 33)).alloc (.map #[] 0)).alloc (.cells #[.slice ga m gc,.int .i64 out,.int .i64 x0,.int .i64 y0,.int .i64 x1,.int .i64 y1,.bool fu,.bool al,.bool ro,.bool da,.int .i64 rm,.slice pa P pc,.int .i64 s0,.int .i64 s1,.int .i64 s2,.int .i64 s3,.int .i64 sn,.int .i64 pk,.map (some (w.heap.size + 1 + 1 + 1 + 1))] 56)).alloc (.cells #[Value.func (Fn.func 16) #[.pointer (some ⟨w.heap.size + 1 + 1 + 1 + 1 + 1,0,none⟩)] #[],Value.func (Fn.func 17) #[.pointer (some ⟨w.heap.size + 1 + 1 + 1 + 1 + 1,0,none⟩)] #[],Value.func (Fn.func 18) #[.pointer (some ⟨w.heap.size + 1 + 1 + 1 + 1 + 1,0,none⟩)] #[],Value.func (Fn.func 19) #[.pointer (some ⟨w.heap.size + 1 + 1 + 1 + 1 + 1,0,none⟩)] #[],Value.func (Fn.func 20) #[.pointer (some ⟨w.heap.size + 1 + 1 + 1 + 1 + 1,0,none⟩)] #[],Value.func (Fn.func 21) #[.pointer (some ⟨w.heap.size + 1 + 1 + 1 + 1 + 1,0,none⟩)] #[]] 29)) (w.heap.size + 1 + 1 + 1 + 1 + 1 + 1) [Value.func (Fn.func 16) #[.pointer (some ⟨w.heap.size + 1 + 1 + 1 + 1 + 1,0,none⟩)] #[],Value.func (Fn.func 17) #[.pointer (some ⟨w.heap.size + 1 + 1 + 1 + 1 + 1,0,none⟩)] #[],Value.func (Fn.func 18) #[.pointer (some ⟨w.heap.size + 1 + 1 + 1 + 1 + 1,0,none⟩)] #[],Value.func (Fn.func 19) #[.pointer (some ⟨w.heap.size + 1 + 1 + 1 + 1 + 1,0,none⟩)] #[],Value.func (Fn.func 20) #[.pointer (some ⟨w.heap.size + 1 + 1 + 1 + 1 + 1,0,none⟩)] #[],Value.func (Fn.func 21) #[.pointer (some ⟨w.heap.size + 1 + 1 + 1 + 1 + 1,0,none⟩)] #[]] := by
    have h := Box.new ((((((w.alloc (.cells #[.slice ga m gc,.int .i64 out] 24)).alloc (.cells #[.int .i64 x0,.int .i64 y0,.int .i64 x1,.int .i64 y1] 26)).alloc (.cells #[.bool fu,.bool al,.bool ro,.bool da,.int .i64 rm] 28)).alloc (.cells #[.slice pa P pc,.int .i64 s0,.int .i64 s1,.int .i64 s2,.int .i64 s3,.int .i64 sn,.int .i64 pk] 33)).alloc (.map #[] 0)).alloc (.cells #[.slice ga m gc,.int .i64 out,.int .i64 x0,.int .i64 y0,.int .i64 x1,.int .i64 y1,.bool fu,.bool al,.bool ro,.bool da,.int .i64 rm,.slice pa P pc,.int .i64 s0,.int .i64 s1,.int .i64 s2,.int .i64 s3,.int .i64 sn,.int .i64 pk,.map (some (w.heap.size + 1 + 1 + 1 + 1))] 56)) [Value.func (Fn.func 16) #[.pointer (some ⟨w.heap.size + 1 + 1 + 1 + 1 + 1,0,none⟩)] #[],Value.func (Fn.func 17) #[.pointer (some ⟨w.heap.size + 1 + 1 + 1 + 1 + 1,0,none⟩)] #[],Value.func (Fn.func 18) #[.pointer (some ⟨w.heap.size + 1 + 1 + 1 + 1 + 1,0,none⟩)] #[],Value.func (Fn.func 19) #[.pointer (some ⟨w.heap.size + 1 + 1 + 1 + 1 + 1,0,none⟩)] #[],Value.func (Fn.func 20) #[.pointer (some ⟨w.heap.size + 1 + 1 + 1 + 1 + 1,0,none⟩)] #[],Value.func (Fn.func 21) #[.pointer (some ⟨w.heap.size + 1 + 1 + 1 + 1 + 1,0,none⟩)] #[]] 29
    rw [hszs.2.2] at h
    exact h
  clear hszs b4 b5 b6
  generalize (((((((w.alloc (.cells #[.slice ga m gc,.int .i64 out] 24)).alloc (.cells #[.int .i64 x0,.int .i64 y0,.int .i64 x1,.int .i64 y1] 26)).alloc (.cells #[.bool fu,.bool al,.bool ro,.bool da,.int .i64 rm] 28)).alloc (.cells #[.slice pa P pc,.int .i64 s0,.int .i64 s1,.int .i64 s2,.int .i64 s3,.int .i64 sn,.int .i64 pk] 33)).alloc (.map #[] 0)).alloc (.cells #[.slice ga m gc,.int .i64 out,.int .i64 x0,.int .i64 y0,.int .i64 x1,.int .i64 y1,.bool fu,.bool al,.bool ro,.bool da,.int .i64 rm,.slice pa P pc,.int .i64 s0,.int .i64 s1,.int .i64 s2,.int .i64 s3,.int .i64 sn,.int .i64 pk,.map (some (w.heap.size + 1 + 1 + 1 + 1))] 56)).alloc (.cells #[Value.func (Fn.func 16) #[.pointer (some ⟨w.heap.size + 1 + 1 + 1 + 1 + 1,0,none⟩)] #[],Value.func (Fn.func 17) #[.pointer (some ⟨w.heap.size + 1 + 1 + 1 + 1 + 1,0,none⟩)] #[],Value.func (Fn.func 18) #[.pointer (some ⟨w.heap.size + 1 + 1 + 1 + 1 + 1,0,none⟩)] #[],Value.func (Fn.func 19) #[.pointer (some ⟨w.heap.size + 1 + 1 + 1 + 1 + 1,0,none⟩)] #[],Value.func (Fn.func 20) #[.pointer (some ⟨w.heap.size + 1 + 1 + 1 + 1 + 1,0,none⟩)] #[],Value.func (Fn.func 21) #[.pointer (some ⟨w.heap.size + 1 + 1 + 1 + 1 + 1,0,none⟩)] #[]] 29)) = W7 at *
  obtain ⟨mb,hmb⟩ : ∃ z,z = w.heap.size + 1 + 1 + 1 + 1 := ⟨_,rfl⟩
  rw [← hmb] at hm1 hq1 hf1 ⊢
  have hmw : w.heap.size ≤ mb := by omega
  clear hmb
  have HQ : Hid (QM B (mb + 1) mb (.slice ga nds.length gc) nds out ⟨x0,y0,x1,y1⟩ ⟨fu,al,ro,da,rm⟩ (.slice pa ps.length pc) ⟨ps,⟨s0,s1,s2,s3⟩,sn,pk⟩ W7 ∧ MapI W7 mb 1000 0 (fun _ => none) ∧ Below w.heap.size w W7 ∧ w.heap.size ≤ mb ∧ mb + 1 + 1 < W7.heap.size) := by
    rw [HP.out.1,HP.out.2] at hq1
    have h1 := HALL.out
    exact ⟨⟨hq1,h1.1.below b7 h1.2.2.1,h1.2.1.below b7 h1.2.2.1,by have := h1.2.2.1; omega,by have := h1.2.2.1; omega,by omega,hm1.lt⟩,hm1,b7,hmw,hf1.lt⟩
  have HF : Hid (Box W7 (mb + 1 + 1) [Value.func (Fn.func 16) #[.pointer (some ⟨mb + 1,0,none⟩)] #[],Value.func (Fn.func 17) #[.pointer (some ⟨mb + 1,0,none⟩)] #[],Value.func (Fn.func 18) #[.pointer (some ⟨mb + 1,0,none⟩)] #[],Value.func (Fn.func 19) #[.pointer (some ⟨mb + 1,0,none⟩)] #[],Value.func (Fn.func 20) #[.pointer (some ⟨mb + 1,0,none⟩)] #[],Value.func (Fn.func 21) #[.pointer (some ⟨mb + 1,0,none⟩)] #[]]) := hf1
  have f0 := hf1.cell 0 rfl
  have f1 := hf1.cell 1 rfl
  have f2 := hf1.cell 2 rfl
  have f3 := hf1.cell 3 rfl
  have f4 := hf1.cell 4 rfl
  have f5 := hf1.cell 5 rfl
  clear hm1 hq1 hf1 b7
  refine wp_loop_rounds 7 ?_
  rw [rounds_succ]
  go_wp2_with fail
  obtain ⟨c1,hc1⟩ : ∃ b,b = ck1 nds out ps := ⟨_,rfl⟩
  have HC1 : Hid (c1 = ck1 nds out ps) := hc1
  obtain ⟨c2,hc2⟩ : ∃ b,b = ck2 nds ps := ⟨_,rfl⟩
  have HC2 : Hid (c2 = ck2 nds ps) := hc2
  obtain ⟨c3,hc3⟩ : ∃ b,b = ck3 nds out ps := ⟨_,rfl⟩
  have HC3 : Hid (c3 = ck3 nds out ps) := hc3
  obtain ⟨c4,hc4⟩ : ∃ b,b = ck4 nds out ⟨x0,y0,x1,y1⟩ ⟨ps,⟨s0,s1,s2,s3⟩,sn,pk⟩ := ⟨_,rfl⟩
  have HC4 : Hid (c4 = ck4 nds out ⟨x0,y0,x1,y1⟩ ⟨ps,⟨s0,s1,s2,s3⟩,sn,pk⟩) := hc4
  obtain ⟨c5,hc5⟩ : ∃ b,b = ck5 nds al ⟨ps,⟨s0,s1,s2,s3⟩,sn,pk⟩ := ⟨_,rfl⟩
  have HC5 : Hid (c5 = ck5 nds al ⟨ps,⟨s0,s1,s2,s3⟩,sn,pk⟩) := hc5
  obtain ⟨c6,hc6⟩ : ∃ b,b = ck6 al sn.toNat ⟨ps,⟨s0,s1,s2,s3⟩,sn,pk⟩ := ⟨_,rfl⟩
  have HC6 : Hid (c6 = ck6 al sn.toNat ⟨ps,⟨s0,s1,s2,s3⟩,sn,pk⟩) := hc6
  have HRR : Hid (R = (c1 && (c2 && (c3 && (c4 && (c5 && c6)))))) := by
    have : R = (c1 && (c2 && (c3 && (c4 && (c5 && c6))))) := by rw [HR.out,hc1,hc2,hc3,hc4,hc5,hc6]; rfl
    exact this
  clear hc1 hc2 hc3 hc4 hc5 hc6
  have hn := qnodes_c W7 HQ.out.1 HQ.out.2.1 HALL.out.2.2.2.1 HALL.out.2.2.2.2.few HALL.out.2.2.2.2.pairs (fun y hy => (HALL.out.2.2.2.2.ok y hy).1) HALL.out.2.2.2.2.nodes
  dsimp only at hn
  rw [← HC1.out] at hn
  refine hn.mono ?_; rintro e w1 ⟨rfl,hkx,hmap⟩
  clear hn
  cases c1 with
  | false =>
    have HE : Hid (R = false) := by
      have : R = false := by rw [HRR.out]; rfl
      exact this
    go_wp2_with fail
    go_step3
    refine And.intro (a := (0 : Nat) = 0) rfl ?_
    go_wp2_with fail
    rw [Exit.noGoto_ret]
    go_ret
    exact ⟨by rw [HE.out]; rfl,HQ.out.2.2.1.trans (hkx.below HQ.out.2.2.1.size HQ.out.2.2.2.1)⟩
  | true =>
    have HQ1 : Hid (QM B (mb + 1) mb (.slice ga nds.length gc) nds out ⟨x0,y0,x1,y1⟩ ⟨fu,al,ro,da,rm⟩ (.slice pa ps.length pc) ⟨ps,⟨s0,s1,s2,s3⟩,sn,pk⟩ w1 ∧ MapI w1 mb 1000 1000 (mapOf (prs ps 0)) ∧ Below w.heap.size w w1 ∧ Box w1 (mb + 1 + 1) [Value.func (Fn.func 16) #[.pointer (some ⟨mb + 1,0,none⟩)] #[],Value.func (Fn.func 17) #[.pointer (some ⟨mb + 1,0,none⟩)] #[],Value.func (Fn.func 18) #[.pointer (some ⟨mb + 1,0,none⟩)] #[],Value.func (Fn.func 19) #[.pointer (some ⟨mb + 1,0,none⟩)] #[],Value.func (Fn.func 20) #[.pointer (some ⟨mb + 1,0,none⟩)] #[],Value.func (Fn.func 21) #[.pointer (some ⟨mb + 1,0,none⟩)] #[]]) := ⟨HQ.out.1.kpx hkx (Nat.le_refl _),hmap rfl,HQ.out.2.2.1.trans (hkx.below HQ.out.2.2.1.size HQ.out.2.2.2.1),HF.out.of_block (hkx.block _ HQ.out.2.2.2.2 (by omega))⟩
    clear hkx hmap f0 f1 f2 f3 f4 f5
    have g0 := HQ1.out.2.2.2.cell 0 rfl
    have g1 := HQ1.out.2.2.2.cell 1 rfl
    have g2 := HQ1.out.2.2.2.cell 2 rfl
    have g3 := HQ1.out.2.2.2.cell 3 rfl
    have g4 := HQ1.out.2.2.2.cell 4 rfl
    have g5 := HQ1.out.2.2.2.cell 5 rfl
    go_wp2_with fail
    rw [rounds_succ]
    go_wp2_with fail
    have hn := qgroups_c w1 HQ1.out.1 (mapOf (prs ps 0)) HQ1.out.2.1 HALL.out.2.2.2.1 HALL.out.2.2.2.2.few (fun y hy => (HALL.out.2.2.2.2.ok y hy).1) HALL.out.2.2.2.2.nodes (fun k v h => mapOf_lt h)
    change Calls _ _ _ _ (PPost w1 (.bool (ck2 nds ps))) at hn
    try dsimp only at hn
    rw [← HC2.out] at hn
    refine hn.mono ?_; rintro e w2 ⟨rfl,hb2⟩
    clear hn
    cases c2 with
    | false =>
      have HE : Hid (R = false) := by
        have : R = false := by rw [HRR.out]; rfl
        exact this
      go_wp2_with fail
      go_step3
      refine And.intro (a := (0 : Nat) = 0) rfl ?_
      go_wp2_with fail
      rw [Exit.noGoto_ret]
      go_ret
      exact ⟨by rw [HE.out]; rfl,HQ1.out.2.2.1.trans (hb2.mono HQ1.out.2.2.1.size)⟩
    | true =>
      have HQ2 : Hid (QM B (mb + 1) mb (.slice ga nds.length gc) nds out ⟨x0,y0,x1,y1⟩ ⟨fu,al,ro,da,rm⟩ (.slice pa ps.length pc) ⟨ps,⟨s0,s1,s2,s3⟩,sn,pk⟩ w2 ∧ MapI w2 mb 1000 1000 (mapOf (prs ps 0)) ∧ Below w.heap.size w w2 ∧ Box w2 (mb + 1 + 1) [Value.func (Fn.func 16) #[.pointer (some ⟨mb + 1,0,none⟩)] #[],Value.func (Fn.func 17) #[.pointer (some ⟨mb + 1,0,none⟩)] #[],Value.func (Fn.func 18) #[.pointer (some ⟨mb + 1,0,none⟩)] #[],Value.func (Fn.func 19) #[.pointer (some ⟨mb + 1,0,none⟩)] #[],Value.func (Fn.func 20) #[.pointer (some ⟨mb + 1,0,none⟩)] #[],Value.func (Fn.func 21) #[.pointer (some ⟨mb + 1,0,none⟩)] #[]]) := ⟨HQ1.out.1.call hb2,HQ1.out.2.1.kept (grown_below hb2) (by simp),HQ1.out.2.2.1.trans (hb2.mono HQ1.out.2.2.1.size),HQ1.out.2.2.2.call hb2⟩
      clear hb2 g0 g1 g2 g3 g4 g5
      have g0 := HQ2.out.2.2.2.cell 0 rfl
      have g1 := HQ2.out.2.2.2.cell 1 rfl
      have g2 := HQ2.out.2.2.2.cell 2 rfl
      have g3 := HQ2.out.2.2.2.cell 3 rfl
      have g4 := HQ2.out.2.2.2.cell 4 rfl
      have g5 := HQ2.out.2.2.2.cell 5 rfl
      go_wp2_with fail
      rw [rounds_succ]
      go_wp2_with fail
      have hn := qlives_c w2 HQ2.out.1 HALL.out.2.2.2.2.grp
      try dsimp only at hn
      rw [← HC3.out] at hn
      refine hn.mono ?_; rintro e w3 ⟨rfl,hb3⟩
      clear hn
      cases c3 with
      | false =>
        have HE : Hid (R = false) := by
          have : R = false := by rw [HRR.out]; rfl
          exact this
        go_wp2_with fail
        go_step3
        refine And.intro (a := (0 : Nat) = 0) rfl ?_
        go_wp2_with fail
        rw [Exit.noGoto_ret]
        go_ret
        exact ⟨by rw [HE.out]; rfl,HQ2.out.2.2.1.trans (hb3.mono HQ2.out.2.2.1.size)⟩
      | true =>
        have HQ3 : Hid (QM B (mb + 1) mb (.slice ga nds.length gc) nds out ⟨x0,y0,x1,y1⟩ ⟨fu,al,ro,da,rm⟩ (.slice pa ps.length pc) ⟨ps,⟨s0,s1,s2,s3⟩,sn,pk⟩ w3 ∧ MapI w3 mb 1000 1000 (mapOf (prs ps 0)) ∧ Below w.heap.size w w3 ∧ Box w3 (mb + 1 + 1) [Value.func (Fn.func 16) #[.pointer (some ⟨mb + 1,0,none⟩)] #[],Value.func (Fn.func 17) #[.pointer (some ⟨mb + 1,0,none⟩)] #[],Value.func (Fn.func 18) #[.pointer (some ⟨mb + 1,0,none⟩)] #[],Value.func (Fn.func 19) #[.pointer (some ⟨mb + 1,0,none⟩)] #[],Value.func (Fn.func 20) #[.pointer (some ⟨mb + 1,0,none⟩)] #[],Value.func (Fn.func 21) #[.pointer (some ⟨mb + 1,0,none⟩)] #[]]) := ⟨HQ2.out.1.call hb3,HQ2.out.2.1.kept (grown_below hb3) (by simp),HQ2.out.2.2.1.trans (hb3.mono HQ2.out.2.2.1.size),HQ2.out.2.2.2.call hb3⟩
        clear hb3 g0 g1 g2 g3 g4 g5
        have g0 := HQ3.out.2.2.2.cell 0 rfl
        have g1 := HQ3.out.2.2.2.cell 1 rfl
        have g2 := HQ3.out.2.2.2.cell 2 rfl
        have g3 := HQ3.out.2.2.2.cell 3 rfl
        have g4 := HQ3.out.2.2.2.cell 4 rfl
        have g5 := HQ3.out.2.2.2.cell 5 rfl
        go_wp2_with fail
        rw [rounds_succ]
        go_wp2_with fail
        have hn := qboxes_c w3 HQ3.out.1 HALL.out.2.2.2.1 HW.out.1 HW.out.2 HALL.out.2.2.2.2.few (fun y hy => (HALL.out.2.2.2.2.ok y hy).1) HALL.out.2.2.2.2.nodes
        try dsimp only at hn
        rw [← HC4.out] at hn
        refine hn.mono ?_; rintro e w4 ⟨rfl,hb4⟩
        clear hn
        cases c4 with
        | false =>
          have HE : Hid (R = false) := by
            have : R = false := by rw [HRR.out]; rfl
            exact this
          go_wp2_with fail
          go_step3
          refine And.intro (a := (0 : Nat) = 0) rfl ?_
          go_wp2_with fail
          rw [Exit.noGoto_ret]
          go_ret
          exact ⟨by rw [HE.out]; rfl,HQ3.out.2.2.1.trans (hb4.mono HQ3.out.2.2.1.size)⟩
        | true =>
          have HQ4 : Hid (QM B (mb + 1) mb (.slice ga nds.length gc) nds out ⟨x0,y0,x1,y1⟩ ⟨fu,al,ro,da,rm⟩ (.slice pa ps.length pc) ⟨ps,⟨s0,s1,s2,s3⟩,sn,pk⟩ w4 ∧ MapI w4 mb 1000 1000 (mapOf (prs ps 0)) ∧ Below w.heap.size w w4 ∧ Box w4 (mb + 1 + 1) [Value.func (Fn.func 16) #[.pointer (some ⟨mb + 1,0,none⟩)] #[],Value.func (Fn.func 17) #[.pointer (some ⟨mb + 1,0,none⟩)] #[],Value.func (Fn.func 18) #[.pointer (some ⟨mb + 1,0,none⟩)] #[],Value.func (Fn.func 19) #[.pointer (some ⟨mb + 1,0,none⟩)] #[],Value.func (Fn.func 20) #[.pointer (some ⟨mb + 1,0,none⟩)] #[],Value.func (Fn.func 21) #[.pointer (some ⟨mb + 1,0,none⟩)] #[]]) := ⟨HQ3.out.1.call hb4,HQ3.out.2.1.kept (grown_below hb4) (by simp),HQ3.out.2.2.1.trans (hb4.mono HQ3.out.2.2.1.size),HQ3.out.2.2.2.call hb4⟩
          clear hb4 g0 g1 g2 g3 g4 g5
          have g0 := HQ4.out.2.2.2.cell 0 rfl
          have g1 := HQ4.out.2.2.2.cell 1 rfl
          have g2 := HQ4.out.2.2.2.cell 2 rfl
          have g3 := HQ4.out.2.2.2.cell 3 rfl
          have g4 := HQ4.out.2.2.2.cell 4 rfl
          have g5 := HQ4.out.2.2.2.cell 5 rfl
          go_wp2_with fail
          rw [rounds_succ]
          go_wp2_with fail
          have hn := qslots_c w4 HQ4.out.1 HALL.out.2.2.2.1 HALL.out.2.2.2.2.few HALL.out.2.2.2.2.ok HALL.out.2.2.2.2.nodes
          try dsimp only at hn
          rw [← HC5.out] at hn
          refine hn.mono ?_; rintro e w5 ⟨rfl,hb5⟩
          clear hn
          cases c5 with
          | false =>
            have HE : Hid (R = false) := by
              have : R = false := by rw [HRR.out]; rfl
              exact this
            go_wp2_with fail
            go_step3
            refine And.intro (a := (0 : Nat) = 0) rfl ?_
            go_wp2_with fail
            rw [Exit.noGoto_ret]
            go_ret
            exact ⟨by rw [HE.out]; rfl,HQ4.out.2.2.1.trans (hb5.mono HQ4.out.2.2.1.size)⟩
          | true =>
            have HQ5 : Hid (QM B (mb + 1) mb (.slice ga nds.length gc) nds out ⟨x0,y0,x1,y1⟩ ⟨fu,al,ro,da,rm⟩ (.slice pa ps.length pc) ⟨ps,⟨s0,s1,s2,s3⟩,sn,pk⟩ w5 ∧ MapI w5 mb 1000 1000 (mapOf (prs ps 0)) ∧ Below w.heap.size w w5 ∧ Box w5 (mb + 1 + 1) [Value.func (Fn.func 16) #[.pointer (some ⟨mb + 1,0,none⟩)] #[],Value.func (Fn.func 17) #[.pointer (some ⟨mb + 1,0,none⟩)] #[],Value.func (Fn.func 18) #[.pointer (some ⟨mb + 1,0,none⟩)] #[],Value.func (Fn.func 19) #[.pointer (some ⟨mb + 1,0,none⟩)] #[],Value.func (Fn.func 20) #[.pointer (some ⟨mb + 1,0,none⟩)] #[],Value.func (Fn.func 21) #[.pointer (some ⟨mb + 1,0,none⟩)] #[]]) := ⟨HQ4.out.1.call hb5,HQ4.out.2.1.kept (grown_below hb5) (by simp),HQ4.out.2.2.1.trans (hb5.mono HQ4.out.2.2.1.size),HQ4.out.2.2.2.call hb5⟩
            clear hb5 g0 g1 g2 g3 g4 g5
            have g0 := HQ5.out.2.2.2.cell 0 rfl
            have g1 := HQ5.out.2.2.2.cell 1 rfl
            have g2 := HQ5.out.2.2.2.cell 2 rfl
            have g3 := HQ5.out.2.2.2.cell 3 rfl
            have g4 := HQ5.out.2.2.2.cell 4 rfl
            have g5 := HQ5.out.2.2.2.cell 5 rfl
            go_wp2_with fail
            rw [rounds_succ]
            go_wp2_with fail
            have hn := qpeak_c w5 HQ5.out.1 HALL.out.2.2.2.2.few HALL.out.2.2.2.2.ok HALL.out.2.2.2.2.slots HALL.out.2.2.2.2.sn
            try dsimp only at hn
            rw [← HC6.out] at hn
            refine hn.mono ?_; rintro e w6 ⟨rfl,hb6⟩
            clear hn
            cases c6 with
            | false =>
              have HE : Hid (R = false) := by
                have : R = false := by rw [HRR.out]; rfl
                exact this
              go_wp2_with fail
              go_step3
              refine And.intro (a := (0 : Nat) = 0) rfl ?_
              go_wp2_with fail
              rw [Exit.noGoto_ret]
              go_ret
              exact ⟨by rw [HE.out]; rfl,HQ5.out.2.2.1.trans (hb6.mono HQ5.out.2.2.1.size)⟩
            | true =>
              have HQ6 : Hid (QM B (mb + 1) mb (.slice ga nds.length gc) nds out ⟨x0,y0,x1,y1⟩ ⟨fu,al,ro,da,rm⟩ (.slice pa ps.length pc) ⟨ps,⟨s0,s1,s2,s3⟩,sn,pk⟩ w6 ∧ MapI w6 mb 1000 1000 (mapOf (prs ps 0)) ∧ Below w.heap.size w w6 ∧ Box w6 (mb + 1 + 1) [Value.func (Fn.func 16) #[.pointer (some ⟨mb + 1,0,none⟩)] #[],Value.func (Fn.func 17) #[.pointer (some ⟨mb + 1,0,none⟩)] #[],Value.func (Fn.func 18) #[.pointer (some ⟨mb + 1,0,none⟩)] #[],Value.func (Fn.func 19) #[.pointer (some ⟨mb + 1,0,none⟩)] #[],Value.func (Fn.func 20) #[.pointer (some ⟨mb + 1,0,none⟩)] #[],Value.func (Fn.func 21) #[.pointer (some ⟨mb + 1,0,none⟩)] #[]]) := ⟨HQ5.out.1.call hb6,HQ5.out.2.1.kept (grown_below hb6) (by simp),HQ5.out.2.2.1.trans (hb6.mono HQ5.out.2.2.1.size),HQ5.out.2.2.2.call hb6⟩
              clear hb6 g0 g1 g2 g3 g4 g5
              have g0 := HQ6.out.2.2.2.cell 0 rfl
              have g1 := HQ6.out.2.2.2.cell 1 rfl
              have g2 := HQ6.out.2.2.2.cell 2 rfl
              have g3 := HQ6.out.2.2.2.cell 3 rfl
              have g4 := HQ6.out.2.2.2.cell 4 rfl
              have g5 := HQ6.out.2.2.2.cell 5 rfl
              have HE : Hid (R = true) := by
                have : R = true := by rw [HRR.out]; rfl
                exact this
              go_wp2_with fail
              rw [rounds_succ]
              go_wp2_with fail
              first | rw [Exit.jump_ret] | skip
              go_ret
              exact ⟨by rw [HE.out]; rfl,HQ6.out.2.2.1⟩
end Go.Proofs.YtaoamkbcegadcaaGreatDoor
