/- Texts joined: Sq. -/
import Derived.Test.YtgodhpampaleeaaGreatDoorM01
open Go.Value renaming int→Y
open Go.IntKind renaming i64→X
set_option maxRecDepth 4000
set_option linter.unusedVariables false
namespace Go.Bx
open Go.RowKit
theorem Box.c2 {W:World} {b:Nat} {v0 v1:Value} (h:Box W b [v0,v1]):W.cell? ⟨b,0,none⟩=some v0∧W.cell? ⟨b,1,none⟩=some v1:=
 ⟨h.cell 0 rfl,h.cell 1 rfl⟩
theorem Box.c3 {W:World} {b:Nat} {v0 v1 v2:Value} (h:Box W b [v0,v1,v2]):W.cell? ⟨b,0,none⟩=some v0∧W.cell? ⟨b,1,none⟩=some v1∧W.cell? ⟨b,2,none⟩=some v2:=
 ⟨h.cell 0 rfl,h.cell 1 rfl,h.cell 2 rfl⟩
theorem Box.c4 {W:World} {b:Nat} {v0 v1 v2 v3:Value} (h:Box W b [v0,v1,v2,v3]):W.cell? ⟨b,0,none⟩=some v0∧W.cell? ⟨b,1,none⟩=some v1∧W.cell? ⟨b,2,none⟩=some v2∧W.cell? ⟨b,3,none⟩=some v3:=
 ⟨h.cell 0 rfl,h.cell 1 rfl,h.cell 2 rfl,h.cell 3 rfl⟩
theorem Box.c5 {W:World} {b:Nat} {v0 v1 v2 v3 v4:Value} (h:Box W b [v0,v1,v2,v3,v4]):W.cell? ⟨b,0,none⟩=some v0∧W.cell? ⟨b,1,none⟩=some v1∧W.cell? ⟨b,2,none⟩=some v2∧W.cell? ⟨b,3,none⟩=some v3∧W.cell? ⟨b,4,none⟩=some v4:=
 ⟨h.cell 0 rfl,h.cell 1 rfl,h.cell 2 rfl,h.cell 3 rfl,h.cell 4 rfl⟩
theorem Box.c6 {W:World} {b:Nat} {v0 v1 v2 v3 v4 v5:Value} (h:Box W b [v0,v1,v2,v3,v4,v5]):W.cell? ⟨b,0,none⟩=some v0∧W.cell? ⟨b,1,none⟩=some v1∧W.cell? ⟨b,2,none⟩=some v2∧W.cell? ⟨b,3,none⟩=some v3∧W.cell? ⟨b,4,none⟩=some v4∧W.cell? ⟨b,5,none⟩=some v5:=
 ⟨h.cell 0 rfl,h.cell 1 rfl,h.cell 2 rfl,h.cell 3 rfl,h.cell 4 rfl,h.cell 5 rfl⟩
theorem Box.c7 {W:World} {b:Nat} {v0 v1 v2 v3 v4 v5 v6:Value} (h:Box W b [v0,v1,v2,v3,v4,v5,v6]):W.cell? ⟨b,0,none⟩=some v0∧W.cell? ⟨b,1,none⟩=some v1∧W.cell? ⟨b,2,none⟩=some v2∧W.cell? ⟨b,3,none⟩=some v3∧W.cell? ⟨b,4,none⟩=some v4∧W.cell? ⟨b,5,none⟩=some v5∧W.cell? ⟨b,6,none⟩=some v6:=
 ⟨h.cell 0 rfl,h.cell 1 rfl,h.cell 2 rfl,h.cell 3 rfl,h.cell 4 rfl,h.cell 5 rfl,h.cell 6 rfl⟩
theorem Box.c8 {W:World} {b:Nat} {v0 v1 v2 v3 v4 v5 v6 v7:Value} (h:Box W b [v0,v1,v2,v3,v4,v5,v6,v7]):W.cell? ⟨b,0,none⟩=some v0∧W.cell? ⟨b,1,none⟩=some v1∧W.cell? ⟨b,2,none⟩=some v2∧W.cell? ⟨b,3,none⟩=some v3∧W.cell? ⟨b,4,none⟩=some v4∧W.cell? ⟨b,5,none⟩=some v5∧W.cell? ⟨b,6,none⟩=some v6∧W.cell? ⟨b,7,none⟩=some v7:=
 ⟨h.cell 0 rfl,h.cell 1 rfl,h.cell 2 rfl,h.cell 3 rfl,h.cell 4 rfl,h.cell 5 rfl,h.cell 6 rfl,h.cell 7 rfl⟩
theorem Box.f2 {W:World} {b:Nat} {cs:List Value} (h:Box W b cs):W.frozen? ⟨b,0,none⟩=false∧W.frozen? ⟨b,1,none⟩=false:=
 ⟨h.frozen 0,h.frozen 1⟩
theorem Box.f3 {W:World} {b:Nat} {cs:List Value} (h:Box W b cs):W.frozen? ⟨b,0,none⟩=false∧W.frozen? ⟨b,1,none⟩=false∧W.frozen? ⟨b,2,none⟩=false:=
 ⟨h.frozen 0,h.frozen 1,h.frozen 2⟩
theorem Box.f4 {W:World} {b:Nat} {cs:List Value} (h:Box W b cs):W.frozen? ⟨b,0,none⟩=false∧W.frozen? ⟨b,1,none⟩=false∧W.frozen? ⟨b,2,none⟩=false∧W.frozen? ⟨b,3,none⟩=false:=
 ⟨h.frozen 0,h.frozen 1,h.frozen 2,h.frozen 3⟩
theorem Box.f5 {W:World} {b:Nat} {cs:List Value} (h:Box W b cs):W.frozen? ⟨b,0,none⟩=false∧W.frozen? ⟨b,1,none⟩=false∧W.frozen? ⟨b,2,none⟩=false∧W.frozen? ⟨b,3,none⟩=false∧W.frozen? ⟨b,4,none⟩=false:=
 ⟨h.frozen 0,h.frozen 1,h.frozen 2,h.frozen 3,h.frozen 4⟩
theorem Box.f6 {W:World} {b:Nat} {cs:List Value} (h:Box W b cs):W.frozen? ⟨b,0,none⟩=false∧W.frozen? ⟨b,1,none⟩=false∧W.frozen? ⟨b,2,none⟩=false∧W.frozen? ⟨b,3,none⟩=false∧W.frozen? ⟨b,4,none⟩=false∧W.frozen? ⟨b,5,none⟩=false:=
 ⟨h.frozen 0,h.frozen 1,h.frozen 2,h.frozen 3,h.frozen 4,h.frozen 5⟩
theorem Box.f7 {W:World} {b:Nat} {cs:List Value} (h:Box W b cs):W.frozen? ⟨b,0,none⟩=false∧W.frozen? ⟨b,1,none⟩=false∧W.frozen? ⟨b,2,none⟩=false∧W.frozen? ⟨b,3,none⟩=false∧W.frozen? ⟨b,4,none⟩=false∧W.frozen? ⟨b,5,none⟩=false∧W.frozen? ⟨b,6,none⟩=false:=
 ⟨h.frozen 0,h.frozen 1,h.frozen 2,h.frozen 3,h.frozen 4,h.frozen 5,h.frozen 6⟩
theorem Box.f8 {W:World} {b:Nat} {cs:List Value} (h:Box W b cs):W.frozen? ⟨b,0,none⟩=false∧W.frozen? ⟨b,1,none⟩=false∧W.frozen? ⟨b,2,none⟩=false∧W.frozen? ⟨b,3,none⟩=false∧W.frozen? ⟨b,4,none⟩=false∧W.frozen? ⟨b,5,none⟩=false∧W.frozen? ⟨b,6,none⟩=false∧W.frozen? ⟨b,7,none⟩=false:=
 ⟨h.frozen 0,h.frozen 1,h.frozen 2,h.frozen 3,h.frozen 4,h.frozen 5,h.frozen 6,h.frozen 7⟩
theorem kept2 {W:World} {a0 a1:Addr} {v0 v1:Value} (h0:W.cell? a0=some v0) (h1:W.cell? a1=some v1):(∀ s:Kept W.heap.size W,s.w.cell? a0=some v0)∧(∀ s:Kept W.heap.size W,s.w.cell? a1=some v1):=
 ⟨fun s=>s.at h0,fun s=>s.at h1⟩
theorem kept3 {W:World} {a0 a1 a2:Addr} {v0 v1 v2:Value} (h0:W.cell? a0=some v0) (h1:W.cell? a1=some v1) (h2:W.cell? a2=some v2):(∀ s:Kept W.heap.size W,s.w.cell? a0=some v0)∧(∀ s:Kept W.heap.size W,s.w.cell? a1=some v1)∧(∀ s:Kept W.heap.size W,s.w.cell? a2=some v2):=
 ⟨fun s=>s.at h0,fun s=>s.at h1,fun s=>s.at h2⟩
theorem kept4 {W:World} {a0 a1 a2 a3:Addr} {v0 v1 v2 v3:Value} (h0:W.cell? a0=some v0) (h1:W.cell? a1=some v1) (h2:W.cell? a2=some v2) (h3:W.cell? a3=some v3):(∀ s:Kept W.heap.size W,s.w.cell? a0=some v0)∧(∀ s:Kept W.heap.size W,s.w.cell? a1=some v1)∧(∀ s:Kept W.heap.size W,s.w.cell? a2=some v2)∧(∀ s:Kept W.heap.size W,s.w.cell? a3=some v3):=
 ⟨fun s=>s.at h0,fun s=>s.at h1,fun s=>s.at h2,fun s=>s.at h3⟩
theorem kept5 {W:World} {a0 a1 a2 a3 a4:Addr} {v0 v1 v2 v3 v4:Value} (h0:W.cell? a0=some v0) (h1:W.cell? a1=some v1) (h2:W.cell? a2=some v2) (h3:W.cell? a3=some v3) (h4:W.cell? a4=some v4):(∀ s:Kept W.heap.size W,s.w.cell? a0=some v0)∧(∀ s:Kept W.heap.size W,s.w.cell? a1=some v1)∧(∀ s:Kept W.heap.size W,s.w.cell? a2=some v2)∧(∀ s:Kept W.heap.size W,s.w.cell? a3=some v3)∧(∀ s:Kept W.heap.size W,s.w.cell? a4=some v4):=
 ⟨fun s=>s.at h0,fun s=>s.at h1,fun s=>s.at h2,fun s=>s.at h3,fun s=>s.at h4⟩
theorem kept6 {W:World} {a0 a1 a2 a3 a4 a5:Addr} {v0 v1 v2 v3 v4 v5:Value} (h0:W.cell? a0=some v0) (h1:W.cell? a1=some v1) (h2:W.cell? a2=some v2) (h3:W.cell? a3=some v3) (h4:W.cell? a4=some v4) (h5:W.cell? a5=some v5):(∀ s:Kept W.heap.size W,s.w.cell? a0=some v0)∧(∀ s:Kept W.heap.size W,s.w.cell? a1=some v1)∧(∀ s:Kept W.heap.size W,s.w.cell? a2=some v2)∧(∀ s:Kept W.heap.size W,s.w.cell? a3=some v3)∧(∀ s:Kept W.heap.size W,s.w.cell? a4=some v4)∧(∀ s:Kept W.heap.size W,s.w.cell? a5=some v5):=
 ⟨fun s=>s.at h0,fun s=>s.at h1,fun s=>s.at h2,fun s=>s.at h3,fun s=>s.at h4,fun s=>s.at h5⟩
theorem kept7 {W:World} {a0 a1 a2 a3 a4 a5 a6:Addr} {v0 v1 v2 v3 v4 v5 v6:Value} (h0:W.cell? a0=some v0) (h1:W.cell? a1=some v1) (h2:W.cell? a2=some v2) (h3:W.cell? a3=some v3) (h4:W.cell? a4=some v4) (h5:W.cell? a5=some v5) (h6:W.cell? a6=some v6):(∀ s:Kept W.heap.size W,s.w.cell? a0=some v0)∧(∀ s:Kept W.heap.size W,s.w.cell? a1=some v1)∧(∀ s:Kept W.heap.size W,s.w.cell? a2=some v2)∧(∀ s:Kept W.heap.size W,s.w.cell? a3=some v3)∧(∀ s:Kept W.heap.size W,s.w.cell? a4=some v4)∧(∀ s:Kept W.heap.size W,s.w.cell? a5=some v5)∧(∀ s:Kept W.heap.size W,s.w.cell? a6=some v6):=
 ⟨fun s=>s.at h0,fun s=>s.at h1,fun s=>s.at h2,fun s=>s.at h3,fun s=>s.at h4,fun s=>s.at h5,fun s=>s.at h6⟩
theorem kept8 {W:World} {a0 a1 a2 a3 a4 a5 a6 a7:Addr} {v0 v1 v2 v3 v4 v5 v6 v7:Value} (h0:W.cell? a0=some v0) (h1:W.cell? a1=some v1) (h2:W.cell? a2=some v2) (h3:W.cell? a3=some v3) (h4:W.cell? a4=some v4) (h5:W.cell? a5=some v5) (h6:W.cell? a6=some v6) (h7:W.cell? a7=some v7):(∀ s:Kept W.heap.size W,s.w.cell? a0=some v0)∧(∀ s:Kept W.heap.size W,s.w.cell? a1=some v1)∧(∀ s:Kept W.heap.size W,s.w.cell? a2=some v2)∧(∀ s:Kept W.heap.size W,s.w.cell? a3=some v3)∧(∀ s:Kept W.heap.size W,s.w.cell? a4=some v4)∧(∀ s:Kept W.heap.size W,s.w.cell? a5=some v5)∧(∀ s:Kept W.heap.size W,s.w.cell? a6=some v6)∧(∀ s:Kept W.heap.size W,s.w.cell? a7=some v7):=
 ⟨fun s=>s.at h0,fun s=>s.at h1,fun s=>s.at h2,fun s=>s.at h3,fun s=>s.at h4,fun s=>s.at h5,fun s=>s.at h6,fun s=>s.at h7⟩
abbrev qI (a b c d:Int):List Value:=[Y X a,Y X b,Y X c,Y X d]
abbrev qU (a b c d:Int):List Value:=[.int .u8 a,.int .u8 b,.int .u8 c,.int .u8 d]
abbrev qS (a b c d:Int) (s:Value):List Value:=[Y X a,Y X b,Y X c,Y X d,s]
abbrev zI:List Value:=[Y X 0,Y X 0,Y X 0,Y X 0]
abbrev zS:List Value:=[Y X 0,Y X 0,Y X 0,Y X 0,.slice none 0 0]
abbrev zU:List Value:=[.int .u8 0,.int .u8 0,.int .u8 0,.int .u8 0]
end Go.Bx
theorem Go.RowKit.Hid.o {p:Prop} (h:Go.RowKit.Hid p):p:=h.out
