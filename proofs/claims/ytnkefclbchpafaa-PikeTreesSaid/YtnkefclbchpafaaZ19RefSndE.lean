/-
  TreeSp, RefNdE, RefSndE, put together.
-/
import Derived.Test.YtnkefclbchpafaaZ02TreeP
import Derived.Test.YtnkefclbchpafaaZ05RefLook
import Derived.Test.YtnkefclbchpafaaZ06RefRight

/-
  Trees that may be: plain. Derived from s08.
-/
namespace Go.Proofs.Ytnkefclbchpafaa
open Go.RowKit
set_option linter.unusedVariables false
theorem dw (t:Tree):¬SizeOf.sizeOf t≤0:=by
 obtain⟨k,r,a,l,m,x,z,i,n⟩:=t
 simp
theorem nine {w:World} {g:Nat} {t:TypeId} {v0 v1 v2 v3 v4 v5 v6 v7 v8:Value} (h:Cells w g t #[v0,v1,v2,v3,v4,v5,v6,v7,v8]) :
  w.cell? ⟨g,0,none⟩=some v0∧w.cell? ⟨g,1,none⟩=some v1∧w.cell? ⟨g,2,none⟩=some v2∧w.cell? ⟨g,3,none⟩=some v3∧w.cell? ⟨g,4,none⟩=some v4∧w.cell? ⟨g,5,none⟩=some v5∧w.cell? ⟨g,6,none⟩=some v6∧w.cell? ⟨g,7,none⟩=some v7∧w.cell? ⟨g,8,none⟩=some v8 :=
 ⟨h.ak rfl,h.ak rfl,h.ak rfl,h.ak rfl,h.ak rfl,h.ak rfl,h.ak rfl,h.ak rfl,h.ak rfl⟩
def iW (t:Tree):Bool:=decide (t.rs.length=0) && decide (t.am=0)
def countB (t:Tree):Bool:=decide (t.mn=0) && (decide (t.mx=0) && !t.lz)
def gT (t:Tree):Bool:=decide (t.ix=0) && t.nm.toList.isEmpty
def asB (x:Int):Bool:=decide (x=1∨x=2∨x=4∨x=8∨x=16∨x=32)
def nodeB (t:Tree):Bool :=
 if t.kind=1 then iW t && (decide (t.subs.length=0) && (countB t && gT t))
 else if t.kind=2 then decide (t.am=0) && (decide (t.subs.length=0) && (countB t && (gT t && bq t.rs)))
 else if t.kind=3 then decide (t.rs.length=0) && (decide (t.subs.length=0) && (countB t && (gT t && asB t.am)))
 else if t.kind=4∨t.kind=5 then iW t && (decide (2≤t.subs.length) && (countB t && gT t))
 else if t.kind=6 then iW t && (decide (t.subs.length=1) && (gT t && (decide (0≤t.mn∧t.mn≤1000) && decide (t.mx=-1∨t.mn≤t.mx∧t.mx≤1000))))
 else false
theorem nb1 {t:Tree} (h:t.kind=1):nodeB t=(iW t && (decide (t.subs.length=0) && (countB t && gT t))):=by unfold nodeB;rw[if_pos h]
theorem nb2 {t:Tree} (h:t.kind=2):nodeB t=(decide (t.am=0) && (decide (t.subs.length=0) && (countB t && (gT t && bq t.rs)))):=by unfold nodeB;rw[if_neg (by omega),if_pos h]
theorem nb3 {t:Tree} (h:t.kind=3):nodeB t=(decide (t.rs.length=0) && (decide (t.subs.length=0) && (countB t && (gT t && asB t.am)))):=by unfold nodeB;rw[if_neg (by omega),if_neg (by omega),if_pos h]
theorem nb4 {t:Tree} (h:t.kind=4∨t.kind=5):nodeB t=(iW t && (decide (2≤t.subs.length) && (countB t && gT t))):=by unfold nodeB;rw[if_neg (by omega),if_neg (by omega),if_neg (by omega),if_pos h]
theorem nb6 {t:Tree} (h:t.kind=6):nodeB t=(iW t && (decide (t.subs.length=1) && (gT t && (decide (0≤t.mn∧t.mn≤1000) && decide (t.mx=-1∨t.mn≤t.mx∧t.mx≤1000))))):=by unfold nodeB;rw[if_neg (by omega),if_neg (by omega),if_neg (by omega),if_neg (by omega),if_pos h]
theorem nb0 {t:Tree} (h:¬(1≤t.kind∧t.kind≤6)):nodeB t=false:=by unfold nodeB;rw[if_neg (by omega),if_neg (by omega),if_neg (by omega),if_neg (by omega),if_neg (by omega)]
def nmB (s:ByteArray):Prop:=1≤s.size∧s.size≤32∧(∀(i:Nat) (h:i < s.size),fE ((s[i]).toNat:Int)=true)∧∀(h:0 < s.size),¬(48≤((s[0]).toNat:Int)∧((s[0]).toNat:Int)≤57)
def grpF (t:Tree):Prop:=iW t=true∧t.subs.length=1∧countB t=true∧1≤t.ix∧t.ix≤500∧(t.nm.toList.isEmpty=true∨nmB t.nm)
def dL (t:Tree):Prop:=(t.kind≠7∧nodeB t=true)∨(t.kind=7∧grpF t)
mutual
def cntT:Tree→Nat
 | .mk k rs am subs mn mx lz ix nm=>1+cntL subs
def cntL:List Tree→Nat
 | []=>0
 | t::l=>cntT t+cntL l
end
theorem cntT_eq (t:Tree):cntT t=1+cntL t.subs:=by
 obtain⟨k,r,a,l,m,mx,z,i,n⟩:=t
 rw[cntT]
 rfl
theorem cntL_append:∀(l m:List Tree),cntL (l++m)=cntL l+cntL m
 | [],m=>by simp[cntL]
 | t::l,m=>by simp only[List.cons_append,cntL,cntL_append l m];omega
theorem cntL_step {l:List Tree} {k:Nat} {x:Tree} (hx:l[k]?=some x):cntL (l.take (k+1))=cntL (l.take k)+cntT x:=by
 rw[List.take_add_one,hx,cntL_append]
 simp[cntL]
theorem cntL_take (l:List Tree) (k:Nat):cntL (l.take k)≤cntL l:=by
 have:=cntL_append (l.take k) (l.drop k)
 rw[List.take_append_drop] at this
 omega
theorem cntL_len:∀l:List Tree,l.length≤cntL l
 | []=>Nat.zero_le _
 | t::l=>by
  have:=cntL_len l
  have:=cntT_eq t
  simp only[cntL,List.length_cons]
  omega
theorem cntL_mem {l:List Tree} {k:Nat} {x:Tree} (hx:l[k]?=some x):cntT x≤cntL l:=by
 have:=cntL_step hx
 have:=cntL_take l (k+1)
 omega
theorem right_few {rs:List (Int × Int)} (h:bq rs=true):rs.length≤5000:=by
 unfold bq at h
 rw[Bool.and_eq_true] at h
 exact of_decide_eq_true h.1
def OkF (t:Tree) (d:Int):Prop :=
 dL t∧d≤10000∧∀i (h:i < t.subs.length),OkF t.subs[i] (d+1)
termination_by SizeOf.sizeOf t
decreasing_by exact Tree.sub_lt (List.getElem_mem h)
theorem OkF.top {t:Tree} {d:Int} (h:OkF t d):dL t∧d≤10000∧∀(i:Nat) x,t.subs[i]?=some x→OkF x (d+1):=by
 rw[OkF] at h
 exact⟨h.1,h.2.1,fun i x hx=>by obtain⟨hi,rfl⟩:=List.getElem?_eq_some_iff.1 hx;exact h.2.2 i hi⟩
theorem OkF.of {t:Tree} {d:Int} (h1:dL t) (h2:d≤10000) (h3:∀(i:Nat) x,t.subs[i]?=some x→OkF x (d+1)):OkF t d:=by
 rw[OkF]
 exact⟨h1,h2,fun i hi=>h3 i _ (List.getElem?_eq_getElem hi)⟩
def d9 (t:Tree):Prop:=OkF t 1∧cntT t≤200000
end Go.Proofs.Ytnkefclbchpafaa

/-
  The walks of heronref05.Name, bare, assertion and node on every node, exactly. Printed by gen_refnde.py.
-/
namespace Go.Proofs.Ytnkefclbchpafaa
set_option maxRecDepth 100000
set_option maxHeartbeats 16000000
open Go.RowKit
set_option linter.unusedVariables false
def iH (p:Prop) (w:World) (e:Ending) (w':World):Prop:=∃r,e=.returned (.bool r)∧(r=true↔p)∧Upd Nob w w'
def YesSame (p:Prop) (w:World) (e:Ending) (w':World):Prop:=∃r,e=.returned (.bool r)∧(r=true↔p)∧w=w'
theorem aQ {p:Prop} (h:¬p):(false=true↔p):=⟨fun e=>(by cases e),fun q=>(h q).elim⟩
theorem kK {p:Prop} (h:p):(true=true↔p):=⟨fun _=>h,fun _=>rfl⟩
theorem nf1 {t:Tree} (hk:t.kind=1):dL t↔t.rs.length=0∧t.am=0∧t.subs.length=0∧t.mn=0∧t.mx=0∧t.lz=false∧t.ix=0∧t.nm.toList.isEmpty=true:=by
 have h7:t.kind≠7:=by omega
 simp only[dL,nb1 hk,iW,countB,gT,Bool.and_eq_true,decide_eq_true_eq,Bool.not_eq_true']
 constructor
 ·rintro(⟨_,⟨a,b⟩,c,⟨d,e,f⟩,g,h⟩ | ⟨h,_⟩)
  ·exact⟨a,b,c,d,e,f,g,h⟩
  ·exact absurd h h7
 ·rintro⟨a,b,c,d,e,f,g,h⟩
  exact .inl ⟨h7,⟨a,b⟩,c,⟨d,e,f⟩,g,h⟩
theorem nf2 {t:Tree} (hk:t.kind=2):dL t↔bq t.rs=true∧(t.am=0∧t.subs.length=0∧t.mn=0∧t.mx=0∧t.lz=false∧t.ix=0∧t.nm.toList.isEmpty=true):=by
 have h7:t.kind≠7:=by omega
 simp only[dL,nb2 hk,countB,gT,Bool.and_eq_true,decide_eq_true_eq,Bool.not_eq_true']
 constructor
 ·rintro(⟨_,b,c,⟨d,e,f⟩,⟨g,h⟩,r⟩ | ⟨h,_⟩)
  ·exact⟨r,b,c,d,e,f,g,h⟩
  ·exact absurd h h7
 ·rintro⟨r,b,c,d,e,f,g,h⟩
  exact .inl ⟨h7,b,c,⟨d,e,f⟩,⟨g,h⟩,r⟩
theorem nf3 {t:Tree} (hk:t.kind=3):dL t↔asB t.am=true∧(t.rs.length=0∧t.subs.length=0∧t.mn=0∧t.mx=0∧t.lz=false∧t.ix=0∧t.nm.toList.isEmpty=true):=by
 have h7:t.kind≠7:=by omega
 simp only[dL,nb3 hk,countB,gT,Bool.and_eq_true,decide_eq_true_eq,Bool.not_eq_true']
 constructor
 ·rintro(⟨_,b,c,⟨d,e,f⟩,⟨g,h⟩,r⟩ | ⟨h,_⟩)
  ·exact⟨r,b,c,d,e,f,g,h⟩
  ·exact absurd h h7
 ·rintro⟨r,b,c,d,e,f,g,h⟩
  exact .inl ⟨h7,b,c,⟨d,e,f⟩,⟨g,h⟩,r⟩
theorem nf4 {t:Tree} (hk:t.kind=4∨t.kind=5):dL t↔2≤t.subs.length∧(t.rs.length=0∧t.am=0∧t.mn=0∧t.mx=0∧t.lz=false∧t.ix=0∧t.nm.toList.isEmpty=true):=by
 have h7:t.kind≠7:=by omega
 simp only[dL,nb4 hk,iW,countB,gT,Bool.and_eq_true,decide_eq_true_eq,Bool.not_eq_true']
 constructor
 ·rintro(⟨_,⟨a,b⟩,c,⟨d,e,f⟩,g,h⟩ | ⟨h,_⟩)
  ·exact⟨c,a,b,d,e,f,g,h⟩
  ·exact absurd h h7
 ·rintro⟨c,a,b,d,e,f,g,h⟩
  exact .inl ⟨h7,⟨a,b⟩,c,⟨d,e,f⟩,g,h⟩
theorem nf6 {t:Tree} (hk:t.kind=6):dL t↔t.subs.length=1∧(0≤t.mn∧t.mn≤1000)∧(t.mx=-1∨t.mn≤t.mx∧t.mx≤1000)∧(t.rs.length=0∧t.am=0∧t.ix=0∧t.nm.toList.isEmpty=true):=by
 have h7:t.kind≠7:=by omega
 simp only[dL,nb6 hk,iW,gT,Bool.and_eq_true,decide_eq_true_eq]
 constructor
 ·rintro(⟨_,⟨a,b⟩,c,⟨g,h⟩,d,e⟩ | ⟨h,_⟩)
  ·exact⟨c,d,e,a,b,g,h⟩
  ·exact absurd h h7
 ·rintro⟨c,d,e,a,b,g,h⟩
  exact .inl ⟨h7,⟨a,b⟩,c,⟨g,h⟩,d,e⟩
theorem nf7 {t:Tree} (hk:t.kind=7):dL t↔t.subs.length=1∧(1≤t.ix∧t.ix≤500)∧(t.nm.toList.isEmpty=true∨nmB t.nm)∧(t.rs.length=0∧t.am=0∧t.mn=0∧t.mx=0∧t.lz=false):=by
 simp only[dL,grpF,iW,countB,Bool.and_eq_true,decide_eq_true_eq,Bool.not_eq_true']
 constructor
 ·rintro(⟨h,_⟩ | ⟨_,⟨a,b⟩,c,⟨d,e,f⟩,g,h,i⟩)
  ·exact absurd hk h
  ·exact⟨c,⟨g,h⟩,i,a,b,d,e,f⟩
 ·rintro⟨c,⟨g,h⟩,i,a,b,d,e,f⟩
  exact .inr ⟨hk,⟨a,b⟩,c,⟨d,e,f⟩,g,h,i⟩
theorem nf0 {t:Tree} (hk:¬(1≤t.kind∧t.kind≤7)):¬dL t:=by
 rintro(⟨_,h⟩ | ⟨h,_⟩)
 ·rw[nb0 (by omega)] at h
  cases h
 ·omega
theorem bareX_1 (t:Tree) (w:World) (RA:Option Addr) (rc:Nat) (SA:Option Addr) (sc:Nat) (hrn:t.rs.length≤140737488355328) (hnl:t.subs.length≤140737488355328) :
  Calls Try.prog 76 #[.agg #[.int .i64 t.kind,.slice RA t.rs.length rc,.int .i64 t.am,.slice SA t.subs.length sc,.int .i64 t.mn,.int .i64 t.mx,.bool t.lz,.int .i64 t.ix,.string t.nm],.bool false,.bool false,.bool false,.bool false,.bool false] w (iH (t.rs.length=0∧t.am=0∧t.subs.length=0∧t.mn=0∧t.mx=0∧t.lz=false∧t.ix=0∧t.nm.toList.isEmpty=true) w):=by
 have C0:=Cells.new w 47 #[.int .i64 t.kind,.slice RA t.rs.length rc,.int .i64 t.am,.slice SA t.subs.length sc,.int .i64 t.mn,.int .i64 t.mx,.bool t.lz,.int .i64 t.ix,.string t.nm]
 have hU:=(Upd.refl Nob w).alloc (.cells #[.int .i64 t.kind,.slice RA t.rs.length rc,.int .i64 t.am,.slice SA t.subs.length sc,.int .i64 t.mn,.int .i64 t.mx,.bool t.lz,.int .i64 t.ix,.string t.nm] 47)
 generalize hP:iH (t.rs.length=0∧t.am=0∧t.subs.length=0∧t.mn=0∧t.mx=0∧t.lz=false∧t.ix=0∧t.nm.toList.isEmpty=true) w=P
 have HP:=ah (show ∀r w',(r=true↔t.rs.length=0∧t.am=0∧t.subs.length=0∧t.mn=0∧t.mx=0∧t.lz=false∧t.ix=0∧t.nm.toList.isEmpty=true)→Upd Nob w w'→P (.returned (.bool r)) w' from fun r w' a b=>by rw[←hP];exact⟨r,rfl,a,b⟩)
 clear hP
 have HE:=ah (show ∀x y:Int,¬x=y→(x==y)=false from fun x y h=>by simpa using h)
 go_enter Try.func76,Try.ntmps76
 go_upto_region 1 with fail
 generalize w.alloc (.cells #[.int .i64 t.kind,.slice RA t.rs.length rc,.int .i64 t.am,.slice SA t.subs.length sc,.int .i64 t.mn,.int .i64 t.mx,.bool t.lz,.int .i64 t.ix,.string t.nm] 47)=w2 at *
 have HU:=ah hU
 obtain⟨e0,e1,e2,e3,e4,e5,e6,e7,e8⟩:=nine C0
 clear C0 hU
 by_cases h_r:t.rs.length=0
 case neg =>
  have N:=ah (show ¬(t.rs.length=0∧t.am=0∧t.subs.length=0∧t.mn=0∧t.mx=0∧t.lz=false∧t.ix=0∧t.nm.toList.isEmpty=true) from fun q=>h_r (q.1))
  have f_r:((t.rs.length:Int)==0)=false:=HE.out _ _ (by omega)
  clear h_r
  go_wp2_with fail
  try go_ret
  exact HP.out false _ (aQ N.out) HU.out
 have f_r:((t.rs.length:Int)==0)=true:=by simp[h_r]
 have Y_r:=ah h_r
 clear h_r
 by_cases h_a:t.am=0
 case neg =>
  have N:=ah (show ¬(t.rs.length=0∧t.am=0∧t.subs.length=0∧t.mn=0∧t.mx=0∧t.lz=false∧t.ix=0∧t.nm.toList.isEmpty=true) from fun q=>h_a (q.2.1))
  have f_a:(t.am==0)=false:=HE.out _ _ (by omega)
  clear h_a
  go_wp2_with fail
  try go_ret
  exact HP.out false _ (aQ N.out) HU.out
 have f_a:(t.am==0)=true:=by simp[h_a]
 have Y_a:=ah h_a
 clear h_a
 by_cases h_s:t.subs.length=0
 case neg =>
  have N:=ah (show ¬(t.rs.length=0∧t.am=0∧t.subs.length=0∧t.mn=0∧t.mx=0∧t.lz=false∧t.ix=0∧t.nm.toList.isEmpty=true) from fun q=>h_s (q.2.2.1))
  have f_s:((t.subs.length:Int)==0)=false:=HE.out _ _ (by omega)
  clear h_s
  go_wp2_with fail
  try go_ret
  exact HP.out false _ (aQ N.out) HU.out
 have f_s:((t.subs.length:Int)==0)=true:=by simp[h_s]
 have Y_s:=ah h_s
 clear h_s
 by_cases h_m:t.mn=0
 case neg =>
  have N:=ah (show ¬(t.rs.length=0∧t.am=0∧t.subs.length=0∧t.mn=0∧t.mx=0∧t.lz=false∧t.ix=0∧t.nm.toList.isEmpty=true) from fun q=>h_m (q.2.2.2.1))
  have f_m:(t.mn==0)=false:=HE.out _ _ (by omega)
  clear h_m
  go_wp2_with fail
  try go_ret
  exact HP.out false _ (aQ N.out) HU.out
 have f_m:(t.mn==0)=true:=by simp[h_m]
 have Y_m:=ah h_m
 clear h_m
 by_cases h_x:t.mx=0
 case neg =>
  have N:=ah (show ¬(t.rs.length=0∧t.am=0∧t.subs.length=0∧t.mn=0∧t.mx=0∧t.lz=false∧t.ix=0∧t.nm.toList.isEmpty=true) from fun q=>h_x (q.2.2.2.2.1))
  have f_x:(t.mx==0)=false:=HE.out _ _ (by omega)
  clear h_x
  go_wp2_with fail
  try go_ret
  exact HP.out false _ (aQ N.out) HU.out
 have f_x:(t.mx==0)=true:=by simp[h_x]
 have Y_x:=ah h_x
 clear h_x
 rcases hz:t.lz with _ | _
 case true =>
  have N:=ah (show ¬(t.rs.length=0∧t.am=0∧t.subs.length=0∧t.mn=0∧t.mx=0∧t.lz=false∧t.ix=0∧t.nm.toList.isEmpty=true) from fun q=>by have:=q.2.2.2.2.2.1;rw[hz] at this;cases this)
  go_wp2_with fail
  try go_ret
  exact HP.out false _ (aQ N.out) HU.out
 have Y_z:=ah hz
 by_cases h_i:t.ix=0
 case neg =>
  have N:=ah (show ¬(t.rs.length=0∧t.am=0∧t.subs.length=0∧t.mn=0∧t.mx=0∧t.lz=false∧t.ix=0∧t.nm.toList.isEmpty=true) from fun q=>h_i (q.2.2.2.2.2.2.1))
  have f_i:(t.ix==0)=false:=HE.out _ _ (by omega)
  clear h_i
  go_wp2_with fail
  try go_ret
  exact HP.out false _ (aQ N.out) HU.out
 have f_i:(t.ix==0)=true:=by simp[h_i]
 have Y_i:=ah h_i
 clear h_i
 rcases hn:t.nm.toList.isEmpty with _ | _
 case false =>
  have N:=ah (show ¬(t.rs.length=0∧t.am=0∧t.subs.length=0∧t.mn=0∧t.mx=0∧t.lz=false∧t.ix=0∧t.nm.toList.isEmpty=true) from fun q=>by have:=q.2.2.2.2.2.2.2;rw[hn] at this;cases this)
  go_wp2_with fail
  try go_ret
  exact HP.out false _ (aQ N.out) HU.out
 have Y_n:=ah hn
 go_wp2_with fail
 try go_ret
 exact HP.out true _ (kK ⟨Y_r.out,Y_a.out,Y_s.out,Y_m.out,Y_x.out,Y_z.out,Y_i.out,Y_n.out⟩) HU.out
theorem bareX_2 (t:Tree) (w:World) (RA:Option Addr) (rc:Nat) (SA:Option Addr) (sc:Nat) (hrn:t.rs.length≤140737488355328) (hnl:t.subs.length≤140737488355328) :
  Calls Try.prog 76 #[.agg #[.int .i64 t.kind,.slice RA t.rs.length rc,.int .i64 t.am,.slice SA t.subs.length sc,.int .i64 t.mn,.int .i64 t.mx,.bool t.lz,.int .i64 t.ix,.string t.nm],.bool true,.bool false,.bool false,.bool false,.bool false] w (iH (t.am=0∧t.subs.length=0∧t.mn=0∧t.mx=0∧t.lz=false∧t.ix=0∧t.nm.toList.isEmpty=true) w):=by
 have C0:=Cells.new w 47 #[.int .i64 t.kind,.slice RA t.rs.length rc,.int .i64 t.am,.slice SA t.subs.length sc,.int .i64 t.mn,.int .i64 t.mx,.bool t.lz,.int .i64 t.ix,.string t.nm]
 have hU:=(Upd.refl Nob w).alloc (.cells #[.int .i64 t.kind,.slice RA t.rs.length rc,.int .i64 t.am,.slice SA t.subs.length sc,.int .i64 t.mn,.int .i64 t.mx,.bool t.lz,.int .i64 t.ix,.string t.nm] 47)
 generalize hP:iH (t.am=0∧t.subs.length=0∧t.mn=0∧t.mx=0∧t.lz=false∧t.ix=0∧t.nm.toList.isEmpty=true) w=P
 have HP:=ah (show ∀r w',(r=true↔t.am=0∧t.subs.length=0∧t.mn=0∧t.mx=0∧t.lz=false∧t.ix=0∧t.nm.toList.isEmpty=true)→Upd Nob w w'→P (.returned (.bool r)) w' from fun r w' a b=>by rw[←hP];exact⟨r,rfl,a,b⟩)
 clear hP
 have HE:=ah (show ∀x y:Int,¬x=y→(x==y)=false from fun x y h=>by simpa using h)
 go_enter Try.func76,Try.ntmps76
 go_upto_region 1 with fail
 generalize w.alloc (.cells #[.int .i64 t.kind,.slice RA t.rs.length rc,.int .i64 t.am,.slice SA t.subs.length sc,.int .i64 t.mn,.int .i64 t.mx,.bool t.lz,.int .i64 t.ix,.string t.nm] 47)=w2 at *
 have HU:=ah hU
 obtain⟨e0,e1,e2,e3,e4,e5,e6,e7,e8⟩:=nine C0
 clear C0 hU
 by_cases h_a:t.am=0
 case neg =>
  have N:=ah (show ¬(t.am=0∧t.subs.length=0∧t.mn=0∧t.mx=0∧t.lz=false∧t.ix=0∧t.nm.toList.isEmpty=true) from fun q=>h_a (q.1))
  have f_a:(t.am==0)=false:=HE.out _ _ (by omega)
  clear h_a
  go_wp2_with fail
  try go_ret
  exact HP.out false _ (aQ N.out) HU.out
 have f_a:(t.am==0)=true:=by simp[h_a]
 have Y_a:=ah h_a
 clear h_a
 by_cases h_s:t.subs.length=0
 case neg =>
  have N:=ah (show ¬(t.am=0∧t.subs.length=0∧t.mn=0∧t.mx=0∧t.lz=false∧t.ix=0∧t.nm.toList.isEmpty=true) from fun q=>h_s (q.2.1))
  have f_s:((t.subs.length:Int)==0)=false:=HE.out _ _ (by omega)
  clear h_s
  go_wp2_with fail
  try go_ret
  exact HP.out false _ (aQ N.out) HU.out
 have f_s:((t.subs.length:Int)==0)=true:=by simp[h_s]
 have Y_s:=ah h_s
 clear h_s
 by_cases h_m:t.mn=0
 case neg =>
  have N:=ah (show ¬(t.am=0∧t.subs.length=0∧t.mn=0∧t.mx=0∧t.lz=false∧t.ix=0∧t.nm.toList.isEmpty=true) from fun q=>h_m (q.2.2.1))
  have f_m:(t.mn==0)=false:=HE.out _ _ (by omega)
  clear h_m
  go_wp2_with fail
  try go_ret
  exact HP.out false _ (aQ N.out) HU.out
 have f_m:(t.mn==0)=true:=by simp[h_m]
 have Y_m:=ah h_m
 clear h_m
 by_cases h_x:t.mx=0
 case neg =>
  have N:=ah (show ¬(t.am=0∧t.subs.length=0∧t.mn=0∧t.mx=0∧t.lz=false∧t.ix=0∧t.nm.toList.isEmpty=true) from fun q=>h_x (q.2.2.2.1))
  have f_x:(t.mx==0)=false:=HE.out _ _ (by omega)
  clear h_x
  go_wp2_with fail
  try go_ret
  exact HP.out false _ (aQ N.out) HU.out
 have f_x:(t.mx==0)=true:=by simp[h_x]
 have Y_x:=ah h_x
 clear h_x
 rcases hz:t.lz with _ | _
 case true =>
  have N:=ah (show ¬(t.am=0∧t.subs.length=0∧t.mn=0∧t.mx=0∧t.lz=false∧t.ix=0∧t.nm.toList.isEmpty=true) from fun q=>by have:=q.2.2.2.2.1;rw[hz] at this;cases this)
  go_wp2_with fail
  try go_ret
  exact HP.out false _ (aQ N.out) HU.out
 have Y_z:=ah hz
 by_cases h_i:t.ix=0
 case neg =>
  have N:=ah (show ¬(t.am=0∧t.subs.length=0∧t.mn=0∧t.mx=0∧t.lz=false∧t.ix=0∧t.nm.toList.isEmpty=true) from fun q=>h_i (q.2.2.2.2.2.1))
  have f_i:(t.ix==0)=false:=HE.out _ _ (by omega)
  clear h_i
  go_wp2_with fail
  try go_ret
  exact HP.out false _ (aQ N.out) HU.out
 have f_i:(t.ix==0)=true:=by simp[h_i]
 have Y_i:=ah h_i
 clear h_i
 rcases hn:t.nm.toList.isEmpty with _ | _
 case false =>
  have N:=ah (show ¬(t.am=0∧t.subs.length=0∧t.mn=0∧t.mx=0∧t.lz=false∧t.ix=0∧t.nm.toList.isEmpty=true) from fun q=>by have:=q.2.2.2.2.2.2;rw[hn] at this;cases this)
  go_wp2_with fail
  try go_ret
  exact HP.out false _ (aQ N.out) HU.out
 have Y_n:=ah hn
 go_wp2_with fail
 try go_ret
 exact HP.out true _ (kK ⟨Y_a.out,Y_s.out,Y_m.out,Y_x.out,Y_z.out,Y_i.out,Y_n.out⟩) HU.out
theorem bareX_3 (t:Tree) (w:World) (RA:Option Addr) (rc:Nat) (SA:Option Addr) (sc:Nat) (hrn:t.rs.length≤140737488355328) (hnl:t.subs.length≤140737488355328) :
  Calls Try.prog 76 #[.agg #[.int .i64 t.kind,.slice RA t.rs.length rc,.int .i64 t.am,.slice SA t.subs.length sc,.int .i64 t.mn,.int .i64 t.mx,.bool t.lz,.int .i64 t.ix,.string t.nm],.bool false,.bool true,.bool false,.bool false,.bool false] w (iH (t.rs.length=0∧t.subs.length=0∧t.mn=0∧t.mx=0∧t.lz=false∧t.ix=0∧t.nm.toList.isEmpty=true) w):=by
 have C0:=Cells.new w 47 #[.int .i64 t.kind,.slice RA t.rs.length rc,.int .i64 t.am,.slice SA t.subs.length sc,.int .i64 t.mn,.int .i64 t.mx,.bool t.lz,.int .i64 t.ix,.string t.nm]
 have hU:=(Upd.refl Nob w).alloc (.cells #[.int .i64 t.kind,.slice RA t.rs.length rc,.int .i64 t.am,.slice SA t.subs.length sc,.int .i64 t.mn,.int .i64 t.mx,.bool t.lz,.int .i64 t.ix,.string t.nm] 47)
 generalize hP:iH (t.rs.length=0∧t.subs.length=0∧t.mn=0∧t.mx=0∧t.lz=false∧t.ix=0∧t.nm.toList.isEmpty=true) w=P
 have HP:=ah (show ∀r w',(r=true↔t.rs.length=0∧t.subs.length=0∧t.mn=0∧t.mx=0∧t.lz=false∧t.ix=0∧t.nm.toList.isEmpty=true)→Upd Nob w w'→P (.returned (.bool r)) w' from fun r w' a b=>by rw[←hP];exact⟨r,rfl,a,b⟩)
 clear hP
 have HE:=ah (show ∀x y:Int,¬x=y→(x==y)=false from fun x y h=>by simpa using h)
 go_enter Try.func76,Try.ntmps76
 go_upto_region 1 with fail
 generalize w.alloc (.cells #[.int .i64 t.kind,.slice RA t.rs.length rc,.int .i64 t.am,.slice SA t.subs.length sc,.int .i64 t.mn,.int .i64 t.mx,.bool t.lz,.int .i64 t.ix,.string t.nm] 47)=w2 at *
 have HU:=ah hU
 obtain⟨e0,e1,e2,e3,e4,e5,e6,e7,e8⟩:=nine C0
 clear C0 hU
 by_cases h_r:t.rs.length=0
 case neg =>
  have N:=ah (show ¬(t.rs.length=0∧t.subs.length=0∧t.mn=0∧t.mx=0∧t.lz=false∧t.ix=0∧t.nm.toList.isEmpty=true) from fun q=>h_r (q.1))
  have f_r:((t.rs.length:Int)==0)=false:=HE.out _ _ (by omega)
  clear h_r
  go_wp2_with fail
  try go_ret
  exact HP.out false _ (aQ N.out) HU.out
 have f_r:((t.rs.length:Int)==0)=true:=by simp[h_r]
 have Y_r:=ah h_r
 clear h_r
 by_cases h_s:t.subs.length=0
 case neg =>
  have N:=ah (show ¬(t.rs.length=0∧t.subs.length=0∧t.mn=0∧t.mx=0∧t.lz=false∧t.ix=0∧t.nm.toList.isEmpty=true) from fun q=>h_s (q.2.1))
  have f_s:((t.subs.length:Int)==0)=false:=HE.out _ _ (by omega)
  clear h_s
  go_wp2_with fail
  try go_ret
  exact HP.out false _ (aQ N.out) HU.out
 have f_s:((t.subs.length:Int)==0)=true:=by simp[h_s]
 have Y_s:=ah h_s
 clear h_s
 by_cases h_m:t.mn=0
 case neg =>
  have N:=ah (show ¬(t.rs.length=0∧t.subs.length=0∧t.mn=0∧t.mx=0∧t.lz=false∧t.ix=0∧t.nm.toList.isEmpty=true) from fun q=>h_m (q.2.2.1))
  have f_m:(t.mn==0)=false:=HE.out _ _ (by omega)
  clear h_m
  go_wp2_with fail
  try go_ret
  exact HP.out false _ (aQ N.out) HU.out
 have f_m:(t.mn==0)=true:=by simp[h_m]
 have Y_m:=ah h_m
 clear h_m
 by_cases h_x:t.mx=0
 case neg =>
  have N:=ah (show ¬(t.rs.length=0∧t.subs.length=0∧t.mn=0∧t.mx=0∧t.lz=false∧t.ix=0∧t.nm.toList.isEmpty=true) from fun q=>h_x (q.2.2.2.1))
  have f_x:(t.mx==0)=false:=HE.out _ _ (by omega)
  clear h_x
  go_wp2_with fail
  try go_ret
  exact HP.out false _ (aQ N.out) HU.out
 have f_x:(t.mx==0)=true:=by simp[h_x]
 have Y_x:=ah h_x
 clear h_x
 rcases hz:t.lz with _ | _
 case true =>
  have N:=ah (show ¬(t.rs.length=0∧t.subs.length=0∧t.mn=0∧t.mx=0∧t.lz=false∧t.ix=0∧t.nm.toList.isEmpty=true) from fun q=>by have:=q.2.2.2.2.1;rw[hz] at this;cases this)
  go_wp2_with fail
  try go_ret
  exact HP.out false _ (aQ N.out) HU.out
 have Y_z:=ah hz
 by_cases h_i:t.ix=0
 case neg =>
  have N:=ah (show ¬(t.rs.length=0∧t.subs.length=0∧t.mn=0∧t.mx=0∧t.lz=false∧t.ix=0∧t.nm.toList.isEmpty=true) from fun q=>h_i (q.2.2.2.2.2.1))
  have f_i:(t.ix==0)=false:=HE.out _ _ (by omega)
  clear h_i
  go_wp2_with fail
  try go_ret
  exact HP.out false _ (aQ N.out) HU.out
 have f_i:(t.ix==0)=true:=by simp[h_i]
 have Y_i:=ah h_i
 clear h_i
 rcases hn:t.nm.toList.isEmpty with _ | _
 case false =>
  have N:=ah (show ¬(t.rs.length=0∧t.subs.length=0∧t.mn=0∧t.mx=0∧t.lz=false∧t.ix=0∧t.nm.toList.isEmpty=true) from fun q=>by have:=q.2.2.2.2.2.2;rw[hn] at this;cases this)
  go_wp2_with fail
  try go_ret
  exact HP.out false _ (aQ N.out) HU.out
 have Y_n:=ah hn
 go_wp2_with fail
 try go_ret
 exact HP.out true _ (kK ⟨Y_r.out,Y_s.out,Y_m.out,Y_x.out,Y_z.out,Y_i.out,Y_n.out⟩) HU.out
theorem bareX_4 (t:Tree) (w:World) (RA:Option Addr) (rc:Nat) (SA:Option Addr) (sc:Nat) (hrn:t.rs.length≤140737488355328) (hnl:t.subs.length≤140737488355328) :
  Calls Try.prog 76 #[.agg #[.int .i64 t.kind,.slice RA t.rs.length rc,.int .i64 t.am,.slice SA t.subs.length sc,.int .i64 t.mn,.int .i64 t.mx,.bool t.lz,.int .i64 t.ix,.string t.nm],.bool false,.bool false,.bool true,.bool false,.bool false] w (iH (t.rs.length=0∧t.am=0∧t.mn=0∧t.mx=0∧t.lz=false∧t.ix=0∧t.nm.toList.isEmpty=true) w):=by
 have C0:=Cells.new w 47 #[.int .i64 t.kind,.slice RA t.rs.length rc,.int .i64 t.am,.slice SA t.subs.length sc,.int .i64 t.mn,.int .i64 t.mx,.bool t.lz,.int .i64 t.ix,.string t.nm]
 have hU:=(Upd.refl Nob w).alloc (.cells #[.int .i64 t.kind,.slice RA t.rs.length rc,.int .i64 t.am,.slice SA t.subs.length sc,.int .i64 t.mn,.int .i64 t.mx,.bool t.lz,.int .i64 t.ix,.string t.nm] 47)
 generalize hP:iH (t.rs.length=0∧t.am=0∧t.mn=0∧t.mx=0∧t.lz=false∧t.ix=0∧t.nm.toList.isEmpty=true) w=P
 have HP:=ah (show ∀r w',(r=true↔t.rs.length=0∧t.am=0∧t.mn=0∧t.mx=0∧t.lz=false∧t.ix=0∧t.nm.toList.isEmpty=true)→Upd Nob w w'→P (.returned (.bool r)) w' from fun r w' a b=>by rw[←hP];exact⟨r,rfl,a,b⟩)
 clear hP
 have HE:=ah (show ∀x y:Int,¬x=y→(x==y)=false from fun x y h=>by simpa using h)
 go_enter Try.func76,Try.ntmps76
 go_upto_region 1 with fail
 generalize w.alloc (.cells #[.int .i64 t.kind,.slice RA t.rs.length rc,.int .i64 t.am,.slice SA t.subs.length sc,.int .i64 t.mn,.int .i64 t.mx,.bool t.lz,.int .i64 t.ix,.string t.nm] 47)=w2 at *
 have HU:=ah hU
 obtain⟨e0,e1,e2,e3,e4,e5,e6,e7,e8⟩:=nine C0
 clear C0 hU
 by_cases h_r:t.rs.length=0
 case neg =>
  have N:=ah (show ¬(t.rs.length=0∧t.am=0∧t.mn=0∧t.mx=0∧t.lz=false∧t.ix=0∧t.nm.toList.isEmpty=true) from fun q=>h_r (q.1))
  have f_r:((t.rs.length:Int)==0)=false:=HE.out _ _ (by omega)
  clear h_r
  go_wp2_with fail
  try go_ret
  exact HP.out false _ (aQ N.out) HU.out
 have f_r:((t.rs.length:Int)==0)=true:=by simp[h_r]
 have Y_r:=ah h_r
 clear h_r
 by_cases h_a:t.am=0
 case neg =>
  have N:=ah (show ¬(t.rs.length=0∧t.am=0∧t.mn=0∧t.mx=0∧t.lz=false∧t.ix=0∧t.nm.toList.isEmpty=true) from fun q=>h_a (q.2.1))
  have f_a:(t.am==0)=false:=HE.out _ _ (by omega)
  clear h_a
  go_wp2_with fail
  try go_ret
  exact HP.out false _ (aQ N.out) HU.out
 have f_a:(t.am==0)=true:=by simp[h_a]
 have Y_a:=ah h_a
 clear h_a
 by_cases h_m:t.mn=0
 case neg =>
  have N:=ah (show ¬(t.rs.length=0∧t.am=0∧t.mn=0∧t.mx=0∧t.lz=false∧t.ix=0∧t.nm.toList.isEmpty=true) from fun q=>h_m (q.2.2.1))
  have f_m:(t.mn==0)=false:=HE.out _ _ (by omega)
  clear h_m
  go_wp2_with fail
  try go_ret
  exact HP.out false _ (aQ N.out) HU.out
 have f_m:(t.mn==0)=true:=by simp[h_m]
 have Y_m:=ah h_m
 clear h_m
 by_cases h_x:t.mx=0
 case neg =>
  have N:=ah (show ¬(t.rs.length=0∧t.am=0∧t.mn=0∧t.mx=0∧t.lz=false∧t.ix=0∧t.nm.toList.isEmpty=true) from fun q=>h_x (q.2.2.2.1))
  have f_x:(t.mx==0)=false:=HE.out _ _ (by omega)
  clear h_x
  go_wp2_with fail
  try go_ret
  exact HP.out false _ (aQ N.out) HU.out
 have f_x:(t.mx==0)=true:=by simp[h_x]
 have Y_x:=ah h_x
 clear h_x
 rcases hz:t.lz with _ | _
 case true =>
  have N:=ah (show ¬(t.rs.length=0∧t.am=0∧t.mn=0∧t.mx=0∧t.lz=false∧t.ix=0∧t.nm.toList.isEmpty=true) from fun q=>by have:=q.2.2.2.2.1;rw[hz] at this;cases this)
  go_wp2_with fail
  try go_ret
  exact HP.out false _ (aQ N.out) HU.out
 have Y_z:=ah hz
 by_cases h_i:t.ix=0
 case neg =>
  have N:=ah (show ¬(t.rs.length=0∧t.am=0∧t.mn=0∧t.mx=0∧t.lz=false∧t.ix=0∧t.nm.toList.isEmpty=true) from fun q=>h_i (q.2.2.2.2.2.1))
  have f_i:(t.ix==0)=false:=HE.out _ _ (by omega)
  clear h_i
  go_wp2_with fail
  try go_ret
  exact HP.out false _ (aQ N.out) HU.out
 have f_i:(t.ix==0)=true:=by simp[h_i]
 have Y_i:=ah h_i
 clear h_i
 rcases hn:t.nm.toList.isEmpty with _ | _
 case false =>
  have N:=ah (show ¬(t.rs.length=0∧t.am=0∧t.mn=0∧t.mx=0∧t.lz=false∧t.ix=0∧t.nm.toList.isEmpty=true) from fun q=>by have:=q.2.2.2.2.2.2;rw[hn] at this;cases this)
  go_wp2_with fail
  try go_ret
  exact HP.out false _ (aQ N.out) HU.out
 have Y_n:=ah hn
 go_wp2_with fail
 try go_ret
 exact HP.out true _ (kK ⟨Y_r.out,Y_a.out,Y_m.out,Y_x.out,Y_z.out,Y_i.out,Y_n.out⟩) HU.out
theorem bareX_6 (t:Tree) (w:World) (RA:Option Addr) (rc:Nat) (SA:Option Addr) (sc:Nat) (hrn:t.rs.length≤140737488355328) (hnl:t.subs.length≤140737488355328) :
  Calls Try.prog 76 #[.agg #[.int .i64 t.kind,.slice RA t.rs.length rc,.int .i64 t.am,.slice SA t.subs.length sc,.int .i64 t.mn,.int .i64 t.mx,.bool t.lz,.int .i64 t.ix,.string t.nm],.bool false,.bool false,.bool true,.bool true,.bool false] w (iH (t.rs.length=0∧t.am=0∧t.ix=0∧t.nm.toList.isEmpty=true) w):=by
 have C0:=Cells.new w 47 #[.int .i64 t.kind,.slice RA t.rs.length rc,.int .i64 t.am,.slice SA t.subs.length sc,.int .i64 t.mn,.int .i64 t.mx,.bool t.lz,.int .i64 t.ix,.string t.nm]
 have hU:=(Upd.refl Nob w).alloc (.cells #[.int .i64 t.kind,.slice RA t.rs.length rc,.int .i64 t.am,.slice SA t.subs.length sc,.int .i64 t.mn,.int .i64 t.mx,.bool t.lz,.int .i64 t.ix,.string t.nm] 47)
 generalize hP:iH (t.rs.length=0∧t.am=0∧t.ix=0∧t.nm.toList.isEmpty=true) w=P
 have HP:=ah (show ∀r w',(r=true↔t.rs.length=0∧t.am=0∧t.ix=0∧t.nm.toList.isEmpty=true)→Upd Nob w w'→P (.returned (.bool r)) w' from fun r w' a b=>by rw[←hP];exact⟨r,rfl,a,b⟩)
 clear hP
 have HE:=ah (show ∀x y:Int,¬x=y→(x==y)=false from fun x y h=>by simpa using h)
 go_enter Try.func76,Try.ntmps76
 go_upto_region 1 with fail
 generalize w.alloc (.cells #[.int .i64 t.kind,.slice RA t.rs.length rc,.int .i64 t.am,.slice SA t.subs.length sc,.int .i64 t.mn,.int .i64 t.mx,.bool t.lz,.int .i64 t.ix,.string t.nm] 47)=w2 at *
 have HU:=ah hU
 obtain⟨e0,e1,e2,e3,e4,e5,e6,e7,e8⟩:=nine C0
 clear C0 hU
 by_cases h_r:t.rs.length=0
 case neg =>
  have N:=ah (show ¬(t.rs.length=0∧t.am=0∧t.ix=0∧t.nm.toList.isEmpty=true) from fun q=>h_r (q.1))
  have f_r:((t.rs.length:Int)==0)=false:=HE.out _ _ (by omega)
  clear h_r
  go_wp2_with fail
  try go_ret
  exact HP.out false _ (aQ N.out) HU.out
 have f_r:((t.rs.length:Int)==0)=true:=by simp[h_r]
 have Y_r:=ah h_r
 clear h_r
 by_cases h_a:t.am=0
 case neg =>
  have N:=ah (show ¬(t.rs.length=0∧t.am=0∧t.ix=0∧t.nm.toList.isEmpty=true) from fun q=>h_a (q.2.1))
  have f_a:(t.am==0)=false:=HE.out _ _ (by omega)
  clear h_a
  go_wp2_with fail
  try go_ret
  exact HP.out false _ (aQ N.out) HU.out
 have f_a:(t.am==0)=true:=by simp[h_a]
 have Y_a:=ah h_a
 clear h_a
 by_cases h_i:t.ix=0
 case neg =>
  have N:=ah (show ¬(t.rs.length=0∧t.am=0∧t.ix=0∧t.nm.toList.isEmpty=true) from fun q=>h_i (q.2.2.1))
  have f_i:(t.ix==0)=false:=HE.out _ _ (by omega)
  clear h_i
  go_wp2_with fail
  try go_ret
  exact HP.out false _ (aQ N.out) HU.out
 have f_i:(t.ix==0)=true:=by simp[h_i]
 have Y_i:=ah h_i
 clear h_i
 rcases hn:t.nm.toList.isEmpty with _ | _
 case false =>
  have N:=ah (show ¬(t.rs.length=0∧t.am=0∧t.ix=0∧t.nm.toList.isEmpty=true) from fun q=>by have:=q.2.2.2;rw[hn] at this;cases this)
  go_wp2_with fail
  try go_ret
  exact HP.out false _ (aQ N.out) HU.out
 have Y_n:=ah hn
 go_wp2_with fail
 try go_ret
 exact HP.out true _ (kK ⟨Y_r.out,Y_a.out,Y_i.out,Y_n.out⟩) HU.out
theorem bareX_7 (t:Tree) (w:World) (RA:Option Addr) (rc:Nat) (SA:Option Addr) (sc:Nat) (hrn:t.rs.length≤140737488355328) (hnl:t.subs.length≤140737488355328) :
  Calls Try.prog 76 #[.agg #[.int .i64 t.kind,.slice RA t.rs.length rc,.int .i64 t.am,.slice SA t.subs.length sc,.int .i64 t.mn,.int .i64 t.mx,.bool t.lz,.int .i64 t.ix,.string t.nm],.bool false,.bool false,.bool true,.bool false,.bool true] w (iH (t.rs.length=0∧t.am=0∧t.mn=0∧t.mx=0∧t.lz=false) w):=by
 have C0:=Cells.new w 47 #[.int .i64 t.kind,.slice RA t.rs.length rc,.int .i64 t.am,.slice SA t.subs.length sc,.int .i64 t.mn,.int .i64 t.mx,.bool t.lz,.int .i64 t.ix,.string t.nm]
 have hU:=(Upd.refl Nob w).alloc (.cells #[.int .i64 t.kind,.slice RA t.rs.length rc,.int .i64 t.am,.slice SA t.subs.length sc,.int .i64 t.mn,.int .i64 t.mx,.bool t.lz,.int .i64 t.ix,.string t.nm] 47)
 generalize hP:iH (t.rs.length=0∧t.am=0∧t.mn=0∧t.mx=0∧t.lz=false) w=P
 have HP:=ah (show ∀r w',(r=true↔t.rs.length=0∧t.am=0∧t.mn=0∧t.mx=0∧t.lz=false)→Upd Nob w w'→P (.returned (.bool r)) w' from fun r w' a b=>by rw[←hP];exact⟨r,rfl,a,b⟩)
 clear hP
 have HE:=ah (show ∀x y:Int,¬x=y→(x==y)=false from fun x y h=>by simpa using h)
 go_enter Try.func76,Try.ntmps76
 go_upto_region 1 with fail
 generalize w.alloc (.cells #[.int .i64 t.kind,.slice RA t.rs.length rc,.int .i64 t.am,.slice SA t.subs.length sc,.int .i64 t.mn,.int .i64 t.mx,.bool t.lz,.int .i64 t.ix,.string t.nm] 47)=w2 at *
 have HU:=ah hU
 obtain⟨e0,e1,e2,e3,e4,e5,e6,e7,e8⟩:=nine C0
 clear C0 hU
 by_cases h_r:t.rs.length=0
 case neg =>
  have N:=ah (show ¬(t.rs.length=0∧t.am=0∧t.mn=0∧t.mx=0∧t.lz=false) from fun q=>h_r (q.1))
  have f_r:((t.rs.length:Int)==0)=false:=HE.out _ _ (by omega)
  clear h_r
  go_wp2_with fail
  try go_ret
  exact HP.out false _ (aQ N.out) HU.out
 have f_r:((t.rs.length:Int)==0)=true:=by simp[h_r]
 have Y_r:=ah h_r
 clear h_r
 by_cases h_a:t.am=0
 case neg =>
  have N:=ah (show ¬(t.rs.length=0∧t.am=0∧t.mn=0∧t.mx=0∧t.lz=false) from fun q=>h_a (q.2.1))
  have f_a:(t.am==0)=false:=HE.out _ _ (by omega)
  clear h_a
  go_wp2_with fail
  try go_ret
  exact HP.out false _ (aQ N.out) HU.out
 have f_a:(t.am==0)=true:=by simp[h_a]
 have Y_a:=ah h_a
 clear h_a
 by_cases h_m:t.mn=0
 case neg =>
  have N:=ah (show ¬(t.rs.length=0∧t.am=0∧t.mn=0∧t.mx=0∧t.lz=false) from fun q=>h_m (q.2.2.1))
  have f_m:(t.mn==0)=false:=HE.out _ _ (by omega)
  clear h_m
  go_wp2_with fail
  try go_ret
  exact HP.out false _ (aQ N.out) HU.out
 have f_m:(t.mn==0)=true:=by simp[h_m]
 have Y_m:=ah h_m
 clear h_m
 by_cases h_x:t.mx=0
 case neg =>
  have N:=ah (show ¬(t.rs.length=0∧t.am=0∧t.mn=0∧t.mx=0∧t.lz=false) from fun q=>h_x (q.2.2.2.1))
  have f_x:(t.mx==0)=false:=HE.out _ _ (by omega)
  clear h_x
  go_wp2_with fail
  try go_ret
  exact HP.out false _ (aQ N.out) HU.out
 have f_x:(t.mx==0)=true:=by simp[h_x]
 have Y_x:=ah h_x
 clear h_x
 rcases hz:t.lz with _ | _
 case true =>
  have N:=ah (show ¬(t.rs.length=0∧t.am=0∧t.mn=0∧t.mx=0∧t.lz=false) from fun q=>by have:=q.2.2.2.2;rw[hz] at this;cases this)
  go_wp2_with fail
  try go_ret
  exact HP.out false _ (aQ N.out) HU.out
 have Y_z:=ah hz
 go_wp2_with fail
 try go_ret
 exact HP.out true _ (kK ⟨Y_r.out,Y_a.out,Y_m.out,Y_x.out,Y_z.out⟩) HU.out
theorem refAsX_yes (w:World) (x:Int) (h:asB x=true):Calls Try.prog 77 #[.int .i64 x] w fun e w'=>e=.returned (.bool true)∧w=w':=by
 unfold asB at h
 have h:=of_decide_eq_true h
 rcases h with rfl | rfl | rfl | rfl | rfl | rfl
 ·go_enter Try.func77,Try.ntmps77
  go_wp2_with fail
  go_ret
  exact⟨rfl,rfl⟩
 ·go_enter Try.func77,Try.ntmps77
  go_wp2_with fail
  go_ret
  exact⟨rfl,rfl⟩
 ·go_enter Try.func77,Try.ntmps77
  go_wp2_with fail
  go_ret
  exact⟨rfl,rfl⟩
 ·go_enter Try.func77,Try.ntmps77
  go_wp2_with fail
  go_ret
  exact⟨rfl,rfl⟩
 ·go_enter Try.func77,Try.ntmps77
  go_wp2_with fail
  go_ret
  exact⟨rfl,rfl⟩
 ·go_enter Try.func77,Try.ntmps77
  go_wp2_with fail
  go_ret
  exact⟨rfl,rfl⟩
theorem refAs_no (w:World) (x:Int) (h:asB x=false):Calls Try.prog 77 #[.int .i64 x] w fun e w'=>e=.returned (.bool false)∧w=w':=by
 unfold asB at h
 have h:=of_decide_eq_false h
 have k1:(x==1)=false:=by simp;omega
 have k2:(x==2)=false:=by simp;omega
 have k4:(x==4)=false:=by simp;omega
 have k8:(x==8)=false:=by simp;omega
 have k16:(x==16)=false:=by simp;omega
 have k32:(x==32)=false:=by simp;omega
 clear h
 go_enter Try.func77,Try.ntmps77
 go_wp2_with fail
 try go_ret
 exact⟨rfl,rfl⟩
theorem refName_any (w:World) (s:ByteArray) (hs:s.size≤140737488355328):Calls Try.prog 78 #[.string s] w (YesSame (nmB s) w):=by
 generalize hP:YesSame (nmB s) w=P
 have HP:=ah (show ∀r,(r=true↔nmB s)→P (.returned (.bool r)) w from fun r a=>by rw[←hP];exact⟨r,rfl,a,rfl⟩)
 clear hP
 by_cases h1:s.size < 1
 ·have g1:(s.size:Int) < 1:=by omega
  have N:=ah (show ¬nmB s from fun q=>by have:=q.1;omega)
  clear h1
  go_enter Try.func78,Try.ntmps78
  go_wp2_with fail
  try go_ret
  exact HP.out false (aQ N.out)
 have g1:¬(s.size:Int) < 1:=by omega
 by_cases h2:32 < s.size
 ·have g2:(32:Int) < (s.size:Int):=by omega
  have N:=ah (show ¬nmB s from fun q=>by have:=q.2.1;omega)
  clear h1 h2
  go_enter Try.func78,Try.ntmps78
  go_wp2_with fail
  try go_ret
  exact HP.out false (aQ N.out)
 have g2:¬(32:Int) < (s.size:Int):=by omega
 have HS:=ah (And.intro h1 h2)
 clear h1 h2
 go_enter Try.func78,Try.ntmps78
 go_wp2_with fail
 go_loopg [3,4,5,6] s.size (fun gk v3 v4 v5 v6 wr=>∃k:Nat,k+gk=s.size∧v3=.int .i64 (k:Int)∧(∀(i:Nat) (h:i < s.size),i < k→fE ((s[i]).toNat:Int)=true)∧(∀(h:0 < s.size),0 < k→¬(48≤((s[0]).toNat:Int)∧((s[0]).toNat:Int)≤57))∧w=wr)
 case atStart=>exact⟨0,by omega,rfl,fun i h hi=>by omega,fun h hi=>by omega,rfl⟩
 case round =>
  obtain⟨k,hk,rfl,hA,hB,rfl⟩:=hrel
  have HA:=ah hA
  have HB:=ah hB
  clear hA hB
  by_cases hlt:k < s.size
  ·have g3:(k:Int) < (s.size:Int):=by omega
   have hb:(s[k]).toNat < 256:=(s[k]).toNat_lt
   obtain⟨c,hc⟩:∃c:Int,((s[k]).toNat:Int)=c:=⟨_,rfl⟩
   have hwr:wrap64 ((s[k]).toNat:Int)=((s[k]).toNat:Int):=by unfold wrap64;omega
   have HKK:=ah hk
   clear hk
   have c0:0≤c:=by omega
   have c1:c≤255:=by omega
   have HC:=ah hc
   have HW:=ah (show ∀(hw:fE c=true) (h0:k=0→¬(48≤c∧c≤57)),(∀(i:Nat) (h:i < s.size),i < k+1→fE ((s[i]).toNat:Int)=true)∧(∀(h:0 < s.size),0 < k+1→¬(48≤((s[0]).toNat:Int)∧((s[0]).toNat:Int)≤57)) from fun hw h0=>⟨fun i h hi=>by
    by_cases e:i=k
    ·subst e;rw[HC.out];exact hw
    ·exact HA.out i h (by omega),fun h hi=>by
    by_cases e:k=0
    ·subst e;rw[HC.out];exact h0 rfl
    ·exact HB.out h (by omega)⟩)
   rw[hc] at hwr
   rcases(by omega:(97≤c∧c≤122)∨(65≤c∧c≤90)∨c=95∨(48≤c∧c≤57)∨c < 48∨(57 < c∧c < 65)∨(90 < c∧c < 95)∨c=96∨122 < c) with q | q | q | q | q | q | q | q | q
   ·skip
    have q1:97≤((s[k]).toNat:Int):=by omega
    have q2:((s[k]).toNat:Int)≤122:=by omega
    have q95:((s[k]).toNat==95)=false:=by simp;omega
    have q95':(((s[k]).toNat:Int)==95)=false:=by simp;omega
    have d122:decide (((s[k]).toNat:Int)≤122)=true:=by simp;omega
    have d90:decide (((s[k]).toNat:Int)≤90)=false:=by simp;omega
    have d57:decide (((s[k]).toNat:Int)≤57)=false:=by simp;omega
    have HQ:=ah (HW.out (by simp[fE];omega) (by omega))
    clear q hc c0 c1
    go_wp2_with fail
    have hk:=HKK.out
    go_roundg (s.size - (k+1))
    case measure=>omega
    case rel=>exact⟨k+1,by omega,by go_num,HQ.out.1,HQ.out.2,rfl⟩
   ·skip
    have q1:65≤((s[k]).toNat:Int):=by omega
    have q2:((s[k]).toNat:Int)≤90:=by omega
    have q95:((s[k]).toNat==95)=false:=by simp;omega
    have q95':(((s[k]).toNat:Int)==95)=false:=by simp;omega
    have d122:decide (((s[k]).toNat:Int)≤122)=true:=by simp;omega
    have d90:decide (((s[k]).toNat:Int)≤90)=true:=by simp;omega
    have d57:decide (((s[k]).toNat:Int)≤57)=false:=by simp;omega
    have HQ:=ah (HW.out (by simp[fE];omega) (by omega))
    clear q hc c0 c1
    go_wp2_with fail
    have hk:=HKK.out
    go_roundg (s.size - (k+1))
    case measure=>omega
    case rel=>exact⟨k+1,by omega,by go_num,HQ.out.1,HQ.out.2,rfl⟩
   ·skip
    have q1:95≤((s[k]).toNat:Int):=by omega
    have q2:((s[k]).toNat:Int)≤95:=by omega
    have q3:(s[k]).toNat=95:=by omega
    have q95:((s[k]).toNat==95)=true:=by rw[q3];rfl
    have q95':(((s[k]).toNat:Int)==95)=true:=by simp;omega
    clear q3
    have d122:decide (((s[k]).toNat:Int)≤122)=true:=by simp;omega
    have d90:decide (((s[k]).toNat:Int)≤90)=false:=by simp;omega
    have d57:decide (((s[k]).toNat:Int)≤57)=false:=by simp;omega
    have HQ:=ah (HW.out (by simp[fE];omega) (by omega))
    clear q hc c0 c1
    go_wp2_with fail
    have hk:=HKK.out
    go_roundg (s.size - (k+1))
    case measure=>omega
    case rel=>exact⟨k+1,by omega,by go_num,HQ.out.1,HQ.out.2,rfl⟩
   ·skip
    have q1:48≤((s[k]).toNat:Int):=by omega
    have q2:((s[k]).toNat:Int)≤57:=by omega
    have q95:((s[k]).toNat==95)=false:=by simp;omega
    have q95':(((s[k]).toNat:Int)==95)=false:=by simp;omega
    have d122:decide (((s[k]).toNat:Int)≤122)=true:=by simp;omega
    have d90:decide (((s[k]).toNat:Int)≤90)=true:=by simp;omega
    have d57:decide (((s[k]).toNat:Int)≤57)=true:=by simp;omega
    by_cases hk0:k=0
    ·have k0:((k:Int)==0)=true:=by simp[hk0]
     have N:=ah (show ¬nmB s from fun qq=>by subst hk0;exact qq.2.2.2 hlt ⟨q1,q2⟩)
     clear q hc c0 c1 hk0
     go_wp2_with fail
     try go_ret
     exact HP.out false (aQ N.out)
    ·have k0:((k:Int)==0)=false:=by simp;omega
     have HQ:=ah (HW.out (by simp[fE];omega) (by omega))
     clear q hc c0 c1 hk0
     go_wp2_with fail
     have hk:=HKK.out
     go_roundg (s.size - (k+1))
     case measure=>omega
     case rel=>exact⟨k+1,by omega,by go_num,HQ.out.1,HQ.out.2,rfl⟩
   ·skip
    have q1:0≤((s[k]).toNat:Int):=by omega
    have q2:((s[k]).toNat:Int)≤47:=by omega
    have q95:((s[k]).toNat==95)=false:=by simp;omega
    have q95':(((s[k]).toNat:Int)==95)=false:=by simp;omega
    have d122:decide (((s[k]).toNat:Int)≤122)=true:=by simp;omega
    have d90:decide (((s[k]).toNat:Int)≤90)=true:=by simp;omega
    have d57:decide (((s[k]).toNat:Int)≤57)=true:=by simp;omega
    have N:=ah (show ¬nmB s from fun qq=>by have h:=of_decide_eq_true (show decide _=true from qq.2.2.1 k hlt);omega)
    clear q hc c0 c1
    go_wp2_with fail
    try go_ret
    exact HP.out false (aQ N.out)
   ·skip
    have q1:58≤((s[k]).toNat:Int):=by omega
    have q2:((s[k]).toNat:Int)≤64:=by omega
    have q95:((s[k]).toNat==95)=false:=by simp;omega
    have q95':(((s[k]).toNat:Int)==95)=false:=by simp;omega
    have d122:decide (((s[k]).toNat:Int)≤122)=true:=by simp;omega
    have d90:decide (((s[k]).toNat:Int)≤90)=true:=by simp;omega
    have d57:decide (((s[k]).toNat:Int)≤57)=false:=by simp;omega
    have N:=ah (show ¬nmB s from fun qq=>by have h:=of_decide_eq_true (show decide _=true from qq.2.2.1 k hlt);omega)
    clear q hc c0 c1
    go_wp2_with fail
    try go_ret
    exact HP.out false (aQ N.out)
   ·skip
    have q1:91≤((s[k]).toNat:Int):=by omega
    have q2:((s[k]).toNat:Int)≤94:=by omega
    have q95:((s[k]).toNat==95)=false:=by simp;omega
    have q95':(((s[k]).toNat:Int)==95)=false:=by simp;omega
    have d122:decide (((s[k]).toNat:Int)≤122)=true:=by simp;omega
    have d90:decide (((s[k]).toNat:Int)≤90)=false:=by simp;omega
    have d57:decide (((s[k]).toNat:Int)≤57)=false:=by simp;omega
    have N:=ah (show ¬nmB s from fun qq=>by have h:=of_decide_eq_true (show decide _=true from qq.2.2.1 k hlt);omega)
    clear q hc c0 c1
    go_wp2_with fail
    try go_ret
    exact HP.out false (aQ N.out)
   ·skip
    have q1:96≤((s[k]).toNat:Int):=by omega
    have q2:((s[k]).toNat:Int)≤96:=by omega
    have q3:(s[k]).toNat=96:=by omega
    have q95:((s[k]).toNat==95)=false:=by simp;omega
    have q95':(((s[k]).toNat:Int)==95)=false:=by simp;omega
    clear q3
    have d122:decide (((s[k]).toNat:Int)≤122)=true:=by simp;omega
    have d90:decide (((s[k]).toNat:Int)≤90)=false:=by simp;omega
    have d57:decide (((s[k]).toNat:Int)≤57)=false:=by simp;omega
    have N:=ah (show ¬nmB s from fun qq=>by have h:=of_decide_eq_true (show decide _=true from qq.2.2.1 k hlt);omega)
    clear q hc c0 c1
    go_wp2_with fail
    try go_ret
    exact HP.out false (aQ N.out)
   ·skip
    have q1:123≤((s[k]).toNat:Int):=by omega
    have q2:((s[k]).toNat:Int)≤255:=by omega
    have q95:((s[k]).toNat==95)=false:=by simp;omega
    have q95':(((s[k]).toNat:Int)==95)=false:=by simp;omega
    have d122:decide (((s[k]).toNat:Int)≤122)=false:=by simp;omega
    have d90:decide (((s[k]).toNat:Int)≤90)=false:=by simp;omega
    have d57:decide (((s[k]).toNat:Int)≤57)=false:=by simp;omega
    have N:=ah (show ¬nmB s from fun qq=>by have h:=of_decide_eq_true (show decide _=true from qq.2.2.1 k hlt);omega)
    clear q hc c0 c1
    go_wp2_with fail
    try go_ret
    exact HP.out false (aQ N.out)
  ·have g3:¬(k:Int) < (s.size:Int):=by omega
   have HQ:=ah (show nmB s from⟨by have:=HS.out.1;omega,by have:=HS.out.2;omega,fun i h=>HA.out i h (by omega),fun h=>HB.out h (by omega)⟩)
   clear hk hlt
   go_wp2_with fail
   try go_ret
   exact HP.out true (kK HQ.out)
theorem refNode_any (t:Tree) (w:World) (S:Nat→Prop) (cs:Array Value) (h1:aB w S cs t) :
  Calls Try.prog 58 #[.agg cs] w (iH (dL t) w):=by
 obtain⟨RA,rc,SA,sc,rfl,hr1,ho,hs1⟩:=h1.top
 have C0:=Cells.new w 47 (au t RA rc SA sc)
 have hU:=(Upd.refl Nob w).alloc (.cells (au t RA rc SA sc) 47)
 have HR:=ah (hr1.upd hU (fun _ _=>aj))
 have hnl:=ho.n
 have hrn:=hr1.n
 have hns:=ho.s
 clear h1 hr1 hs1 ho
 unfold au at C0 hU HR
 unfold au
 generalize hP:iH (dL t) w=P
 have HP:=ah (show ∀r w',(r=true↔dL t)→Upd Nob w w'→P (.returned (.bool r)) w' from fun r w' a b=>by rw[←hP];exact⟨r,rfl,a,b⟩)
 clear hP
 go_enter Try.func58,Try.ntmps58
 go_upto_region 1 with fail
 generalize w.alloc (.cells #[.int .i64 t.kind,.slice RA t.rs.length rc,.int .i64 t.am,.slice SA t.subs.length sc,.int .i64 t.mn,.int .i64 t.mx,.bool t.lz,.int .i64 t.ix,.string t.nm] 47)=w2 at *
 have HU:=ah hU
 have HC:=ah C0
 obtain⟨e0,e1,e2,e3,e4,e5,e6,e7,e8⟩:=nine C0
 clear C0 hU
 have HE:=ah (show ∀x y:Int,¬x=y→(x==y)=false from fun x y h=>by simpa using h)
 by_cases hk:t.kind=1
 ·skip
  have k1:(t.kind==1)=true:=by rw[hk];rfl
  have HK:=ah hk
  clear hk
  go_wp2_with (go_at_call 76;refine(bareX_1 t _ RA rc SA sc hrn hnl).mono ?_;rintro e w3 ⟨r,rfl,hq,hU3⟩;have HQ:=ah hq;have HU3:=ah (HU.out.trans hU3 (fun _ _ h=>h));clear hU3 hq)
  try go_ret
  exact HP.out _ _ (HQ.out.trans (nf1 HK.out).symm) HU3.out
 have n1:=hk
 clear hk
 by_cases hk:t.kind=2
 ·skip
  have k1:(t.kind==1)=false:=by rw[hk];rfl
  have k2:(t.kind==2)=true:=by rw[hk];rfl
  have HK:=ah hk
  clear hk
  go_upto_region 6 with(go_at_call 74;refine(ref_right _ _ _ _ _ _ HR.out).mono ?_;rintro e w3 ⟨he,q,hq⟩;subst he;have HU3:=ah (show Upd Nob w w3 by rw[hq];exact HU.out.drewN _);have HC3:=ah (HC.out.upd (show Upd Nob w2 w3 by rw[hq];exact(Upd.refl _ _).drewN _) aj);clear hq e0 e1 e2 e3 e4 e5 e6 e7 e8)
  obtain⟨d0,d1,d2,d3,d4,d5,d6,d7,d8⟩:=nine HC3.out
  obtain⟨v,hv⟩:∃v,bq t.rs=v:=⟨_,rfl⟩
  have HV:=ah hv
  simp only[hv]
  clear hv
  rcases v with _ | _
  ·have N:=ah (show ¬dL t from fun q=>by have:=((nf2 HK.out).1 q).1;rw[HV.out] at this;cases this)
   go_wp2_with fail
   try go_ret
   exact HP.out false _ (aQ N.out) HU3.out
  go_wp2_with (go_at_call 76;refine(bareX_2 t _ RA rc SA sc hrn hnl).mono ?_;rintro e w4 ⟨r,rfl,hq,hU4⟩;have HQ:=ah hq;have HU4:=ah (HU3.out.trans hU4 (fun _ _ h=>h));clear hU4 hq)
  try go_ret
  exact HP.out _ _ (HQ.out.trans ⟨fun h=>(nf2 HK.out).2 ⟨HV.out,h⟩,fun h=>((nf2 HK.out).1 h).2⟩) HU4.out
 have n2:=hk
 clear hk
 by_cases hk:t.kind=3
 ·skip
  have k1:(t.kind==1)=false:=by rw[hk];rfl
  have k2:(t.kind==2)=false:=by rw[hk];rfl
  have k3:(t.kind==3)=true:=by rw[hk];rfl
  have HK:=ah hk
  clear hk
  obtain⟨v,hv⟩:∃v,asB t.am=v:=⟨_,rfl⟩
  have HV:=ah hv
  clear hv
  rcases v with _ | _
  ·have N:=ah (show ¬dL t from fun q=>by have:=((nf3 HK.out).1 q).1;rw[HV.out] at this;cases this)
   go_wp2_with (go_at_call 77;refine(refAs_no _ _ HV.out).mono ?_;rintro e w9 ⟨rfl,rfl⟩)
   try go_ret
   exact HP.out false _ (aQ N.out) HU.out
  go_wp2_with (first | (go_at_call 77;refine(refAsX_yes _ _ HV.out).mono ?_;rintro e w9 ⟨rfl,rfl⟩) | (go_at_call 76;refine(bareX_3 t _ RA rc SA sc hrn hnl).mono ?_;rintro e w3 ⟨r,rfl,hq,hU3⟩;have HQ:=ah hq;have HU3:=ah (HU.out.trans hU3 (fun _ _ h=>h));clear hU3 hq))
  try go_ret
  exact HP.out _ _ (HQ.out.trans ⟨fun h=>(nf3 HK.out).2 ⟨HV.out,h⟩,fun h=>((nf3 HK.out).1 h).2⟩) HU3.out
 have n3:=hk
 clear hk
 by_cases hk:t.kind=4
 ·skip
  have k1:(t.kind==1)=false:=by rw[hk];rfl
  have k2:(t.kind==2)=false:=by rw[hk];rfl
  have k3:(t.kind==3)=false:=by rw[hk];rfl
  have k4:(t.kind==4)=true:=by rw[hk];rfl
  have HK:=ah hk
  clear hk
  by_cases h1:2≤t.subs.length
  case neg =>
   have c1:¬(2:Int)≤(t.subs.length:Int):=by omega
   have N:=ah (show ¬dL t from fun q=>h1 ((nf4 (.inl HK.out)).1 q).1)
   clear h1
   go_wp2_with fail
   try go_ret
   exact HP.out false _ (aQ N.out) HU.out
  have c1:(2:Int)≤(t.subs.length:Int):=by omega
  have H1:=ah h1
  clear h1
  go_wp2_with (go_at_call 76;refine(bareX_4 t _ RA rc SA sc hrn hnl).mono ?_;rintro e w3 ⟨r,rfl,hq,hU3⟩;have HQ:=ah hq;have HU3:=ah (HU.out.trans hU3 (fun _ _ h=>h));clear hU3 hq)
  try go_ret
  exact HP.out _ _ (HQ.out.trans ⟨fun h=>(nf4 (.inl HK.out)).2 ⟨H1.out,h⟩,fun h=>((nf4 (.inl HK.out)).1 h).2⟩) HU3.out
 have n4:=hk
 clear hk
 by_cases hk:t.kind=5
 ·skip
  have k1:(t.kind==1)=false:=by rw[hk];rfl
  have k2:(t.kind==2)=false:=by rw[hk];rfl
  have k3:(t.kind==3)=false:=by rw[hk];rfl
  have k4:(t.kind==4)=false:=by rw[hk];rfl
  have k5:(t.kind==5)=true:=by rw[hk];rfl
  have HK:=ah hk
  clear hk
  by_cases h1:2≤t.subs.length
  case neg =>
   have c1:¬(2:Int)≤(t.subs.length:Int):=by omega
   have N:=ah (show ¬dL t from fun q=>h1 ((nf4 (.inr HK.out)).1 q).1)
   clear h1
   go_wp2_with fail
   try go_ret
   exact HP.out false _ (aQ N.out) HU.out
  have c1:(2:Int)≤(t.subs.length:Int):=by omega
  have H1:=ah h1
  clear h1
  go_wp2_with (go_at_call 76;refine(bareX_4 t _ RA rc SA sc hrn hnl).mono ?_;rintro e w3 ⟨r,rfl,hq,hU3⟩;have HQ:=ah hq;have HU3:=ah (HU.out.trans hU3 (fun _ _ h=>h));clear hU3 hq)
  try go_ret
  exact HP.out _ _ (HQ.out.trans ⟨fun h=>(nf4 (.inr HK.out)).2 ⟨H1.out,h⟩,fun h=>((nf4 (.inr HK.out)).1 h).2⟩) HU3.out
 have n5:=hk
 clear hk
 by_cases hk:t.kind=6
 ·skip
  have k1:(t.kind==1)=false:=by rw[hk];rfl
  have k2:(t.kind==2)=false:=by rw[hk];rfl
  have k3:(t.kind==3)=false:=by rw[hk];rfl
  have k4:(t.kind==4)=false:=by rw[hk];rfl
  have k5:(t.kind==5)=false:=by rw[hk];rfl
  have k6:(t.kind==6)=true:=by rw[hk];rfl
  have HK:=ah hk
  clear hk
  go_upto_region 13 with fail
  go_cut [4] (fun v4 wc=>(∃b,v4=.bool b∧(b=true↔t.mx=-1∨t.mn≤t.mx∧t.mx≤1000))∧w2=wc)
  case first =>
   by_cases g1:t.mx=-1
   ·have cg1:(t.mx==-1)=true:=by simp[g1]
    have HG:=ah g1
    clear g1
    go_wp2_with fail
    go_meet
    exact⟨⟨_,rfl,⟨fun _=>.inl HG.out,fun _=>by first | rfl | trivial⟩⟩,rfl⟩
   have cg1:(t.mx==-1)=false:=HE.out _ _ g1
   have G1:=ah g1
   clear g1
   by_cases g2:t.mn≤t.mx
   case neg =>
    have G2:=ah g2
    go_wp2_with fail
    go_meet
    exact⟨⟨_,rfl,aQ (fun h=>by have:=G1.out;have:=G2.out;omega)⟩,rfl⟩
   by_cases g3:t.mx≤1000
   case neg =>
    have G2:=ah g3
    go_wp2_with fail
    go_meet
    exact⟨⟨_,rfl,aQ (fun h=>by have:=G1.out;have:=G2.out;omega)⟩,rfl⟩
   have HG:=ah (And.intro g2 g3)
   go_wp2_with fail
   go_meet
   exact⟨⟨_,rfl,⟨fun _=>.inr HG.out,fun _=>by first | rfl | trivial⟩⟩,rfl⟩
  case rest =>
  obtain⟨⟨b4,rfl,hb4⟩,rfl⟩:=hcut
  have HB4:=ah hb4
  clear hb4
  by_cases h1:t.subs.length=1
  case neg =>
   have c1:((t.subs.length:Int)==1)=false:=HE.out _ _ (by omega)
   have N:=ah (show ¬dL t from fun q=>h1 ((nf6 HK.out).1 q).1)
   clear h1
   go_wp2_with fail
   try go_ret
   exact HP.out false _ (aQ N.out) HU.out
  have c1:((t.subs.length:Int)==1)=true:=by simp[h1]
  have H1:=ah h1
  clear h1
  by_cases h2:0≤t.mn
  case neg =>
   have N:=ah (show ¬dL t from fun q=>h2 ((nf6 HK.out).1 q).2.1.1)
   go_wp2_with fail
   try go_ret
   exact HP.out false _ (aQ N.out) HU.out
  by_cases h3:t.mn≤1000
  case neg =>
   have N:=ah (show ¬dL t from fun q=>h3 ((nf6 HK.out).1 q).2.1.2)
   go_wp2_with fail
   try go_ret
   exact HP.out false _ (aQ N.out) HU.out
  have H2:=ah (And.intro h2 h3)
  rcases b4 with _ | _
  case false =>
   have N:=ah (show ¬dL t from fun q=>by have:=HB4.out.2 ((nf6 HK.out).1 q).2.2.1;cases this)
   go_wp2_with fail
   try go_ret
   exact HP.out false _ (aQ N.out) HU.out
  go_wp2_with (go_at_call 76;refine(bareX_6 t _ RA rc SA sc hrn hnl).mono ?_;rintro e w3 ⟨r,rfl,hq,hU3⟩;have HQ:=ah hq;have HU3:=ah (HU.out.trans hU3 (fun _ _ h=>h));clear hU3 hq)
  try go_ret
  exact HP.out _ _ (HQ.out.trans ⟨fun h=>(nf6 HK.out).2 ⟨H1.out,H2.out,HB4.out.1 (by trivial),h⟩,fun h=>((nf6 HK.out).1 h).2.2.2⟩) HU3.out
 have n6:=hk
 clear hk
 by_cases hk:t.kind=7
 ·skip
  have k1:(t.kind==1)=false:=by rw[hk];rfl
  have k2:(t.kind==2)=false:=by rw[hk];rfl
  have k3:(t.kind==3)=false:=by rw[hk];rfl
  have k4:(t.kind==4)=false:=by rw[hk];rfl
  have k5:(t.kind==5)=false:=by rw[hk];rfl
  have k6:(t.kind==6)=false:=by rw[hk];rfl
  have k7:(t.kind==7)=true:=by rw[hk];rfl
  have HK:=ah hk
  clear hk
  go_upto_region 17 with(go_at_call 78;refine(refName_any _ t.nm hns).mono ?_;rintro e w9 ⟨rn,rfl,hrn9,rfl⟩;have HRN:=ah hrn9;clear hrn9)
  by_cases h1:t.subs.length=1
  case neg =>
   have c1:((t.subs.length:Int)==1)=false:=HE.out _ _ (by omega)
   have N:=ah (show ¬dL t from fun q=>h1 ((nf7 HK.out).1 q).1)
   clear h1
   go_wp2_with fail
   try go_ret
   exact HP.out false _ (aQ N.out) HU.out
  have c1:((t.subs.length:Int)==1)=true:=by simp[h1]
  have H1:=ah h1
  clear h1
  by_cases h2:1≤t.ix
  case neg =>
   have N:=ah (show ¬dL t from fun q=>h2 ((nf7 HK.out).1 q).2.1.1)
   go_wp2_with fail
   try go_ret
   exact HP.out false _ (aQ N.out) HU.out
  by_cases h3:t.ix≤500
  case neg =>
   have N:=ah (show ¬dL t from fun q=>h3 ((nf7 HK.out).1 q).2.1.2)
   go_wp2_with fail
   try go_ret
   exact HP.out false _ (aQ N.out) HU.out
  have H2:=ah (And.intro h2 h3)
  rcases hn:t.nm.toList.isEmpty with _ | _
  ·rcases rn with _ | _
   case false =>
    have N:=ah (show ¬dL t from fun q=>by rcases((nf7 HK.out).1 q).2.2.1 with h | h;(rw[hn] at h;cases h);(have:=HRN.out.2 h;cases this))
    go_wp2_with fail
    try go_ret
    exact HP.out false _ (aQ N.out) HU.out
   have HN:=ah (HRN.out.1 rfl)
   go_wp2_with (go_at_call 76;refine(bareX_7 t _ RA rc SA sc hrn hnl).mono ?_;rintro e w3 ⟨r,rfl,hq,hU3⟩;have HQ:=ah hq;have HU3:=ah (HU.out.trans hU3 (fun _ _ h=>h));clear hU3 hq)
   try go_ret
   exact HP.out _ _ (HQ.out.trans ⟨fun h=>(nf7 HK.out).2 ⟨H1.out,H2.out,.inr HN.out,h⟩,fun h=>((nf7 HK.out).1 h).2.2.2⟩) HU3.out
  ·have HN:=ah hn
   go_wp2_with (go_at_call 76;refine(bareX_7 t _ RA rc SA sc hrn hnl).mono ?_;rintro e w3 ⟨r,rfl,hq,hU3⟩;have HQ:=ah hq;have HU3:=ah (HU.out.trans hU3 (fun _ _ h=>h));clear hU3 hq)
   try go_ret
   exact HP.out _ _ (HQ.out.trans ⟨fun h=>(nf7 HK.out).2 ⟨H1.out,H2.out,.inl HN.out,h⟩,fun h=>((nf7 HK.out).1 h).2.2.2⟩) HU3.out
 have n7:=hk
 clear hk
 have N0:=ah (show ¬dL t from nf0 (by omega))
 have k1:=HE.out _ _ n1
 have k2:=HE.out _ _ n2
 have k3:=HE.out _ _ n3
 have k4:=HE.out _ _ n4
 have k5:=HE.out _ _ n5
 have k6:=HE.out _ _ n6
 have k7:=HE.out _ _ n7
 clear n1 n2 n3 n4 n5 n6 n7
 have N:=ah (show ¬dL t from N0.out)
 go_wp2_with fail
 try go_ret
 exact HP.out false _ (aQ N.out) HU.out
end Go.Proofs.Ytnkefclbchpafaa

/-
  The walks of heronref05.count and Sound on every tree, exactly. Derived by derive_tree.py.
-/
namespace Go.Proofs.Ytnkefclbchpafaa
set_option maxRecDepth 100000
set_option maxHeartbeats 16000000
open Go.RowKit
set_option linter.unusedVariables false
def CntAns (t:Tree) (l:Nat) (d:Int) (w:World) (e:Ending) (w':World):Prop :=
 ∃v:Int,e=.returned (.int .i64 v)∧-1≤v∧v≤200000∧(0≤v→OkF t d∧cntT t≤l∧v=((l - cntT t:Nat):Int))∧(OkF t d∧cntT t≤l→0≤v)∧Upd Nob w w'
theorem countX_go (n:Nat):∀(t:Tree) (w:World) (S:Nat→Prop) (cs:Array Value) (l:Nat) (d:Int),SizeOf.sizeOf t≤n→aB w S cs t→l≤200000→0≤d→d≤10001 →
  Calls Try.prog 38 #[.agg cs,.int .i64 (l:Int),.int .i64 d] w (CntAns t l d w):=by
 induction n with
 | zero=>exact fun t _ _ _ _ _ h=>absurd h (dw t)
 | succ n ih =>
 intro t w S cs l d hn h1 hl2 hd0 hd2
 obtain⟨RA,rc,SA,sc,rfl,hr1,ho,hs1⟩:=h1.top
 have C0:=Cells.new w 47 (au t RA rc SA sc)
 have hU:=(Upd.refl Nob w).alloc (.cells (au t RA rc SA sc) 47)
 have HCT:=ah (cntT_eq t)
 have IH:=ah ih
 have HN:=ah hn
 have H1:=ah (h1.bA hU (fun _ _=>aj))
 have hnl:=ho.n
 clear ih hn h1 hr1 hs1 ho
 unfold au at C0 hU H1
 unfold au
 generalize hP:CntAns t l d w=P
 have HP:=ah (show ∀(v:Int) w',-1≤v→v≤200000→(0≤v→OkF t d∧cntT t≤l∧v=((l - cntT t:Nat):Int))→(OkF t d∧cntT t≤l→0≤v)→Upd Nob w w'→P (.returned (.int .i64 v)) w' from fun v w' a b c d e=>by rw[←hP];exact⟨v,rfl,a,b,c,d,e⟩)
 clear hP
 go_enter Try.func38,Try.ntmps38
 go_upto_region 1 with fail
 generalize w.alloc (.cells #[.int .i64 t.kind,.slice RA t.rs.length rc,.int .i64 t.am,.slice SA t.subs.length sc,.int .i64 t.mn,.int .i64 t.mx,.bool t.lz,.int .i64 t.ix,.string t.nm] 47)=w2 at *
 have HU:=ah hU
 have HC:=ah C0
 obtain⟨e0,e1,e2,e3,e4,e5,e6,e7,e8⟩:=nine C0
 clear C0 hU
 obtain⟨m,hm⟩:∃m:Int,(l:Int) - 1=m:=⟨_,rfl⟩
 have HM:=ah hm
 have m0:-1≤m:=by omega
 have m1:m≤200000:=by omega
 go_upto_region 2 with(go_at_call 58;refine(refNode_any t _ _ _ H1.out).mono ?_;rintro e w3 ⟨r,rfl,hq,hU3⟩;have HQ:=ah hq;have HU3:=ah (HU.out.trans hU3 (fun _ _ h=>h));have HC3:=ah (HC.out.upd hU3 aj);have HN3:=ah (H1.out.bA hU3 (fun _ _=>aj)).open_.2.2;clear hU3 hq e0 e1 e2 e3 e4 e5 e6 e7 e8)
 rcases r with _ | _
 ·clear hm
  go_wp2_with fail
  try go_ret
  exact HP.out _ _ (by omega) (by omega) (fun h=>by omega) (fun h=>by have:=HQ.out.2 h.1.top.1;cases this) HU3.out
 by_cases g1:(10000:Int) < d
 ·have G1:=ah g1
  clear hm
  go_wp2_with fail
  try go_ret
  exact HP.out _ _ (by omega) (by omega) (fun h=>by omega) (fun h=>by have:=h.1.top.2.1;have:=G1.out;omega) HU3.out
 have HF:=ah (HQ.out.1 rfl)
 go_upto_region 5 with fail
 clear hm
 go_wp2_with fail
 go_loopg [1,8] t.subs.length (fun gk v1 v8 wr=>∃(k:Nat) (v:Int),k+gk=t.subs.length∧v8=.int .i64 (k:Int)∧v1=.int .i64 v∧-1≤v∧v≤200000∧(0≤v→v=m - (cntL (t.subs.take k):Nat)∧∀(j:Nat) x,j < k→t.subs[j]?=some x→OkF x (d+1))∧(OkF t d∧cntT t≤l→0≤v)∧Upd Nob w3 wr)
 case atStart=>exact⟨0,m,by omega,rfl,rfl,m0,m1,fun _=>⟨by simp[cntL],fun j x h=>by omega⟩,fun h=>by have:=HCT.out;have:=HM.out;have:=h.2;omega,Upd.refl _ _⟩
 case round =>
  obtain⟨k,v,hk,rfl,rfl,v0,v1,hv,hj,hUr⟩:=hrel
  have HJ:=ah hj
  clear hj
  have b3:wr.cell? ⟨w.heap.size,0+3,none⟩=some (.slice SA t.subs.length sc):=(HC3.out.upd hUr aj).ak rfl
  have HV:=ah hv
  clear hv
  by_cases hlt:k < t.subs.length
  ·have g2:(k:Int) < (t.subs.length:Int):=by omega
   by_cases g3:0≤v
   ·obtain⟨ad,g,o,x,PA,pc,QA,qc,rfl,hadd,hSg,hgl,hx,hX,hlx,hcs⟩:=aB.sub HN3.out hlt
    have up:∀(a:Addr) v,a.block < w3.heap.size→w3.cell? a=some v→wr.cell? a=some v:=fun a v hb ha=>(hUr.cell hb aj).trans ha
    obtain⟨p0,p1,p2,p3,p4,p5,p6,p7,p8⟩:=bH (fun j v hv=>up ⟨g,o+j,none⟩ v hgl (hcs j v hv))
    have hxn:SizeOf.sizeOf x≤n:=by have:=HN.out;omega
    have HX:=ah (hX.bA hUr (fun _ _=>aj))
    have HXK:=ah hx
    have HST:=ah (cntL_step hx)
    have HUr:=ah hUr
    have HK:=ah hk
    have vw:IntKind.i64.wrap (d+1)=d+1:=by rw[IntKind.wrap_i64];omega
    obtain⟨q,rfl⟩:∃q:Nat,v=(q:Int):=Int.eq_ofNat_of_zero_le g3
    have HVV:=ah (HV.out g3)
    clear up hcs hX hx hlx hUr hk
    go_wp2_with fail
    refine(IH.out x wr _ _ q (d+1) hxn HX.out (by omega) (by omega) (by omega)).mono ?_
    rintro e w5 ⟨v',rfl,v2,v3,hv',hj',hU5⟩
    have HJ':=ah hj'
    clear hj'
    have HU5:=ah (HUr.out.trans hU5 (fun _ _ h=>h))
    have HV':=ah hv'
    clear hU5 hv' b3 p0 p1 p2 p3 p4 p5 p6 p7 p8
    go_wp2_with fail
    have hk:=HK.out
    go_roundg (t.subs.length - (k+1))
    case measure=>omega
    case rel=>exact⟨k+1,v',by omega,by go_num,rfl,v2,v3,fun h=>by
     obtain⟨o1,o2,o3⟩:=HV'.out h
     obtain⟨p1,p2⟩:=HVV.out
     have hst:=HST.out
     refine⟨by omega,fun j z hj hz=>?_⟩
     by_cases e:j=k
     ·subst e
      rw[HXK.out] at hz
      injection hz with hz
      subst hz
      exact o1
     ·exact p2 j z (by omega) hz,fun h=>HJ'.out ⟨h.1.top.2.2 k x HXK.out,by have h1:=HVV.out.1;have h2:=HST.out;have h3:=cntL_take t.subs (k+1);have h4:=HCT.out;have h5:=HM.out;have h6:=h.2;omega⟩,HU5.out⟩
   ·have HUr:=ah hUr
    clear hUr
    go_wp2_with fail
    try go_ret
    exact HP.out _ _ v0 v1 (fun h=>absurd h (by omega)) HJ.out (HU3.out.trans HUr.out (fun _ _ h=>h))
  ·have g2:¬(k:Int) < (t.subs.length:Int):=by omega
   have HUr:=ah hUr
   have HK:=ah (show k=t.subs.length by omega)
   clear hUr
   go_wp2_with fail
   try go_ret
   refine HP.out _ _ v0 v1 (fun h=>?_) HJ.out (HU3.out.trans HUr.out (fun _ _ h=>h))
   obtain⟨p1,p2⟩:=HV.out h
   have hk:=HK.out
   rw[hk,List.take_length] at p1
   have h1:=HCT.out
   have h2:=HM.out
   exact⟨OkF.of HF.out (by omega) (fun i x hx=>p2 i x (by rw[hk];exact(List.getElem?_eq_some_iff.1 hx).1) hx),by omega,by omega⟩
def RsAns (t:Tree) (w:World) (e:Ending) (w':World):Prop:=∃r:Bool,e=.returned (.int .i64 (if r=true then 0 else 50))∧(r=true↔d9 t)∧Upd Nob w w'
theorem refSound_any (t:Tree) (w:World) (S:Nat→Prop) (cs:Array Value) (h1:aB w S cs t) :
  Calls Try.prog 22 #[.agg cs] w (RsAns t w):=by
 obtain⟨RA,rc,SA,sc,rfl,-⟩:=h1.top
 have HN:=ah h1
 clear h1
 unfold au at HN ⊢
 generalize hP:RsAns t w=P
 have HPy:=ah (show ∀w',d9 t→Upd Nob w w'→P (.returned (.int .i64 0)) w' from fun w' a c=>by rw[←hP];exact⟨true,rfl,kK a,c⟩)
 have HPn:=ah (show ∀w',¬d9 t→Upd Nob w w'→P (.returned (.int .i64 50)) w' from fun w' a c=>by rw[←hP];exact⟨false,rfl,aQ a,c⟩)
 clear hP
 have C0:=Cells.new w 47 #[.int .i64 t.kind,.slice RA t.rs.length rc,.int .i64 t.am,.slice SA t.subs.length sc,.int .i64 t.mn,.int .i64 t.mx,.bool t.lz,.int .i64 t.ix,.string t.nm]
 have hU2:=(Upd.refl Nob w).alloc (.cells #[.int .i64 t.kind,.slice RA t.rs.length rc,.int .i64 t.am,.slice SA t.subs.length sc,.int .i64 t.mn,.int .i64 t.mx,.bool t.lz,.int .i64 t.ix,.string t.nm] 47)
 go_enter Try.func22,Try.ntmps22
 go_upto_region 1 with fail
 generalize w.alloc (.cells #[.int .i64 t.kind,.slice RA t.rs.length rc,.int .i64 t.am,.slice SA t.subs.length sc,.int .i64 t.mn,.int .i64 t.mx,.bool t.lz,.int .i64 t.ix,.string t.nm] 47)=w2 at *
 obtain⟨e0,e1,e2,e3,e4,e5,e6,e7,e8⟩:=nine C0
 clear C0
 go_wp2_with fail
 refine(countX_go _ t w2 S _ 200000 1 (Nat.le_refl _) (HN.out.bA hU2 (fun _ _=>aj)) (by omega) (by omega) (by omega)).mono ?_
 rintro e w3 ⟨v,rfl,v0,v1,hv,hj,hU3⟩
 have HU3:=ah (hU2.trans hU3 (fun _ _ h=>h))
 have HV:=ah hv
 clear hU3 hU2 hv e0 e1 e2 e3 e4 e5 e6 e7 e8
 by_cases g:v < 0
 ·have N:=ah (show ¬d9 t from fun h=>by have:=hj ⟨h.1,h.2⟩;omega)
  go_wp2_with fail
  try go_ret
  exact HPn.out _ N.out HU3.out
 ·have HS:=ah (show d9 t from⟨(HV.out (by omega)).1,(HV.out (by omega)).2.1⟩)
  go_wp2_with fail
  try go_ret
  exact HPy.out _ HS.out HU3.out
end Go.Proofs.Ytnkefclbchpafaa
