/-
  SndK, Reck7, Lp9, put together.
-/
import Derived.Test.YtnkefclbchpafaaZ19RefSndE
import Derived.Test.YtnkefclbchpafaaZ22TabS
import Derived.Test.YtnkefclbchpafaaZ18Rep7
import Derived.Test.YtnkefclbchpafaaZ17Sum7

/-
  What holds of a tree that may be. Plain.
-/
namespace Go.Proofs.Ytnkefclbchpafaa
set_option linter.unusedVariables false
structure NodeK (t:Tree):Prop where
 k:1≤t.kind∧t.kind≤7
 two:t.kind=4∨t.kind=5→2≤t.subs.length
 one:t.kind=6∨t.kind=7→t.subs.length=1
 cnt:t.kind=6→0≤t.mn∧t.mn≤1000∧(t.mx=-1∨t.mn≤t.mx∧t.mx≤1000)
 no:t.kind≤3→t.subs.length=0
 grp:t.kind=7→1≤t.ix∧t.ix≤500
 ix:t.kind≠7→t.ix=0
 cls:t.kind=2→bq t.rs=true
 asr:t.kind=3→asB t.am=true
theorem nodeK {t:Tree} (h:dL t):NodeK t:=by
 by_cases hk:1≤t.kind∧t.kind≤7
 ·rcases(by omega:t.kind=1∨t.kind=2∨t.kind=3∨(t.kind=4∨t.kind=5)∨t.kind=6∨t.kind=7) with k | k | k | k | k | k
  ·obtain⟨a,b,c,d,e,f,g,i⟩:=(nf1 k).1 h
   exact⟨hk,by omega,by omega,by omega,fun _=>c,by omega,fun _=>g,by omega,by omega⟩
  ·obtain⟨r,b,c,d,e,f,g,i⟩:=(nf2 k).1 h
   exact⟨hk,by omega,by omega,by omega,fun _=>c,by omega,fun _=>g,fun _=>r,by omega⟩
  ·obtain⟨r,b,c,d,e,f,g,i⟩:=(nf3 k).1 h
   exact⟨hk,by omega,by omega,by omega,fun _=>c,by omega,fun _=>g,by omega,fun _=>r⟩
  ·obtain⟨r,a,b,d,e,f,g,i⟩:=(nf4 k).1 h
   exact⟨hk,fun _=>r,by omega,by omega,by omega,by omega,fun _=>g,by omega,by omega⟩
  ·obtain⟨r,⟨a,b⟩,c,d,e,f,g⟩:=(nf6 k).1 h
   exact⟨hk,by omega,fun _=>r,fun _=>⟨a,b,c⟩,by omega,by omega,fun _=>f,by omega,by omega⟩
  ·obtain⟨r,a,-⟩:=(nf7 k).1 h
   exact⟨hk,by omega,fun _=>r,by omega,by omega,fun _=>a,by omega,by omega,by omega⟩
 ·exact absurd h (nf0 hk)
theorem okV_of:∀(n:Nat) (t:Tree) (d:Int),SizeOf.sizeOf t≤n→OkF t d→OkV t
 | 0,t,d,h,_=>absurd h (dw t)
 | n+1,t,d,hn,h=>by
  obtain⟨h1,h2,h3⟩:=h.top
  have q:=nodeK h1
  refine OkV.of ⟨fun hk=>by have:=q.cnt hk;omega,q.no⟩ (fun x hx=>?_)
  obtain⟨i,hi⟩:=List.mem_iff_getElem?.1 hx
  exact okV_of n x (d+1) (by have:=Tree.sub_lt hx;omega) (h3 i x hi)
theorem okU_of:∀(n:Nat) (t:Tree) (d:Int),SizeOf.sizeOf t≤n→OkF t d→OkU t
 | 0,t,d,h,_=>absurd h (dw t)
 | n+1,t,d,hn,h=>by
  obtain⟨h1,h2,h3⟩:=h.top
  have q:=nodeK h1
  refine OkU.of ⟨q.k.1,q.k.2,fun hk e=>by have:=q.two (.inl hk);rw[e] at this;simp at this,q.one⟩ (fun x hx=>?_)
  obtain⟨i,hi⟩:=List.mem_iff_getElem?.1 hx
  exact okU_of n x (d+1) (by have:=Tree.sub_lt hx;omega) (h3 i x hi)
theorem okS_of:∀(n:Nat) (t:Tree) (d:Int),SizeOf.sizeOf t≤n→OkF t d→OkS t
 | 0,t,d,h,_=>absurd h (dw t)
 | n+1,t,d,hn,h=>by
  obtain⟨h1,h2,h3⟩:=h.top
  have q:=nodeK h1
  rw[OkS]
  refine⟨⟨q.k.1,q.k.2,q.two,q.one,fun hk=>by have:=q.cnt hk;omega⟩,fun i hi=>?_⟩
  have hx:=List.getElem?_eq_getElem hi
  exact okS_of n _ (d+1) (by have:=Tree.sub_lt (List.getElem_mem hi);omega) (h3 i _ hx)
theorem nodeF_ix {t:Tree} (h:dL t):0≤t.ix∧t.ix≤500:=by
 have q:=nodeK h
 by_cases hk:t.kind=7
 ·have:=q.grp hk;omega
 ·have:=q.ix hk;omega
def RsAns2 (t:Tree) (w:World) (e:Ending) (w':World):Prop:=∃r:Bool,e=.returned (.int .i64 (if r=true then 0 else 50))∧(r=true→d9 t)∧(d9 t→r=true)∧Upd Nob w w'
open Go.RowKit in
theorem iI (t:Tree) (w:World) (S:Nat→Prop) (cs:Array Value) (h1:aB w S cs t):Calls Try.prog 22 #[.agg cs] w (RsAns2 t w):=by
 refine(refSound_any t w S cs h1).mono ?_
 rintro e w' ⟨r,rfl,hr,hU⟩
 exact⟨r,rfl,hr.1,hr.2,hU⟩
end Go.Proofs.Ytnkefclbchpafaa

/-
  The walk of jV.Reckon: some sum.
-/
namespace Go.Proofs.Ytnkefclbchpafaa
set_option maxRecDepth 100000
set_option maxHeartbeats 16000000
open Go.RowKit
set_option linter.unusedVariables false
theorem aB.sub0 {w:World} {S:Nat→Prop} {t:Tree} {SA:Option Addr} (hs:∀i x,t.subs[i]?=some x→∃ad g o cs',SA=some ad∧ad.add (i*9)=⟨g,o,none⟩∧S g∧g < w.heap.size∧(∀j v,cs'[j]?=some v→w.cell? ⟨g,o+j,none⟩=some v)∧aB w S cs' x) (h:0 < t.subs.length) :
  ∃g o x PA pc QA qc,SA=some ⟨g,o,none⟩∧S g∧g < w.heap.size∧t.subs[0]?=some x∧aB w S (au x PA pc QA qc) x∧SizeOf.sizeOf x < SizeOf.sizeOf t∧(∀j v,(au x PA pc QA qc)[j]?=some v→w.cell? ⟨g,o+j,none⟩=some v):=by
 obtain⟨ad,g,o,x,PA,pc,QA,qc,rfl,hadd,hSg,hgl,hx,hX,hlx,hcs⟩:=aB.sub hs h
 rw[Nat.zero_mul,show ad.add 0=ad by simp[Addr.add]] at hadd
 subst hadd
 exact⟨g,o,x,PA,pc,QA,qc,rfl,hSg,hgl,hx,hX,hlx,hcs⟩
theorem reckon_go (n:Nat):∀(t:Tree) (d:Int) (w:World) (S:Nat→Prop) (cs:Array Value),SizeOf.sizeOf t≤n→OkF t d→aB w S cs t →
  Calls Try.prog 59 #[.agg cs] w (kG w):=by
 induction n with
 | zero=>exact fun t _ _ _ _ h=>absurd h (dw t)
 | succ n ih =>
 intro t d w S cs hn hok h1
 obtain⟨f1,f2,f3⟩:=hok.top
 have q:=nodeK f1
 obtain⟨RA,rc,SA,sc,rfl,hr1,ho,hs1⟩:=h1.top
 have hL:=h1.lower
 have C0:=Cells.new w 47 (au t RA rc SA sc)
 have hU:=(Upd.refl Nob w).alloc (.cells (au t RA rc SA sc) 47)
 have IH:=ah ih
 have HN:=ah hn
 have H3:=ah f3
 have HQ:=ah q
 have hnl:=ho.n
 generalize hP:kG w=P
 have HP:=ah (show ∀k n s d w',Upd Nob w w'→P (.returned (gX k n s d)) w' from fun k n s d w' b=>by rw[←hP];exact⟨k,n,s,d,rfl,b⟩)
 clear hP
 clear ih hn h1 hr1 hs1 ho f1 f2 f3 q hok
 have sX:(w.alloc (.cells (au t RA rc SA sc) 47)).heap.size=w.heap.size+1:=by simp
 unfold au at C0 hU hL sX
 unfold au
 go_enter Try.func59,Try.ntmps59
 go_upto_region 1 with fail
 generalize w.alloc (.cells #[.int .i64 t.kind,.slice RA t.rs.length rc,.int .i64 t.am,.slice SA t.subs.length sc,.int .i64 t.mn,.int .i64 t.mx,.bool t.lz,.int .i64 t.ix,.string t.nm] 47)=w1 at *
 have CO:=Cells.new w1 115 #[.int .i64 0,.int .i64 0,.int .i64 0,.int .i64 0]
 have hU2:=hU.alloc (.cells #[.int .i64 0,.int .i64 0,.int .i64 0,.int .i64 0] 115)
 have CT:=C0.alloc (.cells #[.int .i64 0,.int .i64 0,.int .i64 0,.int .i64 0] 115)
 rw[sX] at CO
 generalize w1.alloc (.cells #[.int .i64 0,.int .i64 0,.int .i64 0,.int .i64 0] 115)=w2 at *
 have H1:=ah (hL.bA hU2 (fun _ _=>aj))
 have HU:=ah hU2
 have HT:=ah CT
 have HO:=ah CO
 obtain⟨ob,hob⟩:∃ob,w.heap.size+1=ob:=⟨_,rfl⟩
 have HOB:=ah hob
 simp only[hob] at CO ⊢
 rw[hob] at HO
 clear hob
 obtain⟨e0,e1,e2,e3,e4,e5,e6,e7,e8⟩:=aI CT
 clear CT C0 hL hU hU2 sX
 by_cases k7:t.kind=7
 ·have c7:(t.kind==7)=true:=by simp[k7]
  have hl:=HQ.out.one (.inr k7)
  obtain⟨g,o,x,PA,pc,QA,qc,rfl,hSg,hgl,hx,hX,hlx,hcs⟩:=aB.sub0 H1.out.open_.2.2 (by omega)
  obtain⟨p0,p1,p2,p3,p4,p5,p6,p7,p8⟩:=bH hcs
  have HXX:=ah hX
  have HXN:=ah (show SizeOf.sizeOf x≤n by have:=HN.out;omega)
  have HXK:=ah (H3.out 0 x hx)
  obtain⟨o0,o1,o2,o3⟩:=aA CO
  clear hX hlx hcs hx hSg hgl k7 CO
  have g0:0 < t.subs.length:=by omega
  have HC:=ah HO.out
  clear hl
  go_upto_region 1 with fail
  go_wp2_with (first
   | (go_at_call 59;refine(IH.out x (d+1) _ _ _ HXN.out HXK.out HXX.out).mono ?_;rintro e w5 ⟨k1,n1,s1,d1,rfl,hU5⟩;have HU:=ah (HU.out.trans hU5 (fun _ _ h=>h));have HO:=ah (HO.out.upd hU5 aj);clear hU5;unfold gX)
   | (go_at_call 79;refine(over7_some _ 7 _ _ _ _).mono ?_;rintro e w5 ⟨k1,n1,s1,d1,rfl,hU5⟩;have HU:=ah (HU.out.trans hU5 (fun _ _ h=>h));have HO:=ah (HO.out.upd hU5 aj);clear hU5;unfold gX;obtain⟨o0,o1,o2,o3⟩:=aA HO.out;have z0:=HO.out.frozen 0;have z1:=HO.out.frozen 1;have z2:=HO.out.frozen 2;have z3:=HO.out.frozen 3))
  obtain⟨C9,U9⟩:=dN HO.out HU.out (by have:=HOB.out;omega) (.int .i64 (k1)) (.int .i64 (n1)) (.int .i64 (s1)) (.int .i64 (d1))
  obtain⟨q0,q1,q2,q3⟩:=aA C9
  refine bodyPost_ret (by simp[results,Try.results59,go_sem,q0,q1,q2,q3];try rfl) rfl ?_
  exact HP.out _ _ _ _ _ U9
 have c7:(t.kind==7)=false:=by simpa using k7
 by_cases k6:t.kind=6
 ·have c6:(t.kind==6)=true:=by simp[k6]
  have hl:=HQ.out.one (.inl k6)
  have HCN:=ah (HQ.out.cnt k6)
  obtain⟨g,o,x,PA,pc,QA,qc,rfl,hSg,hgl,hx,hX,hlx,hcs⟩:=aB.sub0 H1.out.open_.2.2 (by omega)
  obtain⟨p0,p1,p2,p3,p4,p5,p6,p7,p8⟩:=bH hcs
  have HXX:=ah hX
  have HXN:=ah (show SizeOf.sizeOf x≤n by have:=HN.out;omega)
  have HXK:=ah (H3.out 0 x hx)
  obtain⟨o0,o1,o2,o3⟩:=aA CO
  have g0:0 < t.subs.length:=by omega
  have HGO:=ah (show g≠ob∧g < w2.heap.size∧ob < w2.heap.size∧w.heap.size < ob from⟨by have:=HOB.out;have hSg:g < w.heap.size:=hSg;omega,hgl,HO.out.lt,by have:=HOB.out;omega⟩)
  have hsl:∀w',Upd (fun b=>b=ob) w2 w'→(fun w':World=>w'.cell? ⟨w.heap.size,0,none⟩=some (.int .i64 t.kind)∧w'.cell? ⟨w.heap.size,1,none⟩=some (.slice RA t.rs.length rc)∧w'.cell? ⟨w.heap.size,2,none⟩=some (.int .i64 t.am)∧w'.cell? ⟨w.heap.size,3,none⟩=some (.slice (some ⟨g,o,none⟩) t.subs.length sc)∧w'.cell? ⟨w.heap.size,4,none⟩=some (.int .i64 t.mn)∧w'.cell? ⟨w.heap.size,5,none⟩=some (.int .i64 t.mx)∧w'.cell? ⟨w.heap.size,6,none⟩=some (.bool t.lz)∧w'.cell? ⟨w.heap.size,7,none⟩=some (.int .i64 t.ix)∧w'.cell? ⟨w.heap.size,8,none⟩=some (.string t.nm)∧w'.cell? ⟨g,o,none⟩=some (.int .i64 x.kind)∧w'.cell? ⟨g,o+1,none⟩=some (.slice PA x.rs.length pc)∧w'.cell? ⟨g,o+2,none⟩=some (.int .i64 x.am)∧w'.cell? ⟨g,o+3,none⟩=some (.slice QA x.subs.length qc)∧w'.cell? ⟨g,o+4,none⟩=some (.int .i64 x.mn)∧w'.cell? ⟨g,o+5,none⟩=some (.int .i64 x.mx)∧w'.cell? ⟨g,o+6,none⟩=some (.bool x.lz)∧w'.cell? ⟨g,o+7,none⟩=some (.int .i64 x.ix)∧w'.cell? ⟨g,o+8,none⟩=some (.string x.nm)) w':=fun w' hU=>⟨(hU.cell (p:=⟨w.heap.size,_,none⟩) (by have:=HGO.out;show w.heap.size < w2.heap.size;omega) (by have:=HGO.out;show ¬w.heap.size=ob;omega)).trans ‹_›,(hU.cell (p:=⟨w.heap.size,_,none⟩) (by have:=HGO.out;show w.heap.size < w2.heap.size;omega) (by have:=HGO.out;show ¬w.heap.size=ob;omega)).trans ‹_›,(hU.cell (p:=⟨w.heap.size,_,none⟩) (by have:=HGO.out;show w.heap.size < w2.heap.size;omega) (by have:=HGO.out;show ¬w.heap.size=ob;omega)).trans ‹_›,(hU.cell (p:=⟨w.heap.size,_,none⟩) (by have:=HGO.out;show w.heap.size < w2.heap.size;omega) (by have:=HGO.out;show ¬w.heap.size=ob;omega)).trans ‹_›,(hU.cell (p:=⟨w.heap.size,_,none⟩) (by have:=HGO.out;show w.heap.size < w2.heap.size;omega) (by have:=HGO.out;show ¬w.heap.size=ob;omega)).trans ‹_›,(hU.cell (p:=⟨w.heap.size,_,none⟩) (by have:=HGO.out;show w.heap.size < w2.heap.size;omega) (by have:=HGO.out;show ¬w.heap.size=ob;omega)).trans ‹_›,(hU.cell (p:=⟨w.heap.size,_,none⟩) (by have:=HGO.out;show w.heap.size < w2.heap.size;omega) (by have:=HGO.out;show ¬w.heap.size=ob;omega)).trans ‹_›,(hU.cell (p:=⟨w.heap.size,_,none⟩) (by have:=HGO.out;show w.heap.size < w2.heap.size;omega) (by have:=HGO.out;show ¬w.heap.size=ob;omega)).trans ‹_›,(hU.cell (p:=⟨w.heap.size,_,none⟩) (by have:=HGO.out;show w.heap.size < w2.heap.size;omega) (by have:=HGO.out;show ¬w.heap.size=ob;omega)).trans ‹_›,(hU.cell (p:=⟨g,_,none⟩) HGO.out.2.1 HGO.out.1).trans ‹_›,(hU.cell (p:=⟨g,_,none⟩) HGO.out.2.1 HGO.out.1).trans ‹_›,(hU.cell (p:=⟨g,_,none⟩) HGO.out.2.1 HGO.out.1).trans ‹_›,(hU.cell (p:=⟨g,_,none⟩) HGO.out.2.1 HGO.out.1).trans ‹_›,(hU.cell (p:=⟨g,_,none⟩) HGO.out.2.1 HGO.out.1).trans ‹_›,(hU.cell (p:=⟨g,_,none⟩) HGO.out.2.1 HGO.out.1).trans ‹_›,(hU.cell (p:=⟨g,_,none⟩) HGO.out.2.1 HGO.out.1).trans ‹_›,(hU.cell (p:=⟨g,_,none⟩) HGO.out.2.1 HGO.out.1).trans ‹_›,(hU.cell (p:=⟨g,_,none⟩) HGO.out.2.1 HGO.out.1).trans ‹_›⟩
  have HSL:=ah hsl
  clear hX hlx hcs hx hSg hgl k6 k7 CO hl hsl c7
  have HU0:=ah (Upd.refl (fun b=>b=ob) w2)
  have HUD:=ah ((Upd.refl (fun b=>b=ob) w2).drew)
  go_upto_region 5 with fail
  go_region_held3 (fun w':World=>w'.cell? ⟨w.heap.size,0,none⟩=some (.int .i64 t.kind)∧w'.cell? ⟨w.heap.size,1,none⟩=some (.slice RA t.rs.length rc)∧w'.cell? ⟨w.heap.size,2,none⟩=some (.int .i64 t.am)∧w'.cell? ⟨w.heap.size,3,none⟩=some (.slice (some ⟨g,o,none⟩) t.subs.length sc)∧w'.cell? ⟨w.heap.size,4,none⟩=some (.int .i64 t.mn)∧w'.cell? ⟨w.heap.size,5,none⟩=some (.int .i64 t.mx)∧w'.cell? ⟨w.heap.size,6,none⟩=some (.bool t.lz)∧w'.cell? ⟨w.heap.size,7,none⟩=some (.int .i64 t.ix)∧w'.cell? ⟨w.heap.size,8,none⟩=some (.string t.nm)∧w'.cell? ⟨g,o,none⟩=some (.int .i64 x.kind)∧w'.cell? ⟨g,o+1,none⟩=some (.slice PA x.rs.length pc)∧w'.cell? ⟨g,o+2,none⟩=some (.int .i64 x.am)∧w'.cell? ⟨g,o+3,none⟩=some (.slice QA x.subs.length qc)∧w'.cell? ⟨g,o+4,none⟩=some (.int .i64 x.mn)∧w'.cell? ⟨g,o+5,none⟩=some (.int .i64 x.mx)∧w'.cell? ⟨g,o+6,none⟩=some (.bool x.lz)∧w'.cell? ⟨g,o+7,none⟩=some (.int .i64 x.ix)∧w'.cell? ⟨g,o+8,none⟩=some (.string x.nm))
   (first | (with_reducible exact HSL.out _ HU0.out) | (with_reducible exact HSL.out _ HUD.out) | (with_reducible exact HSL.out _ HU1.out) | (with_reducible exact HSL.out _ HU2.out) | (with_reducible exact HSL.out _ HU3.out))
   (first
   | (go_at_call 59;refine(IH.out x (d+1) _ _ _ HXN.out HXK.out (HXX.out.bA ((Upd.refl Nob w2).drew) (fun _ _=>aj))).mono ?_;rintro e w5 ⟨k1,n1,s1,d1,rfl,hU5⟩;have hU5b:=((Upd.refl Nob w2).drew).trans hU5 (fun _ _ h=>h);have HU:=ah (HU.out.trans hU5b (fun _ _ h=>h));have HO:=ah (HO.out.upd hU5b aj);have HU1:=ah (hU5b.mono (G:=fun b=>b=ob) (fun _ _ h=>absurd h aj));clear hU5b;clear hU5;unfold gX)
   | (go_at_call 80;refine(repeat7_any t _ RA rc (some ⟨g,o,none⟩) sc _ _ _ _ ⟨HCN.out.1,HCN.out.2.1⟩ HCN.out.2.2).mono ?_;rintro e w7 ⟨k1,n1,s1,d1,rfl,hU7⟩;have HU:=ah (HU.out.trans hU7 (fun _ _ h=>h));have HO:=ah (HO.out.upd hU7 aj);have HU2:=ah (HU1.out.trans hU7 (fun _ _ h=>absurd h aj));clear hU7;unfold gX;obtain⟨o0,o1,o2,o3⟩:=aA HO.out;have z0:=HO.out.frozen 0;have z1:=HO.out.frozen 1;have z2:=HO.out.frozen 2;have z3:=HO.out.frozen 3;have HU3:=ah (((((HU2.out.setCell ⟨ob,0,none⟩ (.int .i64 k1) (fun _=>rfl)).setCell ⟨ob,1,none⟩ (.int .i64 n1) (fun _=>rfl)).setCell ⟨ob,2,none⟩ (.int .i64 s1) (fun _=>rfl)).setCell ⟨ob,3,none⟩ (.int .i64 d1) (fun _=>rfl)))))
  go_wp2_with fail
  obtain⟨C9,U9⟩:=dN HO.out HU.out (by have:=HOB.out;omega) (.int .i64 (k1)) (.int .i64 (n1)) (.int .i64 (s1)) (.int .i64 (d1))
  obtain⟨q0,q1,q2,q3⟩:=aA C9
  refine bodyPost_ret (by simp[results,Try.results59,go_sem,q0,q1,q2,q3];try rfl) rfl ?_
  exact HP.out _ _ _ _ _ U9
 have c6:(t.kind==6)=false:=by simpa using k6
 obtain⟨o0,o1,o2,o3⟩:=aA CO
 have z0:=CO.frozen 0
 have z1:=CO.frozen 1
 have z2:=CO.frozen 2
 have z3:=CO.frozen 3
 by_cases k45:t.kind=4∨t.kind=5
 ·rcases k45 with k | k
  ·have c4:(t.kind==4)=true:=by simp[k]
   clear k k6 k7 CO
   go_upto_region 9 with fail
   have hR0:RowC (w2.alloc (.cells #[.int .i64 0,.int .i64 0,.int .i64 0,.int .i64 0,.int .i64 0,.int .i64 0,.int .i64 0] 134)) w2.heap.size:=⟨0,0,0,0,0,0,0,Cells.new _ _ _⟩
   have hU3:=(Upd.refl Nob w2).alloc (.cells #[.int .i64 0,.int .i64 0,.int .i64 0,.int .i64 0,.int .i64 0,.int .i64 0,.int .i64 0] 134)
   have HW3:=ah (show ob < w2.heap.size∧w.heap.size < w2.heap.size from⟨HO.out.lt,by have:=HOB.out;have:=HO.out.lt;omega⟩)
   have HU:=ah (HU.out.trans hU3 (fun _ _ h=>h))
   have HO:=ah (HO.out.upd hU3 aj)
   have HT:=ah (HT.out.upd hU3 aj)
   have H1:=ah (H1.out.bA hU3 (fun _ _=>aj))
   have HR0:=ah hR0
   clear hR0 hU3 o0 o1 o2 o3 z0 z1 z2 z3 e0 e1 e2 e3 e4 e5 e6 e7 e8
   generalize w2.alloc (.cells #[.int .i64 0,.int .i64 0,.int .i64 0,.int .i64 0,.int .i64 0,.int .i64 0,.int .i64 0] 134)=w3 at *
   generalize w2.heap.size=rb at *
   go_wp2_with fail
   go_loopg [4,5] t.subs.length (fun gk v4 v5 wr=>∃(k:Nat),k+gk=t.subs.length∧v4=.int .i64 (k:Int)∧RowC wr rb∧Upd (fun b=>b=rb) w3 wr)
   case atStart=>exact⟨0,by omega,rfl,HR0.out,Upd.refl _ _⟩
   case round =>
   obtain⟨k,hk2,rfl,hR,hUr⟩:=hrel
   clear HR0
   have b3:wr.cell? ⟨w.heap.size,0+3,none⟩=some (.slice SA t.subs.length sc):=(HT.out.upd hUr (by have:=HW3.out;omega)).ak rfl
   have b0:wr.cell? ⟨w.heap.size,0+0,none⟩=some (.int .i64 t.kind):=(HT.out.upd hUr (by have:=HW3.out;omega)).ak rfl
   have HUr:=ah hUr
   have HR:=ah hR
   have HK:=ah hk2
   by_cases hlt:k < t.subs.length
   ·have g2:(k:Int) < (t.subs.length:Int):=by omega
    obtain⟨ad,g,o,x,PA,pc,QA,qc,rfl,hadd,hSg,hgl,hx,hX,hlx,hcs⟩:=aB.sub H1.out.open_.2.2 hlt
    have hgr:g≠rb:=by have hSg:g < w.heap.size:=hSg;have:=HW3.out;omega
    obtain⟨p0,p1,p2,p3,p4,p5,p6,p7,p8⟩:=bH (fun j v hv=>(hUr.cell (p:=⟨g,o+j,none⟩) hgl hgr).trans (hcs j v hv))
    have HXN:=ah (show SizeOf.sizeOf x≤n by have:=HN.out;omega)
    have HXK:=ah (H3.out k x hx)
    have HXX:=ah (hX.bA hUr (fun b hb e=>by have hb:b < w.heap.size:=hb;have:=HW3.out;omega))
    clear hcs hX hlx hx hUr hk2 hR hgr hSg hgl
    go_upto_region 13 with(go_at_call 59;refine(IH.out x (d+1) _ _ _ HXN.out HXK.out HXX.out).mono ?_;rintro e w5 ⟨k1,n1,s1,d1,rfl,hU5⟩;have HUr:=ah (HUr.out.trans hU5 (fun _ _ h=>absurd h aj));have HR:=ah (HR.out.upd hU5 aj);clear hU5;unfold gX)
    have HXS:=ah (show SumC (w5.alloc (.cells #[.int .i64 k1,.int .i64 n1,.int .i64 s1,.int .i64 d1] 115)) w5.heap.size from⟨k1,n1,s1,d1,Cells.new _ _ _⟩)
    have hUA:=(Upd.refl Nob w5).alloc (.cells #[.int .i64 k1,.int .i64 n1,.int .i64 s1,.int .i64 d1] 115)
    have HUr:=ah (HUr.out.trans hUA (fun _ _ h=>absurd h aj))
    have HR:=ah (HR.out.upd hUA aj)
    clear hUA b3 b0 p0 p1 p2 p3 p4 p5 p6 p7 p8
    generalize w5.alloc (.cells #[.int .i64 k1,.int .i64 n1,.int .i64 s1,.int .i64 d1] 115)=w6 at *
    generalize w5.heap.size=xb at *
    obtain⟨k3,n3,s3,d3,CX⟩:=HXS.out
    obtain⟨x0,x1,x2,x3⟩:=aA CX
    have b0:w6.cell? ⟨w.heap.size,0+0,none⟩=some (.int .i64 t.kind):=(HT.out.upd HUr.out (by have:=HW3.out;omega)).ak rfl
    clear CX
    go_wp2_with (go_at_call 81;refine(iR HR.out _ _ _ _ _).mono ?_;rintro e w7 ⟨⟨v,rfl⟩,h7,hU7⟩;have HUr:=ah (HUr.out.trans hU7 (fun _ _ h=>h));have HR:=ah h7;clear h7 hU7)
    go_roundg (t.subs.length - (k+1))
    case measure=>have:=HK.out;omega
    case rel=>exact⟨k+1,by have:=HK.out;omega,by go_num,HR.out,HUr.out⟩
   ·have g2:¬(k:Int) < (t.subs.length:Int):=by omega
    clear hUr hk2 hR b0
    have HU:=ah (HU.out.trans HUr.out (fun k hk e=>by have:=HW3.out.2;omega))
    have HO:=ah (HO.out.upd HUr.out (by have:=HW3.out;omega))
    have f0:wr.cell? ⟨w.heap.size,0+0,none⟩=some (.int .i64 t.kind):=(HT.out.upd HUr.out (by have:=HW3.out;omega)).ak rfl
    go_wp2_with (go_at_call 83;refine(kH HR.out).mono ?_;rintro e w5 ⟨k1,n1,s1,d1,rfl,hU5⟩;have HU:=ah (HU.out.trans hU5 (fun _ _ h=>h));have HO:=ah (HO.out.upd hU5 aj);clear hU5;unfold gX;obtain⟨o0,o1,o2,o3⟩:=aA HO.out;have z0:=HO.out.frozen 0;have z1:=HO.out.frozen 1;have z2:=HO.out.frozen 2;have z3:=HO.out.frozen 3)
    obtain⟨C9,U9⟩:=dN HO.out HU.out (by have:=HOB.out;omega) (.int .i64 (k1)) (.int .i64 (n1)) (.int .i64 (s1)) (.int .i64 (d1))
    obtain⟨q0,q1,q2,q3⟩:=aA C9
    refine bodyPost_ret (by simp[results,Try.results59,go_sem,q0,q1,q2,q3];try rfl) rfl ?_
    exact HP.out _ _ _ _ _ U9
  ·have c4:(t.kind==4)=false:=by simp[k]
   have c5:(t.kind==5)=true:=by simp[k]
   clear k k6 k7 CO
   go_upto_region 9 with fail
   have hR0:RowC (w2.alloc (.cells #[.int .i64 0,.int .i64 0,.int .i64 0,.int .i64 0,.int .i64 0,.int .i64 0,.int .i64 0] 134)) w2.heap.size:=⟨0,0,0,0,0,0,0,Cells.new _ _ _⟩
   have hU3:=(Upd.refl Nob w2).alloc (.cells #[.int .i64 0,.int .i64 0,.int .i64 0,.int .i64 0,.int .i64 0,.int .i64 0,.int .i64 0] 134)
   have HW3:=ah (show ob < w2.heap.size∧w.heap.size < w2.heap.size from⟨HO.out.lt,by have:=HOB.out;have:=HO.out.lt;omega⟩)
   have HU:=ah (HU.out.trans hU3 (fun _ _ h=>h))
   have HO:=ah (HO.out.upd hU3 aj)
   have HT:=ah (HT.out.upd hU3 aj)
   have H1:=ah (H1.out.bA hU3 (fun _ _=>aj))
   have HR0:=ah hR0
   clear hR0 hU3 o0 o1 o2 o3 z0 z1 z2 z3 e0 e1 e2 e3 e4 e5 e6 e7 e8
   generalize w2.alloc (.cells #[.int .i64 0,.int .i64 0,.int .i64 0,.int .i64 0,.int .i64 0,.int .i64 0,.int .i64 0] 134)=w3 at *
   generalize w2.heap.size=rb at *
   go_wp2_with fail
   go_loopg [4,5] t.subs.length (fun gk v4 v5 wr=>∃(k:Nat),k+gk=t.subs.length∧v4=.int .i64 (k:Int)∧RowC wr rb∧Upd (fun b=>b=rb) w3 wr)
   case atStart=>exact⟨0,by omega,rfl,HR0.out,Upd.refl _ _⟩
   case round =>
   obtain⟨k,hk2,rfl,hR,hUr⟩:=hrel
   clear HR0
   have b3:wr.cell? ⟨w.heap.size,0+3,none⟩=some (.slice SA t.subs.length sc):=(HT.out.upd hUr (by have:=HW3.out;omega)).ak rfl
   have b0:wr.cell? ⟨w.heap.size,0+0,none⟩=some (.int .i64 t.kind):=(HT.out.upd hUr (by have:=HW3.out;omega)).ak rfl
   have HUr:=ah hUr
   have HR:=ah hR
   have HK:=ah hk2
   by_cases hlt:k < t.subs.length
   ·have g2:(k:Int) < (t.subs.length:Int):=by omega
    obtain⟨ad,g,o,x,PA,pc,QA,qc,rfl,hadd,hSg,hgl,hx,hX,hlx,hcs⟩:=aB.sub H1.out.open_.2.2 hlt
    have hgr:g≠rb:=by have hSg:g < w.heap.size:=hSg;have:=HW3.out;omega
    obtain⟨p0,p1,p2,p3,p4,p5,p6,p7,p8⟩:=bH (fun j v hv=>(hUr.cell (p:=⟨g,o+j,none⟩) hgl hgr).trans (hcs j v hv))
    have HXN:=ah (show SizeOf.sizeOf x≤n by have:=HN.out;omega)
    have HXK:=ah (H3.out k x hx)
    have HXX:=ah (hX.bA hUr (fun b hb e=>by have hb:b < w.heap.size:=hb;have:=HW3.out;omega))
    clear hcs hX hlx hx hUr hk2 hR hgr hSg hgl
    go_upto_region 13 with(go_at_call 59;refine(IH.out x (d+1) _ _ _ HXN.out HXK.out HXX.out).mono ?_;rintro e w5 ⟨k1,n1,s1,d1,rfl,hU5⟩;have HUr:=ah (HUr.out.trans hU5 (fun _ _ h=>absurd h aj));have HR:=ah (HR.out.upd hU5 aj);clear hU5;unfold gX)
    have HXS:=ah (show SumC (w5.alloc (.cells #[.int .i64 k1,.int .i64 n1,.int .i64 s1,.int .i64 d1] 115)) w5.heap.size from⟨k1,n1,s1,d1,Cells.new _ _ _⟩)
    have hUA:=(Upd.refl Nob w5).alloc (.cells #[.int .i64 k1,.int .i64 n1,.int .i64 s1,.int .i64 d1] 115)
    have HUr:=ah (HUr.out.trans hUA (fun _ _ h=>absurd h aj))
    have HR:=ah (HR.out.upd hUA aj)
    clear hUA b3 b0 p0 p1 p2 p3 p4 p5 p6 p7 p8
    generalize w5.alloc (.cells #[.int .i64 k1,.int .i64 n1,.int .i64 s1,.int .i64 d1] 115)=w6 at *
    generalize w5.heap.size=xb at *
    obtain⟨k3,n3,s3,d3,CX⟩:=HXS.out
    obtain⟨x0,x1,x2,x3⟩:=aA CX
    have b0:w6.cell? ⟨w.heap.size,0+0,none⟩=some (.int .i64 t.kind):=(HT.out.upd HUr.out (by have:=HW3.out;omega)).ak rfl
    clear CX
    go_wp2_with (go_at_call 82;refine(add7_any HR.out _ _ _ _ _ _).mono ?_;rintro e w7 ⟨⟨v,rfl⟩,h7,hU7⟩;have HUr:=ah (HUr.out.trans hU7 (fun _ _ h=>h));have HR:=ah h7;clear h7 hU7)
    go_roundg (t.subs.length - (k+1))
    case measure=>have:=HK.out;omega
    case rel=>exact⟨k+1,by have:=HK.out;omega,by go_num,HR.out,HUr.out⟩
   ·have g2:¬(k:Int) < (t.subs.length:Int):=by omega
    clear hUr hk2 hR b0
    have HU:=ah (HU.out.trans HUr.out (fun k hk e=>by have:=HW3.out.2;omega))
    have HO:=ah (HO.out.upd HUr.out (by have:=HW3.out;omega))
    have f0:wr.cell? ⟨w.heap.size,0+0,none⟩=some (.int .i64 t.kind):=(HT.out.upd HUr.out (by have:=HW3.out;omega)).ak rfl
    go_upto_region 18 with fail
    refine dn 16 (by kernel_rfl) (by kernel_rfl) ?_
    intro w9 U9 h9
    have HU:=ah (HU.out.trans U9 (fun _ _ h=>h))
    have HO:=ah (HO.out.upd U9 aj)
    obtain⟨sa,na,da,ka,na0,sa0,da0,CRR⟩:=HR.out.upd U9 aj
    have r0:w9.cell? ⟨rb,0,none⟩=some (.int .i64 sa):=CRR.ak rfl
    have r1:w9.cell? ⟨rb,1,none⟩=some (.int .i64 na):=CRR.ak rfl
    have r2:w9.cell? ⟨rb,2,none⟩=some (.int .i64 da):=CRR.ak rfl
    obtain⟨o0,o1,o2,o3⟩:=aA HO.out
    have z0:=HO.out.frozen 0
    have z1:=HO.out.frozen 1
    have z2:=HO.out.frozen 2
    have z3:=HO.out.frozen 3
    clear U9 h9 CRR
    simp only[List.take_succ_cons,List.take_zero,List.drop_succ_cons,List.drop_zero]
    repeat still_step
    refine wpStill_nil ?_
    go_wp2_with fail
    all_goals
     first
      | (obtain⟨C9,U9⟩:=dN HO.out HU.out (by have:=HOB.out;omega) (.int .i64 (5)) (.int .i64 (1099511627776)) (.int .i64 (sa)) (.int .i64 (wrap64 (da+1)))
         obtain⟨q0,q1,q2,q3⟩:=aA C9
         refine bodyPost_ret (by simp[results,Try.results59,go_sem,q0,q1,q2,q3];try rfl) rfl ?_
         exact HP.out _ _ _ _ _ U9)
      | (obtain⟨C9,U9⟩:=dN HO.out HU.out (by have:=HOB.out;omega) (.int .i64 (5)) (.int .i64 (wrap64 (na+1))) (.int .i64 (sa)) (.int .i64 (wrap64 (da+1)))
         obtain⟨q0,q1,q2,q3⟩:=aA C9
         refine bodyPost_ret (by simp[results,Try.results59,go_sem,q0,q1,q2,q3];try rfl) rfl ?_
         exact HP.out _ _ _ _ _ U9)
 ·have c4:(t.kind==4)=false:=by simp;omega
  have c5:(t.kind==5)=false:=by simp;omega
  clear k45 k6 k7 CO
  go_wp2_with fail
  obtain⟨C9,U9⟩:=dN HO.out HU.out (by have:=HOB.out;omega) (.int .i64 (t.kind)) (.int .i64 (1)) (.int .i64 (0)) (.int .i64 (1))
  obtain⟨q0,q1,q2,q3⟩:=aA C9
  refine bodyPost_ret (by simp[results,Try.results59,go_sem,q0,q1,q2,q3];try rfl) rfl ?_
  exact HP.out _ _ _ _ _ U9
end Go.Proofs.Ytnkefclbchpafaa

/-
  The walk of heronref09's row.loop. Printed by gen_loop9.py.
-/
namespace Go.Proofs.Ytnkefclbchpafaa
set_option maxRecDepth 100000
set_option maxHeartbeats 16000000
open Go.RowKit
set_option linter.unusedVariables false
theorem fF (l r:List av) (z y:av):(l++(z::r)).set l.length y=l++(y::r):=by
 rw[List.set_append,if_neg (by omega),Nat.sub_self]
 rfl
theorem je (l r:List av) (z:av):(l++(z::r))[l.length]?=some z:=by
 rw[List.getElem?_append_right (Nat.le_refl _),Nat.sub_self]
 rfl
theorem layT_6 {t x:Tree} (hk:t.kind=6) (hx:t.subs=[x]) (b:Nat):bG t b=(if t.mn=1 then bG x b++[iB b ((b+aL x+1:Nat):Int) t.lz] else if t.mx=-1 then iB ((b+1:Nat):Int) ((b+aL x+2:Nat):Int) t.lz::(bG x (b+1)++[aT 7 0 b 0 []]) else iB ((b+1:Nat):Int) ((b+aL x+1:Nat):Int) t.lz::bG x (b+1))∧aL t=(if t.mn=1 then aL x+1 else if t.mx=-1 then aL x+2 else aL x+1):=by
 obtain⟨k,rs,am,subs,mn,mx,lz,ix,nm⟩:=t
 have hk:k=6:=hk
 have hx:subs=[x]:=hx
 subst hk hx
 constructor
 ·rw[bG]
  simp only[iG,gF]
  rfl
 ·rw[aL]
  simp only[gF]
  rfl
theorem loop9_any (t x:Tree) (hk:t.kind=6) (hx1:t.subs=[x]) (hs:LayC x) (w:World) (base rb c:Nat) (A:Option Addr) (is:List av) (gs:List (Option Addr × Nat)) (S:Nat→Prop) (cs:Array Value) (hR:fC w base rb A c is gs) (h1:aB w S cs t) (hS:∀b,S b→b < base∧b≠rb) (hlen:is.length+aL t≤20000) :
  Calls Try.prog 62 #[.pointer (some ⟨rb,0,none⟩),.agg cs] w (LayAns w base rb A (is++bG t is.length)):=by
 obtain⟨RA,rc,SA,sc,rfl,-,-,-⟩:=h1.top
 generalize hP:LayAns w base rb A (is++bG t is.length)=P
 have HP:=ah (show ∀v w',(∃A' c' gs',eZ w base rb A w' A' c' (is++bG t is.length) gs')→P (.returned v) w' from fun v w' a=>by rw[←hP];exact⟨⟨v,rfl⟩,a⟩)
 clear hP
 obtain⟨hlay,hlt⟩:=layT_6 hk hx1 is.length
 have C0:=Cells.new w 47 (au t RA rc SA sc)
 have hU:=(Upd.refl Nob w).alloc (.cells (au t RA rc SA sc) 47)
 have H1:=ah (h1.bA hU (fun _ _=>aj))
 have HR:=ah hR
 have HL:=ah ((eZ.refl hR).nob hU)
 have HBX:=ah (show w.heap.size≠rb by have:=hR.box.lt;omega)
 have HSS:=ah hS
 have HY:=ah hlay
 have HLT:=ah hlt
 have HLEN:=ah hlen
 have HS1:=ah hs
 have HXS:=ah hx1
 have hlen2:(is.length:Int)≤20000:=by omega
 have r0:(w.alloc (.cells (au t RA rc SA sc) 47)).cell? ⟨rb,0,none⟩=some (.slice A is.length c):=HL.out.r.box.ak rfl
 clear hs h1 hS hlay hlt hlen hx1 hk hR
 unfold au at C0 hU r0 H1 HL
 unfold au
 go_enter Try.func62,Try.ntmps62
 go_upto_region 1 with fail
 generalize w.alloc (.cells #[.int .i64 t.kind,.slice RA t.rs.length rc,.int .i64 t.am,.slice SA t.subs.length sc,.int .i64 t.mn,.int .i64 t.mx,.bool t.lz,.int .i64 t.ix,.string t.nm] 47)=w1 at *
 have HT:=ah C0
 obtain⟨e0,e1,e2,e3,e4,e5,e6,e7,e8⟩:=aI C0
 obtain⟨gx,ox,x',PA,pc,QA,qc,rfl,hSg,hgl,hx,hX,hlx,hcs⟩:=aB.sub0 H1.out.open_.2.2 (by rw[HXS.out];simp)
 have hxx:x'=x:=by rw[HXS.out] at hx;simp at hx;exact hx.symm
 subst hxx
 have g0:0 < t.subs.length:=by rw[HXS.out];simp
 have HX:=ah hX
 have HGB:=ah (HSS.out gx hSg)
 have HCS:=ah (And.intro hgl hcs)
 obtain⟨p0,p1,p2,p3,p4,p5,p6,p7,p8⟩:=bH hcs
 clear C0 hU hX hlx hcs hx hSg hgl
 go_upto_region 3 with fail
 by_cases hm:t.mn=1
 ·have cm:(t.mn==1)=true:=by simp[hm]
  have HY1:=ah (show bG t is.length=bG x' is.length++[iB is.length ((is.length+aL x'+1:Nat):Int) t.lz] by rw[HY.out,if_pos hm])
  have HLT1:=ah (show is.length+aL x'+1≤20000 by have h1:=HLT.out;have h2:=HLEN.out;rw[if_pos hm] at h1;omega)
  clear hm HY HLT
  go_upto_region 5 with(go_at_call 41;refine(HS1.out _ base rb _ _ _ _ S _ HL.out.r HX.out HSS.out (by have:=HLT1.out;omega)).mono ?_;rintro e w5 ⟨⟨v,rfl⟩,A5,c3,gs5,hN⟩;have HT:=ah (hN.keep HL.out.r HT.out (by decide) HBX.out);have HL:=ah (HL.out.trans hN);clear hN)
  obtain⟨is1,hi1⟩:∃l,is++bG x' is.length=l:=⟨_,rfl⟩
  rw[hi1] at HL
  have HI1:=ah hi1
  have hl1:is1.length=is.length+aL x':=by rw[←hi1,List.length_append,bY]
  have HLEN2:=ah (show is1.length < 1000000 by have:=HLT1.out;omega)
  have HN1:=ah hl1
  clear hi1 hl1 r0 e0 e1 e2 e3 e4 e5 e6 e7 e8 p0 p1 p2 p3 p4 p5 p6 p7 p8
  have hn1:(is1.length:Int)≤20000:=by have:=HLT1.out;have:=HN1.out;omega
  go_upto_region 6 with(go_at_call 40;refine(fG HL.out.r HLEN2.out 2 0).mono ?_;rintro e w6 ⟨rfl,A6,c3,gs6,hN⟩;have HT:=ah (hN.keep HL.out.r HT.out (by decide) HBX.out);have HL:=ah (HL.out.trans hN);clear hN)
  obtain⟨g,rfl,-,-⟩:=HL.out.r.some_ (by simp)
  obtain⟨is2,hi2⟩:∃l,is1++[aT 2 0 ((is1.length:Int)+1) 0 []]=l:=⟨_,rfl⟩
  have HX:=ah (je is1 [] (aT 2 0 ((is1.length:Int)+1) 0 []))
  rw[hi2] at HL HX
  have HI2:=ah hi2
  have hnl:is1.length < is2.length:=(List.getElem?_eq_some_iff.1 HX.out).1
  have hnl2:(is1.length:Int) < (is2.length:Int):=by omega
  clear hi2
  have rbx:w6.cell? ⟨rb,0,none⟩=some (.slice (some ⟨g,0,none⟩) is2.length c3):=HL.out.r.box.ak rfl
  obtain⟨f0,f1,f2,f3,-⟩:=HL.out.r.cells HX.out
  have t1:=HL.out.r.thaw (is1.length*5+1)
  have t2:=HL.out.r.thaw (is1.length*5+2)
  go_upto_region 12 with fail
  have hX:=HL.out.setX HX.out (is.length:Int)
  have HT:=ah (HT.out.far ⟨g,is1.length*5+1,none⟩ (.int .i64 (is.length:Int)) (fun e=>HL.out.r.jE HT.out (by decide) (by rw[e];rfl)))
  clear rbx f0 f1 f2 f3 t1 t2 hnl hnl2
  generalize w6.setCell ⟨g,is1.length*5+1,none⟩ (.int .i64 (is.length:Int))=w66 at *
  have hs3:is2.set is1.length { aT 2 0 ((is1.length:Int)+1) 0 [] with x:=(is.length:Int) }=is1++[aT 2 0 (is.length:Int) 0 []]:=by
   rw[←HI2.out,fF]
   rfl
  rw[hs3] at hX
  clear hs3 HX
  obtain⟨x3,hx3⟩:∃z,aT 2 0 (is.length:Int) 0 []=z:=⟨_,rfl⟩
  rw[hx3] at hX
  obtain⟨is3,hi3⟩:∃l,is1++[x3]=l:=⟨_,rfl⟩
  have HX:=ah (je is1 [] x3)
  rw[hi3] at hX HX
  have HF:=ah (show(t.lz=false→is3.set is1.length { x3 with y:=(is3.length:Int) }=is++bG t is.length)∧(t.lz=true→is3.set is1.length { op:=x3.op,x:=(is3.length:Int),y:=x3.x,arg:=x3.arg,rs:=x3.rs }=is++bG t is.length) by
   have hl3:(is3.length:Int)=((is.length+aL x'+1:Nat):Int):=by rw[←hi3,List.length_append,HN1.out];rfl
   rw[hl3,←hi3,fF,fF,HY1.out,←hx3,←HI1.out,List.append_assoc,List.append_assoc]
   exact⟨fun h=>by rw[h];rfl,fun h=>by rw[h];rfl⟩)
  have HL:=ah hX
  clear hX hx3 hi3
  have hnl:is1.length < is3.length:=(List.getElem?_eq_some_iff.1 HX.out).1
  have hnl2:(is1.length:Int) < (is3.length:Int):=by omega
  have hnl3:(is3.length:Int)≤1000000:=by have:=HL.out.r.few;omega
  refine dn 12 (by kernel_rfl) (by kernel_rfl) ?_
  intro w7 U7 h7
  have HL:=ah (HL.out.nob U7)
  have HT:=ah (HT.out.upd U7 aj)
  clear U7 h7
  have rbx:w7.cell? ⟨rb,0,none⟩=some (.slice (some ⟨g,0,none⟩) is3.length c3):=HL.out.r.box.ak rfl
  obtain⟨f0,f1,f2,f3,-⟩:=HL.out.r.cells HX.out
  have t1:=HL.out.r.thaw (is1.length*5+1)
  have t2:=HL.out.r.thaw (is1.length*5+2)
  simp only[List.take_succ_cons,List.take_zero,List.drop_succ_cons,List.drop_zero]
  repeat still_step
  refine wpStill_nil ?_
  go_upto_region 13 with fail
  have hY:=HL.out.setY HX.out (is3.length:Int)
  have HT:=ah (HT.out.far ⟨g,is1.length*5+2,none⟩ (.int .i64 (is3.length:Int)) (fun e=>HL.out.r.jE HT.out (by decide) (by rw[e];rfl)))
  clear rbx f0 f1 f2 f3 t1 t2
  generalize w7.setCell ⟨g,is1.length*5+2,none⟩ (.int .i64 (is3.length:Int))=w8 at *
  obtain⟨e0,e1,e2,e3,e4,e5,e6,e7,e8⟩:=aI HT.out
  by_cases hlz:t.lz=true
  ·have HX4:=ah (show(is3.set (is1.length) { x3 with y:=(is3.length:Int) })[is1.length]?=some { x3 with y:=(is3.length:Int) } by rw[List.getElem?_set];simp[hnl])
   obtain⟨is4,h4⟩:∃l,is3.set (is1.length) { x3 with y:=(is3.length:Int) }=l:=⟨_,rfl⟩
   rw[h4] at hY HX4
   have HL4:=ah h4
   have hl4:is4.length=is3.length:=by rw[←h4,List.length_set]
   have HL:=ah hY
   have HX:=HX4
   have hnl4:is1.length < is4.length:=by omega
   have hnl5:(is1.length:Int) < (is4.length:Int):=by omega
   clear h4 hY hnl hnl2 hl4
   have rbx:w8.cell? ⟨rb,0,none⟩=some (.slice (some ⟨g,0,none⟩) is4.length c3):=HL.out.r.box.ak rfl
   obtain⟨f0,f1,f2,f3,-⟩:=HL.out.r.cells HX.out
   have t1:=HL.out.r.thaw (is1.length*5+1)
   have t2:=HL.out.r.thaw (is1.length*5+2)
   go_upto_region 15 with fail
   refine dn 15 (by kernel_rfl) (by kernel_rfl) ?_
   intro w9 U9 h9
   have HL:=ah (HL.out.nob U9)
   clear U9 h9 rbx f0 f1 f2 f3 t1 t2 e0 e1 e2 e3 e4 e5 e6 e7 e8
   have rbx:w9.cell? ⟨rb,0,none⟩=some (.slice (some ⟨g,0,none⟩) is4.length c3):=HL.out.r.box.ak rfl
   obtain⟨f0,f1,f2,f3,-⟩:=HL.out.r.cells HX.out
   have t1:=HL.out.r.thaw (is1.length*5+1)
   have t2:=HL.out.r.thaw (is1.length*5+2)
   simp only[List.take_succ_cons,List.take_zero,List.drop_succ_cons,List.drop_zero]
   repeat still_step
   refine wpStill_nil ?_
   go_upto_region 16 with fail
   have hX:=HL.out.setX HX.out (is3.length:Int)
   clear rbx f0 f1 f2 f3 t1 t2
   generalize w9.setCell ⟨g,is1.length*5+1,none⟩ (.int .i64 (is3.length:Int))=w10 at *
   have HX5:=ah (show(is4.set (is1.length) { op:=x3.op,x:=(is3.length:Int),y:=(is3.length:Int),arg:=x3.arg,rs:=x3.rs })[is1.length]?=some { op:=x3.op,x:=(is3.length:Int),y:=(is3.length:Int),arg:=x3.arg,rs:=x3.rs } by rw[List.getElem?_set];simp[hnl4])
   obtain⟨is5,h5⟩:∃l,is4.set (is1.length) { op:=x3.op,x:=(is3.length:Int),y:=(is3.length:Int),arg:=x3.arg,rs:=x3.rs }=l:=⟨_,rfl⟩
   rw[h5] at hX HX5
   have HL5:=ah h5
   have hl5:is5.length=is4.length:=by rw[←h5,List.length_set]
   have HL:=ah hX
   have HX:=HX5
   have hnl6:is1.length < is5.length:=by omega
   have hnl7:(is1.length:Int) < (is5.length:Int):=by omega
   clear h5 hX hnl4 hnl5 hl5
   have rbx:w10.cell? ⟨rb,0,none⟩=some (.slice (some ⟨g,0,none⟩) is5.length c3):=HL.out.r.box.ak rfl
   obtain⟨f0,f1,f2,f3,-⟩:=HL.out.r.cells HX.out
   have t1:=HL.out.r.thaw (is1.length*5+1)
   have t2:=HL.out.r.thaw (is1.length*5+2)
   go_wp2_with fail
   try simp only[Exit.inBlock,Exit.then]
   refine bodyPost_ret (results_none rfl _ _ _) rfl ?_
   have hz:=HL.out.setY HX.out x3.x
   have hfin:is5.set (is1.length) { op:=x3.op,x:=(is3.length:Int),y:=x3.x,arg:=x3.arg,rs:=x3.rs }=is++bG t is.length:=by
    rw[←HL5.out,←HL4.out,List.set_set,List.set_set]
    exact HF.out.2 hlz
   rw[hfin] at hz
   exact HP.out _ _ ⟨_,_,_,hz⟩
  ·have HL:=ah hY
   have hlz2:t.lz=false:=by simpa using hlz
   clear hY hlz
   go_wp2_with fail
   try simp only[Exit.inBlock,Exit.then]
   refine bodyPost_ret (results_none rfl _ _ _) rfl ?_
   have hz:=HL.out
   rw[HF.out.1 hlz2] at hz
   exact HP.out _ _ ⟨_,_,_,hz⟩
 have cm:(t.mn==1)=false:=by simpa using hm
 have HLEN2:=ah (show is.length < 1000000 by have:=HLEN.out;omega)
 go_upto_region 8 with(go_at_call 40;refine(fG HL.out.r HLEN2.out 2 0).mono ?_;rintro e w6 ⟨rfl,A6,k6,gs6,hN⟩;have HT:=ah (hN.keep HL.out.r HT.out (by decide) HBX.out);have HX:=ah (hN.node HL.out.r HX.out HSS.out);have HCS2:=ah (show ∀(j:Nat) (v:Value),(#[.int .i64 x'.kind,.slice PA x'.rs.length pc,.int .i64 x'.am,.slice QA x'.subs.length qc,.int .i64 x'.mn,.int .i64 x'.mx,.bool x'.lz,.int .i64 x'.ix,.string x'.nm]:Array Value)[j]?=some v→w6.cell? ⟨gx,ox+j,none⟩=some v from fun j v hv=>(hN.u.cell (p:=⟨gx,ox+j,none⟩) HCS.out.1 (fun e=>e.elim HGB.out.2 (fun e=>by have h1:=HL.out.r.own_lo_ e;have h2:=HGB.out.1;have e1:(⟨gx,ox+j,none⟩:Addr).block=gx:=rfl;omega))).trans (HCS.out.2 j v hv));have HL:=ah (HL.out.trans hN);clear hN)
 clear r0 e0 e1 e2 e3 e4 e5 e6 e7 e8 p0 p1 p2 p3 p4 p5 p6 p7 p8
 obtain⟨e0,e1,e2,e3,e4,e5,e6,e7,e8⟩:=aI HT.out
 obtain⟨p0,p1,p2,p3,p4,p5,p6,p7,p8⟩:=bH HCS2.out
 obtain⟨z0,hz0⟩:∃z,aT 2 0 ((is.length:Int)+1) 0 []=z:=⟨_,rfl⟩
 rw[hz0] at HL
 have HZ0:=ah hz0
 obtain⟨is1,hi1⟩:∃l,is++[z0]=l:=⟨_,rfl⟩
 rw[hi1] at HL
 have HI1:=ah hi1
 have hl1:is1.length=is.length+1:=by rw[←hi1,List.length_append];rfl
 have HN1:=ah hl1
 have HLT1:=ah (show is.length+1+aL x'≤20000 by have h1:=HLT.out;have h2:=HLEN.out;rw[if_neg hm] at h1;split at h1 <;> omega)
 clear hz0 hi1 hl1
 go_upto_region 9 with(go_at_call 41;refine(HS1.out _ base rb _ _ _ _ S _ HL.out.r HX.out HSS.out (by have:=HLT1.out;have:=HN1.out;omega)).mono ?_;rintro e w5 ⟨⟨v,rfl⟩,A5,c3,gs5,hN⟩;have HT:=ah (hN.keep HL.out.r HT.out (by decide) HBX.out);have HL:=ah (HL.out.trans hN);clear hN)
 obtain⟨is2,hi2⟩:∃l,is1++bG x' is1.length=l:=⟨_,rfl⟩
 rw[hi2] at HL
 have HI2:=ah (show is2=is++(z0::bG x' (is.length+1)) by rw[←hi2,HN1.out,←HI1.out,List.append_assoc];rfl)
 have hl2:is2.length=is.length+1+aL x':=by rw[←hi2,List.length_append,bY,HN1.out]
 have HN2:=ah hl2
 clear hi2 hl2 e0 e1 e2 e3 e4 e5 e6 e7 e8 p0 p1 p2 p3 p4 p5 p6 p7 p8
 obtain⟨e0,e1,e2,e3,e4,e5,e6,e7,e8⟩:=aI HT.out
 by_cases hm1:t.mx=-1
 ·have cx:(t.mx==-1)=true:=by simp[hm1]
  have HY1:=ah (show bG t is.length=iB ((is.length+1:Nat):Int) ((is.length+aL x'+2:Nat):Int) t.lz::(bG x' (is.length+1)++[aT 7 0 is.length 0 []]) by rw[HY.out,if_neg hm,if_pos hm1])
  have HLT2:=ah (show is.length+aL x'+2≤20000 by have h1:=HLT.out;have h2:=HLEN.out;rw[if_neg hm,if_pos hm1] at h1;omega)
  have HLEN3:=ah (show is2.length < 1000000 by have:=HLT2.out;have:=HN2.out;omega)
  have hn2:(is2.length:Int)≤20000:=by have:=HLT2.out;have:=HN2.out;omega
  clear hm hm1 HY HLT
  go_upto_region 11 with(go_at_call 40;refine(fG HL.out.r HLEN3.out 7 0).mono ?_;rintro e w7 ⟨rfl,A7,c3,gs7,hN⟩;have HT:=ah (hN.keep HL.out.r HT.out (by decide) HBX.out);have HL:=ah (HL.out.trans hN);clear hN)
  obtain⟨g,rfl,-,-⟩:=HL.out.r.some_ (by simp)
  obtain⟨is8,hi8⟩:∃l,is2++[aT 7 0 ((is2.length:Int)+1) 0 []]=l:=⟨_,rfl⟩
  have HX:=ah (je is2 [] (aT 7 0 ((is2.length:Int)+1) 0 []))
  rw[hi8] at HL HX
  have HI8:=ah hi8
  have hnl:is2.length < is8.length:=(List.getElem?_eq_some_iff.1 HX.out).1
  have hnl2:(is2.length:Int) < (is8.length:Int):=by omega
  clear hi8
  have rbx:w7.cell? ⟨rb,0,none⟩=some (.slice (some ⟨g,0,none⟩) is8.length c3):=HL.out.r.box.ak rfl
  obtain⟨f0,f1,f2,f3,-⟩:=HL.out.r.cells HX.out
  have t1:=HL.out.r.thaw (is2.length*5+1)
  have t2:=HL.out.r.thaw (is2.length*5+2)
  go_upto_region 12 with fail
  have hX:=HL.out.setX HX.out (is.length:Int)
  have HT:=ah (HT.out.far ⟨g,is2.length*5+1,none⟩ (.int .i64 (is.length:Int)) (fun e=>HL.out.r.jE HT.out (by decide) (by rw[e];rfl)))
  clear rbx f0 f1 f2 f3 t1 t2 hnl hnl2 e0 e1 e2 e3 e4 e5 e6 e7 e8
  generalize w7.setCell ⟨g,is2.length*5+1,none⟩ (.int .i64 (is.length:Int))=w66 at *
  have hs3:is8.set is2.length { aT 7 0 ((is2.length:Int)+1) 0 [] with x:=(is.length:Int) }=is++(z0::(bG x' (is.length+1)++[aT 7 0 is.length 0 []])):=by
   rw[←HI8.out,fF,HI2.out,List.append_assoc]
   rfl
  rw[hs3] at hX
  clear hs3 HX
  obtain⟨is3,hi3⟩:∃l,is++(z0::(bG x' (is.length+1)++[aT 7 0 is.length 0 []]))=l:=⟨_,rfl⟩
  have HX:=ah (je is (bG x' (is.length+1)++[aT 7 0 is.length 0 []]) z0)
  rw[hi3] at hX HX
  obtain⟨x3,hx3⟩:∃z,z0=z:=⟨_,rfl⟩
  rw[hx3] at HX hi3
  have HF:=ah (show(t.lz=false→is3.set is.length { x3 with y:=(is3.length:Int) }=is++bG t is.length)∧(t.lz=true→is3.set is.length { op:=x3.op,x:=(is3.length:Int),y:=x3.x,arg:=x3.arg,rs:=x3.rs }=is++bG t is.length) by
   have hl3:(is3.length:Int)=((is.length+aL x'+2:Nat):Int):=by rw[←hi3];simp[bY];omega
   rw[hl3,←hi3,fF,fF,HY1.out,←hx3,←HZ0.out]
   exact⟨fun h=>by rw[h];rfl,fun h=>by rw[h];rfl⟩)
  have HL:=ah hX
  clear hX hx3 hi3
  have hnl:is.length < is3.length:=(List.getElem?_eq_some_iff.1 HX.out).1
  have hnl2:(is.length:Int) < (is3.length:Int):=by omega
  have hnl3:(is3.length:Int)≤1000000:=by have:=HL.out.r.few;omega
  refine dn 12 (by kernel_rfl) (by kernel_rfl) ?_
  intro w7 U7 h7
  have HL:=ah (HL.out.nob U7)
  have HT:=ah (HT.out.upd U7 aj)
  clear U7 h7
  have rbx:w7.cell? ⟨rb,0,none⟩=some (.slice (some ⟨g,0,none⟩) is3.length c3):=HL.out.r.box.ak rfl
  obtain⟨f0,f1,f2,f3,-⟩:=HL.out.r.cells HX.out
  have t1:=HL.out.r.thaw (is.length*5+1)
  have t2:=HL.out.r.thaw (is.length*5+2)
  simp only[List.take_succ_cons,List.take_zero,List.drop_succ_cons,List.drop_zero]
  repeat still_step
  refine wpStill_nil ?_
  go_upto_region 13 with fail
  have hY:=HL.out.setY HX.out (is3.length:Int)
  have HT:=ah (HT.out.far ⟨g,is.length*5+2,none⟩ (.int .i64 (is3.length:Int)) (fun e=>HL.out.r.jE HT.out (by decide) (by rw[e];rfl)))
  clear rbx f0 f1 f2 f3 t1 t2
  generalize w7.setCell ⟨g,is.length*5+2,none⟩ (.int .i64 (is3.length:Int))=w8 at *
  obtain⟨e0,e1,e2,e3,e4,e5,e6,e7,e8⟩:=aI HT.out
  by_cases hlz:t.lz=true
  ·have HX4:=ah (show(is3.set (is.length) { x3 with y:=(is3.length:Int) })[is.length]?=some { x3 with y:=(is3.length:Int) } by rw[List.getElem?_set];simp[hnl])
   obtain⟨is4,h4⟩:∃l,is3.set (is.length) { x3 with y:=(is3.length:Int) }=l:=⟨_,rfl⟩
   rw[h4] at hY HX4
   have HL4:=ah h4
   have hl4:is4.length=is3.length:=by rw[←h4,List.length_set]
   have HL:=ah hY
   have HX:=HX4
   have hnl4:is.length < is4.length:=by omega
   have hnl5:(is.length:Int) < (is4.length:Int):=by omega
   clear h4 hY hnl hnl2 hl4
   have rbx:w8.cell? ⟨rb,0,none⟩=some (.slice (some ⟨g,0,none⟩) is4.length c3):=HL.out.r.box.ak rfl
   obtain⟨f0,f1,f2,f3,-⟩:=HL.out.r.cells HX.out
   have t1:=HL.out.r.thaw (is.length*5+1)
   have t2:=HL.out.r.thaw (is.length*5+2)
   go_upto_region 15 with fail
   refine dn 15 (by kernel_rfl) (by kernel_rfl) ?_
   intro w9 U9 h9
   have HL:=ah (HL.out.nob U9)
   clear U9 h9 rbx f0 f1 f2 f3 t1 t2 e0 e1 e2 e3 e4 e5 e6 e7 e8
   have rbx:w9.cell? ⟨rb,0,none⟩=some (.slice (some ⟨g,0,none⟩) is4.length c3):=HL.out.r.box.ak rfl
   obtain⟨f0,f1,f2,f3,-⟩:=HL.out.r.cells HX.out
   have t1:=HL.out.r.thaw (is.length*5+1)
   have t2:=HL.out.r.thaw (is.length*5+2)
   simp only[List.take_succ_cons,List.take_zero,List.drop_succ_cons,List.drop_zero]
   repeat still_step
   refine wpStill_nil ?_
   go_upto_region 16 with fail
   have hX:=HL.out.setX HX.out (is3.length:Int)
   clear rbx f0 f1 f2 f3 t1 t2
   generalize w9.setCell ⟨g,is.length*5+1,none⟩ (.int .i64 (is3.length:Int))=w10 at *
   have HX5:=ah (show(is4.set (is.length) { op:=x3.op,x:=(is3.length:Int),y:=(is3.length:Int),arg:=x3.arg,rs:=x3.rs })[is.length]?=some { op:=x3.op,x:=(is3.length:Int),y:=(is3.length:Int),arg:=x3.arg,rs:=x3.rs } by rw[List.getElem?_set];simp[hnl4])
   obtain⟨is5,h5⟩:∃l,is4.set (is.length) { op:=x3.op,x:=(is3.length:Int),y:=(is3.length:Int),arg:=x3.arg,rs:=x3.rs }=l:=⟨_,rfl⟩
   rw[h5] at hX HX5
   have HL5:=ah h5
   have hl5:is5.length=is4.length:=by rw[←h5,List.length_set]
   have HL:=ah hX
   have HX:=HX5
   have hnl6:is.length < is5.length:=by omega
   have hnl7:(is.length:Int) < (is5.length:Int):=by omega
   clear h5 hX hnl4 hnl5 hl5
   have rbx:w10.cell? ⟨rb,0,none⟩=some (.slice (some ⟨g,0,none⟩) is5.length c3):=HL.out.r.box.ak rfl
   obtain⟨f0,f1,f2,f3,-⟩:=HL.out.r.cells HX.out
   have t1:=HL.out.r.thaw (is.length*5+1)
   have t2:=HL.out.r.thaw (is.length*5+2)
   go_wp2_with fail
   try simp only[Exit.inBlock,Exit.then]
   refine bodyPost_ret (results_none rfl _ _ _) rfl ?_
   have hz:=HL.out.setY HX.out x3.x
   have hfin:is5.set (is.length) { op:=x3.op,x:=(is3.length:Int),y:=x3.x,arg:=x3.arg,rs:=x3.rs }=is++bG t is.length:=by
    rw[←HL5.out,←HL4.out,List.set_set,List.set_set]
    exact HF.out.2 hlz
   rw[hfin] at hz
   exact HP.out _ _ ⟨_,_,_,hz⟩
  ·have HL:=ah hY
   have hlz2:t.lz=false:=by simpa using hlz
   clear hY hlz
   go_wp2_with fail
   try simp only[Exit.inBlock,Exit.then]
   refine bodyPost_ret (results_none rfl _ _ _) rfl ?_
   have hz:=HL.out
   rw[HF.out.1 hlz2] at hz
   exact HP.out _ _ ⟨_,_,_,hz⟩
 ·have cx:(t.mx==-1)=false:=by simpa using hm1
  have HY1:=ah (show bG t is.length=iB ((is.length+1:Nat):Int) ((is.length+aL x'+1:Nat):Int) t.lz::bG x' (is.length+1) by rw[HY.out,if_neg hm,if_neg hm1])
  clear hm hm1 HY HLT
  have HX:=ah (je is (bG x' (is.length+1)) z0)
  obtain⟨g,rfl,-,-⟩:=HL.out.r.some_ (by have:=HN2.out;omega)
  go_upto_region 12 with fail
  clear e0 e1 e2 e3 e4 e5 e6 e7 e8
  obtain⟨is3,hi3⟩:∃l,is2=l:=⟨_,rfl⟩
  have hX:=HL.out
  rw[←HI2.out] at HX
  rw[hi3] at hX HX
  obtain⟨x3,hx3⟩:∃z,z0=z:=⟨_,rfl⟩
  rw[hx3] at HX
  have HF:=ah (show(t.lz=false→is3.set is.length { x3 with y:=(is3.length:Int) }=is++bG t is.length)∧(t.lz=true→is3.set is.length { op:=x3.op,x:=(is3.length:Int),y:=x3.x,arg:=x3.arg,rs:=x3.rs }=is++bG t is.length) by
   have hl3:(is3.length:Int)=((is.length+aL x'+1:Nat):Int):=by rw[←hi3,HN2.out];omega
   rw[hl3,←hi3,HI2.out,fF,fF,HY1.out,←hx3,←HZ0.out]
   exact⟨fun h=>by rw[h];rfl,fun h=>by rw[h];rfl⟩)
  have HL:=ah hX
 
  clear hX hx3 hi3
  have hnl:is.length < is3.length:=(List.getElem?_eq_some_iff.1 HX.out).1
  have hnl2:(is.length:Int) < (is3.length:Int):=by omega
  have hnl3:(is3.length:Int)≤1000000:=by have:=HL.out.r.few;omega
  refine dn 12 (by kernel_rfl) (by kernel_rfl) ?_
  intro w7 U7 h7
  have HL:=ah (HL.out.nob U7)
  have HT:=ah (HT.out.upd U7 aj)
  clear U7 h7
  have rbx:w7.cell? ⟨rb,0,none⟩=some (.slice (some ⟨g,0,none⟩) is3.length c3):=HL.out.r.box.ak rfl
  obtain⟨f0,f1,f2,f3,-⟩:=HL.out.r.cells HX.out
  have t1:=HL.out.r.thaw (is.length*5+1)
  have t2:=HL.out.r.thaw (is.length*5+2)
  simp only[List.take_succ_cons,List.take_zero,List.drop_succ_cons,List.drop_zero]
  repeat still_step
  refine wpStill_nil ?_
  go_upto_region 13 with fail
  have hY:=HL.out.setY HX.out (is3.length:Int)
  have HT:=ah (HT.out.far ⟨g,is.length*5+2,none⟩ (.int .i64 (is3.length:Int)) (fun e=>HL.out.r.jE HT.out (by decide) (by rw[e];rfl)))
  clear rbx f0 f1 f2 f3 t1 t2
  generalize w7.setCell ⟨g,is.length*5+2,none⟩ (.int .i64 (is3.length:Int))=w8 at *
  obtain⟨e0,e1,e2,e3,e4,e5,e6,e7,e8⟩:=aI HT.out
  by_cases hlz:t.lz=true
  ·have HX4:=ah (show(is3.set (is.length) { x3 with y:=(is3.length:Int) })[is.length]?=some { x3 with y:=(is3.length:Int) } by rw[List.getElem?_set];simp[hnl])
   obtain⟨is4,h4⟩:∃l,is3.set (is.length) { x3 with y:=(is3.length:Int) }=l:=⟨_,rfl⟩
   rw[h4] at hY HX4
   have HL4:=ah h4
   have hl4:is4.length=is3.length:=by rw[←h4,List.length_set]
   have HL:=ah hY
   have HX:=HX4
   have hnl4:is.length < is4.length:=by omega
   have hnl5:(is.length:Int) < (is4.length:Int):=by omega
   clear h4 hY hnl hnl2 hl4
   have rbx:w8.cell? ⟨rb,0,none⟩=some (.slice (some ⟨g,0,none⟩) is4.length c3):=HL.out.r.box.ak rfl
   obtain⟨f0,f1,f2,f3,-⟩:=HL.out.r.cells HX.out
   have t1:=HL.out.r.thaw (is.length*5+1)
   have t2:=HL.out.r.thaw (is.length*5+2)
   go_upto_region 15 with fail
   refine dn 15 (by kernel_rfl) (by kernel_rfl) ?_
   intro w9 U9 h9
   have HL:=ah (HL.out.nob U9)
   clear U9 h9 rbx f0 f1 f2 f3 t1 t2 e0 e1 e2 e3 e4 e5 e6 e7 e8
   have rbx:w9.cell? ⟨rb,0,none⟩=some (.slice (some ⟨g,0,none⟩) is4.length c3):=HL.out.r.box.ak rfl
   obtain⟨f0,f1,f2,f3,-⟩:=HL.out.r.cells HX.out
   have t1:=HL.out.r.thaw (is.length*5+1)
   have t2:=HL.out.r.thaw (is.length*5+2)
   simp only[List.take_succ_cons,List.take_zero,List.drop_succ_cons,List.drop_zero]
   repeat still_step
   refine wpStill_nil ?_
   go_upto_region 16 with fail
   have hX:=HL.out.setX HX.out (is3.length:Int)
   clear rbx f0 f1 f2 f3 t1 t2
   generalize w9.setCell ⟨g,is.length*5+1,none⟩ (.int .i64 (is3.length:Int))=w10 at *
   have HX5:=ah (show(is4.set (is.length) { op:=x3.op,x:=(is3.length:Int),y:=(is3.length:Int),arg:=x3.arg,rs:=x3.rs })[is.length]?=some { op:=x3.op,x:=(is3.length:Int),y:=(is3.length:Int),arg:=x3.arg,rs:=x3.rs } by rw[List.getElem?_set];simp[hnl4])
   obtain⟨is5,h5⟩:∃l,is4.set (is.length) { op:=x3.op,x:=(is3.length:Int),y:=(is3.length:Int),arg:=x3.arg,rs:=x3.rs }=l:=⟨_,rfl⟩
   rw[h5] at hX HX5
   have HL5:=ah h5
   have hl5:is5.length=is4.length:=by rw[←h5,List.length_set]
   have HL:=ah hX
   have HX:=HX5
   have hnl6:is.length < is5.length:=by omega
   have hnl7:(is.length:Int) < (is5.length:Int):=by omega
   clear h5 hX hnl4 hnl5 hl5
   have rbx:w10.cell? ⟨rb,0,none⟩=some (.slice (some ⟨g,0,none⟩) is5.length c3):=HL.out.r.box.ak rfl
   obtain⟨f0,f1,f2,f3,-⟩:=HL.out.r.cells HX.out
   have t1:=HL.out.r.thaw (is.length*5+1)
   have t2:=HL.out.r.thaw (is.length*5+2)
   go_wp2_with fail
   try simp only[Exit.inBlock,Exit.then]
   refine bodyPost_ret (results_none rfl _ _ _) rfl ?_
   have hz:=HL.out.setY HX.out x3.x
   have hfin:is5.set (is.length) { op:=x3.op,x:=(is3.length:Int),y:=x3.x,arg:=x3.arg,rs:=x3.rs }=is++bG t is.length:=by
    rw[←HL5.out,←HL4.out,List.set_set,List.set_set]
    exact HF.out.2 hlz
   rw[hfin] at hz
   exact HP.out _ _ ⟨_,_,_,hz⟩
  ·have HL:=ah hY
   have hlz2:t.lz=false:=by simpa using hlz
   clear hY hlz
   go_wp2_with fail
   try simp only[Exit.inBlock,Exit.then]
   refine bodyPost_ret (results_none rfl _ _ _) rfl ?_
   have hz:=HL.out
   rw[HF.out.1 hlz2] at hz
   exact HP.out _ _ ⟨_,_,_,hz⟩
end Go.Proofs.Ytnkefclbchpafaa
