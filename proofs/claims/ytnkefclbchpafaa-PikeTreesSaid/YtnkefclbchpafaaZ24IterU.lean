/-
  Alt9, OkY, IterU, put together.
-/
import Derived.Test.YtnkefclbchpafaaZ23Lp9
import Derived.Test.YtnkefclbchpafaaZ15RowO

/-
  The walk of heronref09's row.alt. Printed by gen_alt9.py.
-/
namespace Go.Proofs.Ytnkefclbchpafaa
set_option maxRecDepth 100000
set_option maxHeartbeats 16000000
open Go.RowKit
set_option linter.unusedVariables false
def iC:List Tree→Nat→List av
 | [],_=>[]
 | t::l,b=>aT 2 0 ((b+1:Nat):Int) ((b+aL t+2:Nat):Int) []::(bG t (b+1)++(aT 7 0 ((b+aL t+2:Nat):Int) 0 []::iC l (b+aL t+2)))
def jmpT:List Tree→Nat→List Nat
 | [],_=>[]
 | t::l,b=>(b+1+aL t)::jmpT l (b+aL t+2)
theorem layTQ_len:∀(l:List Tree) (b:Nat),(iC l b).length=bf l
 | [],b=>rfl
 | t::l,b=>by
  rw[iC,bf]
  simp only[List.length_cons,List.length_append,bY t,layTQ_len l]
  omega
theorem layTQ_app:∀(l r:List Tree) (b:Nat),iC (l++r) b=iC l b++iC r (b+bf l)
 | [],r,b=>rfl
 | t::l,r,b=>by
  rw[List.cons_append,iC,iC,layTQ_app l r,bf]
  simp only[List.cons_append,List.append_assoc]
  rw[show b+aL t+2+bf l=b+(aL t+2+bf l) by omega]
theorem jmpT_app:∀(l r:List Tree) (b:Nat),jmpT (l++r) b=jmpT l b++jmpT r (b+bf l)
 | [],r,b=>rfl
 | t::l,r,b=>by
  rw[List.cons_append,jmpT,jmpT,jmpT_app l r,bf]
  simp only[List.cons_append]
  rw[show b+aL t+2+bf l=b+(aL t+2+bf l) by omega]
theorem jmpT_at:∀(l:List Tree) (b k:Nat) (x:Tree),l[k]?=some x→(jmpT l b)[k]?=some (b+bf (l.take k)+1+aL x)
 | [],b,k,x,h=>by simp at h
 | t::l,b,0,x,h=>by
  simp at h
  subst h
  simp[jmpT,bf]
 | t::l,b,k+1,x,h=>by
  have:=jmpT_at l (b+aL t+2) k x (by simpa using h)
  rw[jmpT,List.getElem?_cons_succ,this,List.take_succ_cons,bf]
  congr 1
  omega
def altK (l:List Tree) (b e k:Nat):List av:=gM (l.take k) b e++iC (l.drop k) (b+bf (l.take k))
theorem altK_len (l:List Tree) (b e k:Nat):(altK l b e k).length=bf l:=by
 unfold altK
 rw[List.length_append,layTO_len,layTQ_len,←lenTO_app,List.take_append_drop]
theorem altK_0 (l:List Tree) (b e:Nat):altK l b e 0=iC l b:=by
 unfold altK
 rw[List.take_zero,List.drop_zero,gM,bf]
 rfl
theorem altK_all (l:List Tree) (b e:Nat):altK l b e l.length=gM l b e:=by
 unfold altK
 rw[List.take_length,List.drop_length,iC,List.append_nil]
theorem altK_step {l:List Tree} {k:Nat} {x:Tree} (h:l[k]?=some x) (b e:Nat):∃pre suf,pre.length=bf (l.take k)+1+aL x ∧
  altK l b e k=pre++(aT 7 0 ((b+bf (l.take k)+aL x+2:Nat):Int) 0 []::suf)∧altK l b e (k+1)=pre++(aT 7 0 (e:Int) 0 []::suf):=by
 obtain⟨hk,rfl⟩:=List.getElem?_eq_some_iff.1 h
 refine⟨gM (l.take k) b e++(aT 2 0 ((b+bf (l.take k)+1:Nat):Int) ((b+bf (l.take k)+aL l[k]+2:Nat):Int) []::bG l[k] (b+bf (l.take k)+1)),iC (l.drop (k+1)) (b+bf (l.take k)+aL l[k]+2),?_,?_,?_⟩
 ·simp only[List.length_append,List.length_cons,layTO_len,bY]
  omega
 ·unfold altK
  rw[List.drop_eq_getElem_cons hk,iC]
  simp only[List.append_assoc,List.cons_append]
 ·unfold altK
  rw[List.take_succ_eq_append_getElem hk,layTO_app,lenTO_app,gM,gM,bf,bf]
  simp only[List.append_assoc,List.cons_append,List.nil_append]
  rw[show b+(bf (l.take k)+(aL l[k]+2+0))=b+bf (l.take k)+aL l[k]+2 by omega]
  rfl
theorem layT_5s {t:Tree} {l:List Tree} {y:Tree} (hk:t.kind=5) (hs:t.subs=l++[y]) (b:Nat):bG t b=gM l b (b+aL t)++bG y (b+bf l)∧aL t=bf l+aL y:=by
 obtain⟨h1,h2⟩:=layT_5 hk b
 have h3:=lenTA_app l [y] (by simp)
 rw[iL] at h3
 rw[hs] at h1 h2
 refine⟨?_,by omega⟩
 rw[h1,layTA_app l [y] _ _ (by simp),gV,h2]
theorem alt9_any (t y:Tree) (l:List Tree) (hk:t.kind=5) (hx1:t.subs=l++[y]) (hs:∀x∈t.subs,LayC x) (w:World) (base rb c:Nat) (A:Option Addr) (is:List av) (gs:List (Option Addr × Nat)) (S:Nat→Prop) (cs:Array Value) (hR:fC w base rb A c is gs) (h1:aB w S cs t) (hS:∀b,S b→b < base∧b≠rb) (hlen:is.length+aL t≤20000) :
  Calls Try.prog 61 #[.pointer (some ⟨rb,0,none⟩),.agg cs] w (LayAns w base rb A (is++bG t is.length)):=by
 obtain⟨RA,rc,SA,sc,rfl,-,hok,-⟩:=h1.top
 generalize hP:LayAns w base rb A (is++bG t is.length)=P
 have HP:=ah (show ∀v w',(∃A' c' gs',eZ w base rb A w' A' c' (is++bG t is.length) gs')→P (.returned v) w' from fun v w' a=>by rw[←hP];exact⟨⟨v,rfl⟩,a⟩)
 clear hP
 obtain⟨hlay,hlt⟩:=layT_5s hk hx1 is.length
 have C0:=Cells.new w 47 (au t RA rc SA sc)
 have hU:=(Upd.refl Nob w).alloc (.cells (au t RA rc SA sc) 47)
 have H1:=ah h1
 have HR:=ah hR
 have HL:=ah ((eZ.refl hR).nob hU)
 have HBX:=ah (show w.heap.size≠rb by have:=hR.box.lt;omega)
 have HSS:=ah hS
 have HY:=ah hlay
 have HLT:=ah hlt
 have HLEN:=ah hlen
 have HS1:=ah hs
 have HXS:=ah hx1
 have hsl:t.subs.length=l.length+1:=by rw[hx1];simp
 have HSL:=ah hsl
 have hnn:(t.subs.length:Int)≤140737488355328:=by have:=hok.n;omega
 have hnp:(1:Int)≤(t.subs.length:Int):=by omega
 have hlen2:(is.length:Int)≤20000:=by omega
 have hll:(l.length:Int)≤20000:=by
  have:∀l:List Tree,l.length≤bf l:=fun l=>by
   induction l with
   | nil=>simp[bf]
   | cons t l ih=>rw[bf,List.length_cons];omega
  have:=this l
  omega
 clear hs h1 hS hlay hlt hlen hx1 hk hR hsl
 unfold au at C0 hU H1 HL
 unfold au
 go_enter Try.func61,Try.ntmps61
 go_upto_region 1 with fail
 generalize w.alloc (.cells #[.int .i64 t.kind,.slice RA t.rs.length rc,.int .i64 t.am,.slice SA t.subs.length sc,.int .i64 t.mn,.int .i64 t.mx,.bool t.lz,.int .i64 t.ix,.string t.nm] 47)=w1 at *
 have HT:=ah C0
 have HJ0:=ah (show w1.ownsRow w.heap.size 3 1 (.slice none 0 0) 0 (bn ((jmpT (l.take 0) is.length).map fun(n:Nat)=>(n:Int))) from World.ownsRow_nil _ _ _ _)
 have HL0:=ah (show eZ w base rb A w1 A c (is++iC (l.take 0) is.length) gs by rw[List.take_zero,iC,List.append_nil];exact HL.out)
 clear C0 hU HL
 go_wp2_with fail
 go_loopg [4,5,6,7] t.subs.length (fun gk v4 v5 v6 v7 wr=>∃(i:Nat) (JA:Option Addr) (jc:Nat) (A':Option Addr) (c':Nat) (gs':List (Option Addr × Nat)),i+gk=t.subs.length∧i≤l.length∧v5=.int .i64 (i:Int)∧v4=.slice JA i jc∧wr.ownsRow w.heap.size 3 1 (.slice JA i jc) i (bn ((jmpT (l.take i) is.length).map fun(n:Nat)=>(n:Int)))∧eZ w base rb A wr A' c' (is++iC (l.take i) is.length) gs'∧Cells wr w.heap.size 47 #[.int .i64 t.kind,.slice RA t.rs.length rc,.int .i64 t.am,.slice SA t.subs.length sc,.int .i64 t.mn,.int .i64 t.mx,.bool t.lz,.int .i64 t.ix,.string t.nm])
 case atStart=>exact⟨0,none,0,A,c,gs,by omega,by omega,rfl,rfl,HJ0.out,HL0.out,HT.out⟩
 case round =>
 clear HJ0 HL0 HT
 obtain⟨i,JA,jc,A1,c1,gs1,hi,hi1,rfl,rfl,hJ,hL,hT⟩:=hrel
 have HI:=ah (And.intro hi hi1)
 have HJ:=ah hJ
 have HL:=ah hL
 have HT:=ah hT
 clear hi hi1 hJ hL hT
 have HNr:=ah (HL.out.node HR.out H1.out HSS.out)
 obtain⟨isr,hisr⟩:∃m,is++iC (l.take i) is.length=m:=⟨_,rfl⟩
 rw[hisr] at HL
 have HISR:=ah hisr
 have hlr:isr.length=is.length+bf (l.take i):=by rw[←hisr,List.length_append,layTQ_len]
 have HLR:=ah hlr
 have hto:bf (l.take i)+bf (l.drop i)=bf l:=by rw[←lenTO_app,List.take_append_drop]
 have HTO:=ah hto
 clear hisr hlr hto
 obtain⟨e0,e1,e2,e3,e4,e5,e6,e7,e8⟩:=aI HT.out
 have g2:(i:Int) < (t.subs.length:Int):=by have:=HI.out;have:=HSL.out;omega
 have hlt:i < t.subs.length:=by omega
 obtain⟨ad,g,o,x,PA,pc,QA,qc,rfl,hadd,hSg,hgl,hx,hX,hlx,hcs⟩:=aB.sub HNr.out.open_.2.2 hlt
 obtain⟨p0,p1,p2,p3,p4,p5,p6,p7,p8⟩:=bH hcs
 have HX:=ah hX
 have HXL:=ah (HS1.out x (List.mem_of_getElem? hx))
 have HGB:=ah (HSS.out g hSg)
 have HGL:=ah hgl
 have HCS:=ah hcs
 have HXG:=ah hx
 clear hX hlx hcs hx hSg hgl
 by_cases hil:i < l.length
 ·have hq:((i:Int)==(t.subs.length:Int) - 1)=false:=by have:=HSL.out;simp;omega
  have hxl:l[i]?=some x:=by
   have h1:=HXG.out
   rw[HXS.out,List.getElem?_append_left hil] at h1
   exact h1
  have HXQ:=ah hxl
  have hdr:l.drop i=x::l.drop (i+1):=by
   rw[List.drop_eq_getElem_cons hil]
   congr 1
   rw[List.getElem?_eq_getElem hil] at hxl
   injection hxl
  have HBD:=ah (show isr.length+aL x+2≤20000 by have h1:=HTO.out;have h2:=HLR.out;have h3:=HLT.out;have h4:=HLEN.out;rw[hdr,bf] at h1;omega)
  have hbr:(isr.length:Int)≤20000:=by have:=HBD.out;omega
  clear hdr hxl
  go_upto_region 8 with(go_at_call 40;refine(fG HL.out.r (by have:=HBD.out;omega) 2 0).mono ?_;rintro e w6 ⟨rfl,A6,c6,gs6,hN⟩;have HT:=ah (hN.keep HL.out.r HT.out (by decide) HBX.out);have HJ:=ah (hN.own_int HL.out.r HJ.out);have HX:=ah (hN.node HL.out.r HX.out HSS.out);have HCS:=ah (show ∀(j:Nat) (v:Value),(au x PA pc QA qc)[j]?=some v→w6.cell? ⟨g,o+j,none⟩=some v from fun j v hv=>(hN.cell_ HL.out.r HGL.out HGB.out (o+j)).trans (HCS.out j v hv));have HL:=ah (HL.out.trans hN);clear hN)
  obtain⟨z0,hz0⟩:∃z,aT 2 0 ((isr.length:Int)+1) 0 []=z:=⟨_,rfl⟩
  rw[hz0] at HL
  have HZ0:=ah hz0
  obtain⟨is2,hi2⟩:∃m,isr++[z0]=m:=⟨_,rfl⟩
  rw[hi2] at HL
  have HI2:=ah hi2
  have hl2:is2.length=isr.length+1:=by rw[←hi2,List.length_append];rfl
  have HN2:=ah hl2
  clear hz0 hi2 hl2 e0 e1 e2 e3 e4 e5 e6 e7 e8 p0 p1 p2 p3 p4 p5 p6 p7 p8
  obtain⟨e0,e1,e2,e3,e4,e5,e6,e7,e8⟩:=aI HT.out
  obtain⟨p0,p1,p2,p3,p4,p5,p6,p7,p8⟩:=bH HCS.out
  go_upto_region 9 with(go_at_call 41;refine(HXL.out _ base rb _ _ _ _ S _ HL.out.r HX.out HSS.out (by have:=HBD.out;have:=HN2.out;omega)).mono ?_;rintro e w5 ⟨⟨v,rfl⟩,A5,c5,gs5,hN⟩;have HT:=ah (hN.keep HL.out.r HT.out (by decide) HBX.out);have HJ:=ah (hN.own_int HL.out.r HJ.out);have HL:=ah (HL.out.trans hN);clear hN)
  obtain⟨is3,hi3⟩:∃m,is2++bG x is2.length=m:=⟨_,rfl⟩
  rw[hi3] at HL
  have HI3:=ah (show is3=isr++(z0::bG x (isr.length+1)) by rw[←hi3,HN2.out,←HI2.out,List.append_assoc];rfl)
  have hl3:is3.length=isr.length+1+aL x:=by rw[←hi3,List.length_append,bY,HN2.out]
  have HN3:=ah hl3
  have hb3:(is3.length:Int)≤20000:=by have:=HBD.out;omega
  clear hi3 hl3 e0 e1 e2 e3 e4 e5 e6 e7 e8 p0 p1 p2 p3 p4 p5 p6 p7 p8
  go_upto_region 10 with(go_at_call 40;refine(fG HL.out.r (by have:=HBD.out;have:=HN3.out;omega) 7 0).mono ?_;rintro e w6 ⟨rfl,A6,c6,gs6,hN⟩;have HT:=ah (hN.keep HL.out.r HT.out (by decide) HBX.out);have HJ:=ah (hN.own_int HL.out.r HJ.out);have HL:=ah (HL.out.trans hN);clear hN)
  obtain⟨is4,hi4⟩:∃m,is3++[aT 7 0 ((is3.length:Int)+1) 0 []]=m:=⟨_,rfl⟩
  rw[hi4] at HL
  have HI4:=ah (show is4=isr++(z0::(bG x (isr.length+1)++[aT 7 0 ((is3.length:Int)+1) 0 []])) by rw[←hi4,HI3.out,List.append_assoc];rfl)
  clear hi4
  have HWS:=ah (show w.heap.size≤w6.heap.size from HL.out.u.size)
  go_upto_region 11 with(at_builtin;refine push_int9 rfl _ _ rfl (v:=(is3.length:Int)) rfl rfl (aJ HJ.out ((Upd.refl Nob w6).alloc _) (fun _ _=>aj)) (Cells.new w6 _ _) (by have:=HWS.out;simp;omega) (by omega) ?_;intro JA2 jc2 w7 hJ2 hU2;have hJa:=aJ HJ.out ((Upd.refl Nob w6).alloc (.cells #[.int .i64 (is3.length:Int)] 3)) (fun _ _=>aj);have hF:∀b,(Value.slice JA i jc).ownBlock=some b→w.heap.size≤b∧∃cs,Cells (w6.alloc (.cells #[.int .i64 (is3.length:Int)] 3)) b 3 cs:=fun b hb=>⟨own_lo hJa hb,(aK hJa hb).elim (fun cur h=>⟨cur,h.1⟩)⟩;have HT:=ah ((HT.out.alloc (.cells #[.int .i64 (is3.length:Int)] 3)).upd hU2 (fun hb=>by obtain⟨cs,hc⟩:=(hF _ hb).2;exact Cells.ne_ (HT.out.alloc (.cells #[.int .i64 (is3.length:Int)] 3)) hc (by decide) rfl));have HL:=ah ((HL.out.nob ((Upd.refl Nob w6).alloc (.cells #[.int .i64 (is3.length:Int)] 3))).ints hU2 hF);have HJ2:=ah hJ2;clear hJ2 hU2 hJa hF)
  obtain⟨gq,rfl,-,-⟩:=HL.out.r.some_ (by rw[HI4.out];simp;omega)
  have HXZ:=ah (show is4[isr.length]?=some z0 by rw[HI4.out];exact je _ _ _)
  have hnl:isr.length < is4.length:=(List.getElem?_eq_some_iff.1 HXZ.out).1
  have hnl2:(isr.length:Int) < (is4.length:Int):=by omega
  have rbx:w7.cell? ⟨rb,0,none⟩=some (.slice (some ⟨gq,0,none⟩) is4.length c6):=HL.out.r.box.ak rfl
  obtain⟨f0,f1,f2,f3,-⟩:=HL.out.r.cells HXZ.out
  have t2:=HL.out.r.thaw (isr.length*5+2)
  go_wp2_with fail
  have hY:=HL.out.setY HXZ.out ((is3.length:Int)+1)
  have HT:=ah (HT.out.far ⟨gq,isr.length*5+2,none⟩ (.int .i64 ((is3.length:Int)+1)) (fun e=>HL.out.r.jE HT.out (by decide) (by rw[e];rfl)))
  have HJ3:=ah (bN HJ2.out ⟨gq,isr.length*5+2,none⟩ (.int .i64 ((is3.length:Int)+1)) (fun hb=>by obtain⟨cur,hc,-⟩:=aK HL.out.r.prog.row (g:=gq) rfl;exact own_ne HJ2.out hc (by decide) hb))
  have hfin:is4.set isr.length { z0 with y:=(is3.length:Int)+1 }=is++iC (l.take (i+1)) is.length:=by
   rw[HI4.out,fF,List.take_succ_eq_append_getElem hil,layTQ_app,←List.append_assoc,HISR.out]
   have hx2:=HXQ.out
   rw[List.getElem?_eq_getElem hil] at hx2
   injection hx2 with hx2
   rw[hx2,iC,iC,←HLR.out,HN3.out,←HZ0.out]
   simp only[Int.natCast_add]
   congr 1
   congr 1
   ·show aT 2 0 _ _ []=aT 2 0 _ _ []
    congr 1
    omega
   ·congr 1
    show [aT 7 0 _ 0 []]=[aT 7 0 _ 0 []]
    congr 2
    omega
  rw[hfin] at hY
  have hjf:(jmpT (l.take i) is.length).map (fun(n:Nat)=>(n:Int))++[(is3.length:Int)]=(jmpT (l.take (i+1)) is.length).map fun(n:Nat)=>(n:Int):=by
   rw[List.take_succ_eq_append_getElem hil,jmpT_app,List.map_append]
   have hx2:=HXQ.out
   rw[List.getElem?_eq_getElem hil] at hx2
   injection hx2 with hx2
   rw[hx2,jmpT,jmpT,HN3.out,HLR.out]
   rfl
  have hJ3:=HJ3.out
  rw[hjf] at hJ3
  have HY2:=ah hY
  have HJ4:=ah hJ3
  clear hY hJ3 hfin hjf
  go_roundg (t.subs.length - (i+1))
  case measure=>have:=HI.out;omega
  case rel=>exact⟨i+1,JA2,jc2,_,_,_,by have:=HI.out;omega,by omega,by go_num,rfl,HJ4.out,HY2.out,HT.out⟩
 ·obtain⟨wa,hwa⟩:∃wa,wa=wr:=⟨_,rfl⟩
  subst hwa
  have hie:i=l.length:=by have:=HI.out;omega
  have hq:((i:Int)==(t.subs.length:Int) - 1)=true:=by have:=HSL.out;simp;omega
  have hxy:x=y:=by
   have h1:=HXG.out
   rw[HXS.out,hie,List.getElem?_append_right (Nat.le_refl _),Nat.sub_self] at h1
   simp at h1
   exact h1.symm
  have htk:l.take i=l:=by rw[hie,List.take_length]
  have HTK:=ah htk
  have HBD:=ah (show isr.length+aL x≤20000 by have h2:=HLR.out;have h3:=HLT.out;have h4:=HLEN.out;rw[htk] at h2;rw[hxy];omega)
  have HXY:=ah hxy
  have HIE:=ah hie
  have hbr:(isr.length:Int)≤20000:=by have:=HBD.out;omega
  clear hie hxy htk
  go_upto_region 12 with(go_at_call 41;refine(HXL.out _ base rb _ _ _ _ S _ HL.out.r HX.out HSS.out HBD.out).mono ?_;rintro e w5 ⟨⟨v,rfl⟩,A5,c5,gs5,hN⟩;have HT:=ah (hN.keep HL.out.r HT.out (by decide) HBX.out);have HJ:=ah (hN.own_int HL.out.r HJ.out);have HL:=ah (HL.out.trans hN);clear hN)
  obtain⟨em,hem⟩:∃em,is.length+aL t=em:=⟨_,rfl⟩
  have HEM:=ah hem
  obtain⟨la,hla⟩:∃m,bG y (is.length+bf l)=m:=⟨_,rfl⟩
  have HLA:=ah hla
  have hrow:isr++bG x isr.length=is++altK l is.length em 0++la:=by
   rw[HXY.out,HLR.out,HTK.out,hla,altK_0,←HISR.out,HTK.out]
  rw[hrow] at HL
  have HE2:=ah (show ∀k,(is++altK l is.length em k++la).length=em from fun k=>by
   have h1:=HLT.out
   rw[List.length_append,List.length_append,altK_len,←hla,bY,←hem]
   omega)
  have hem2:(em:Int)≤20000:=by have:=HLEN.out;have:=HEM.out;omega
  have HJK:=ah (show ∀(k:Nat) (x:Tree),l[k]?=some x→(bn ((jmpT (l.take i) is.length).map fun(n:Nat)=>(n:Int)))[k]?=some (.int .i64 ((is.length+bf (l.take k)+1+aL x:Nat):Int)) from fun k x hx=>by
   rw[HTK.out]
   exact intv_at (by rw[List.getElem?_map,jmpT_at l is.length k x hx];rfl))
  have hiq:(i:Int)≤20000:=by have:=HIE.out;omega
  clear hem hla hrow e0 e1 e2 e3 e4 e5 e6 e7 e8 p0 p1 p2 p3 p4 p5 p6 p7 p8
  have HWJ:=ah HJ.out
  go_wp2_with fail
  go_loopg [8] i (fun gk v8 wr=>∃(k:Nat) (A':Option Addr) (c':Nat) (gs':List (Option Addr × Nat)),k+gk=i∧v8=.int .i64 (k:Int)∧wr.ownsRow w.heap.size 3 1 (.slice JA i jc) i (bn ((jmpT (l.take i) is.length).map fun(n:Nat)=>(n:Int)))∧eZ w base rb A wr A' c' (is++altK l is.length em k++la) gs')
  case atStart=>exact⟨0,_,_,_,by omega,rfl,HJ.out,HL.out⟩
  case round =>
   clear HJ HL HT HWJ HX
   obtain⟨k,A7,c7,gs7,hk,rfl,hJ,hL⟩:=hrel
   have HK:=ah hk
   have HJ:=ah hJ
   have HL:=ah hL
   clear hk hJ hL
   by_cases hki:(k:Int) < (i:Int)
   ·have hkl:k < l.length:=by have:=HIE.out;omega
    obtain⟨z,hz⟩:∃z,l[k]?=some z:=⟨_,List.getElem?_eq_getElem hkl⟩
    obtain⟨pre,suf,hp1,hp2,hp3⟩:=altK_step hz is.length em
    obtain⟨jn,hjn⟩:∃jn,is.length+bf (l.take k)+1+aL z=jn:=⟨_,rfl⟩
    have hjv:=HJK.out k z hz
    rw[hjn] at hjv
    obtain⟨isk,hisk⟩:∃m,is++altK l is.length em k++la=m:=⟨_,rfl⟩
    rw[hisk] at HL
    have hik:isk=(is++pre)++(aT 7 0 ((is.length+bf (l.take k)+aL z+2:Nat):Int) 0 []::(suf++la)):=by rw[←hisk,hp2];simp only[List.append_assoc,List.cons_append]
    have hpl:(is++pre).length=jn:=by rw[List.length_append,hp1,←hjn];omega
    have HXZ:=ah (show isk[jn]?=some (aT 7 0 ((is.length+bf (l.take k)+aL z+2:Nat):Int) 0 []) by rw[hik,←hpl];exact je _ _ _)
    have HNXT:=ah (show isk.set jn (aT 7 0 (em:Int) 0 [])=is++altK l is.length em (k+1)++la by rw[hik,←hpl,fF,hp3];simp only[List.append_assoc,List.cons_append])
    have hnl:jn < isk.length:=(List.getElem?_eq_some_iff.1 HXZ.out).1
    have hnl2:(jn:Int) < (isk.length:Int):=by omega
    have hke:isk.length=em:=by rw[←hisk];exact HE2.out k
    have HKE:=ah hke
    obtain⟨x7,hx7⟩:∃zz,aT 7 0 ((is.length+bf (l.take k)+aL z+2:Nat):Int) 0 []=zz:=⟨_,rfl⟩
    have HX7:=ah hx7
    rw[hx7] at HXZ
    obtain⟨gj,hgj,hgb,hgw⟩:∃gj,JA=some ⟨gj,0,none⟩∧w.heap.size≤gj∧gj < wr.heap.size:=by
     rcases HJ.out.2 with⟨-,h0⟩ | ⟨gj,cap,cur,hv,hb,hg,-⟩
     ·omega
     ·injection hv with hv
      exact⟨gj,hv,hb,(Array.getElem?_eq_some_iff.1 hg).1⟩
    subst hgj
    obtain⟨gq,rfl,-,-⟩:=HL.out.r.some_ (by omega)
    have hjc:wr.cell? ⟨gj,k,none⟩=some (.int .i64 (jn:Int)):=by
     obtain⟨ad,ea,-,-,hc⟩:=(Reads.eU HJ.out).2 (by omega)
     injection ea with ea
     subst ea
     have:=hc k _ hjv
     rwa [bX,Nat.zero_add] at this
    have HJC:=ah (And.intro hjc hgw)
    clear hz hp1 hp2 hp3 hjn hjv hisk hik hpl hke hx7 hjc hgb hgw
    go_upto_region 15 with fail
    refine dn 15 (by kernel_rfl) (by kernel_rfl) ?_
    intro w8 U8 h8
    have HL:=ah (HL.out.nob U8)
    have HJ:=ah (aJ HJ.out U8 (fun _ _=>aj))
    have hjc:w8.cell? ⟨gj,k,none⟩=some (.int .i64 (jn:Int)):=(U8.cell (p:=⟨gj,k,none⟩) HJC.out.2 aj).trans HJC.out.1
    have rbx:w8.cell? ⟨rb,0,none⟩=some (.slice (some ⟨gq,0,none⟩) isk.length c7):=HL.out.r.box.ak rfl
    obtain⟨f0,f1,f2,f3,-⟩:=HL.out.r.cells HXZ.out
    have t1:=HL.out.r.thaw (jn*5+1)
    clear U8 h8
    simp only[List.take_succ_cons,List.take_zero,List.drop_succ_cons,List.drop_zero]
    repeat still_step
    refine wpStill_nil ?_
    go_wp2_with fail
    have hX:=HL.out.setX HXZ.out (isk.length:Int)
    have HJ3:=ah (bN HJ.out ⟨gq,jn*5+1,none⟩ (.int .i64 (isk.length:Int)) (fun hb=>by obtain⟨cur,hc,-⟩:=aK HL.out.r.prog.row (g:=gq) rfl;exact own_ne HJ.out hc (by decide) hb))
    have hfin:isk.set jn { x7 with x:=(isk.length:Int) }=is++altK l is.length em (k+1)++la:=by
     rw[←HNXT.out,←HX7.out,HKE.out]
     rfl
    rw[hfin] at hX
    have HX8:=ah hX
    clear hX hfin
    go_roundg (i - (k+1))
    case measure=>have:=HK.out;omega
    case rel=>exact⟨k+1,_,_,_,by have:=HK.out;omega,by go_num,HJ3.out,HX8.out⟩
   ·have hke:k=l.length:=by have:=HK.out;have:=HIE.out;omega
    have hfin:is++altK l is.length em k++la=is++bG t is.length:=by
     rw[hke,altK_all,HY.out,←HEM.out,HLA.out,List.append_assoc]
    have hL:=HL.out
    rw[hfin] at hL
    have HL:=ah hL
    clear hke hfin hL
    go_wp2_with fail
    try simp only[Exit.inBlock,Exit.then]
    refine bodyPost_ret (results_none rfl _ _ _) rfl ?_
    exact HP.out _ _ ⟨_,_,_,HL.out⟩
end Go.Proofs.Ytnkefclbchpafaa

/-
  The shape of simple forms: loops and groups have one sub, alternations some. Plain.
-/
namespace Go.Proofs.Ytnkefclbchpafaa
set_option linter.unusedVariables false
inductive OkY:Tree→Prop
 | mk (t:Tree):(t.kind=6∨t.kind=7→∃x,t.subs=[x])→(t.kind=5→t.subs≠[])→(∀x∈t.subs,OkY x)→OkY t
theorem OkY.top {t:Tree} (h:OkY t):(t.kind=6∨t.kind=7→∃x,t.subs=[x])∧(t.kind=5→t.subs≠[])∧(∀x∈t.subs,OkY x):=by
 cases h with
 | mk _ a b c=>exact⟨a,b,c⟩
theorem okY_empty:OkY aV:=.mk _ (fun e=>absurd e (by simp[Tree.kind,aV])) (fun e=>absurd e (by simp[Tree.kind,aV])) (fun x hx=>by simp[Tree.subs,aV] at hx)
theorem okY_loop {y:Tree} (h:OkY y) (mn mx:Int) (lz:Bool):OkY (aY y mn mx lz):=.mk _ (fun _=>⟨y,rfl⟩) (fun e=>absurd e (by simp[Tree.kind,aY])) (fun x hx=>by
 obtain rfl:x=y:=by simpa [Tree.subs,aY] using hx
 exact h)
theorem okY_flatJ:∀(l:List Tree),(∀x∈l,OkY x)→∀x∈aZ l,OkY x
 | [],_,x,hx=>by simp[aZ] at hx
 | t::l,h,x,hx=>by
  rw[aZ] at hx
  rcases List.mem_append.1 hx with hx | hx
  ·split at hx
   ·simp at hx
   split at hx
   ·exact(h t (by simp)).top.2.2 x hx
   ·obtain rfl:x=t:=by simpa using hx
    exact h x (by simp)
  ·exact okY_flatJ l (fun y hy=>h y (by simp[hy])) x hx
theorem okY_join {l:List Tree} (h:∀x∈l,OkY x):OkY (bR l):=by
 have hf:=okY_flatJ l h
 unfold bR
 split
 ·exact okY_empty
 ·rename_i t ht
  exact hf t (by rw[ht];simp)
 ·exact .mk _ (fun e=>absurd e (by simp[Tree.kind,fH])) (fun e=>absurd e (by simp[Tree.kind,fH])) hf
theorem okY_flatA:∀(l:List Tree),(∀x∈l,OkY x)→∀x∈cK l,OkY x
 | [],_,x,hx=>by simp[cK] at hx
 | t::l,h,x,hx=>by
  rw[cK] at hx
  rcases List.mem_append.1 hx with hx | hx
  ·split at hx
   ·exact(h t (by simp)).top.2.2 x hx
   ·obtain rfl:x=t:=by simpa using hx
    exact h x (by simp)
  ·exact okY_flatA l (fun y hy=>h y (by simp[hy])) x hx
theorem okY_alt {l:List Tree} (h:∀x∈l,OkY x) (h0:l≠[]):OkY (eY (cK l)):=.mk _ (fun e=>absurd e (by simp[Tree.kind,eY])) (fun _=>by
 cases l with
 | nil=>exact absurd rfl h0
 | cons t l =>
  show cK (t::l)≠[]
  rw[cK]
  intro e
  rw[List.append_eq_nil_iff] at e
  have e:=e.1
  split at e
  ·rename_i h5
   exact(h t (by simp)).top.2.1 h5 e
  ·simp at e) (okY_flatA l h)
theorem okY_opt {y:Tree} (h:OkY y) (lz:Bool):∀k,OkY (jD y lz k)
 | 0=>okY_empty
 | 1=>okY_loop h 0 1 lz
 | k+2=>okY_loop (okY_join (fun x hx=>by
  rcases List.mem_cons.1 hx with rfl | hx
  ·exact h
  ·obtain rfl:x=jD y lz (k+1):=by simpa using hx
   exact okY_opt h lz (k+1))) 0 1 lz
theorem okY_rep {y z:Tree} (h:OkY y) (hz:OkY z) (n:Nat):∀x∈List.replicate n y++[z],OkY x:=fun x hx=>by
 rcases List.mem_append.1 hx with hx | hx
 ·rw[(List.mem_replicate.1 hx).2];exact h
 ·obtain rfl:x=z:=by simpa using hx
  exact hz
theorem okY_unf {y:Tree} (h:OkY y) (mn mx:Int) (lz:Bool):OkY (kD y mn mx lz):=by
 unfold kD
 split
 ·exact okY_empty
 split
 ·exact okY_join (okY_rep h (okY_loop h _ _ _) _)
 ·exact okY_join (okY_rep h (okY_opt h lz _) _)
theorem okY_list:∀(l:List Tree),(∀x∈l,OkY (aH x))→∀x∈aU l,OkY x
 | [],_,x,hx=>by rw[aU] at hx;simp at hx
 | t::l,h,x,hx=>by
  rw[aU] at hx
  rcases List.mem_cons.1 hx with rfl | hx
  ·exact h t (by simp)
  ·exact okY_list l (fun y hy=>h y (by simp[hy])) x hx
theorem okY_head (l:List Tree) (h:∀x∈l,OkY (aH x)):OkY (eu l):=by
 cases l with
 | nil=>rw[eu];exact okY_empty
 | cons t l=>rw[eu];exact h t (by simp)
theorem okY_form (n:Nat):∀(t:Tree) (d:Int),SizeOf.sizeOf t≤n→OkF t d→OkY (aH t):=by
 induction n with
 | zero=>exact fun t d h=>absurd h (dw t)
 | succ n ih =>
 intro t d hn ho
 obtain⟨h1,h2,h3⟩:=ho.top
 have q:=nodeK h1
 have hsub:∀x∈t.subs,OkY (aH x):=fun x hx=>by
  obtain⟨i,hi⟩:=List.mem_iff_getElem?.1 hx
  exact ih x (d+1) (by have:=Tree.sub_lt hx;omega) (h3 i x hi)
 have q2:=q.two
 have q0:=q.no
 have qk:=q.k
 obtain⟨k,rs,am,subs,mn,mx,lz,ix,nm⟩:=t
 have hsub:∀x∈subs,OkY (aH x):=hsub
 have q2:k=4∨k=5→2≤subs.length:=q2
 have q0:k≤3→subs.length=0:=q0
 have qk:1≤k∧k≤7:=qk
 rw[aH]
 split
 ·rename_i k7
  exact .mk _ (fun _=>⟨_,rfl⟩) (fun e=>absurd (show k=5 from e) (by omega)) (fun x hx=>by
   obtain rfl:x=eu subs:=by simpa [Tree.subs] using hx
   exact okY_head subs hsub)
 split
 ·exact okY_join (okY_list subs hsub)
 split
 ·rename_i k5
  refine okY_alt (okY_list subs hsub) (fun e=>?_)
  have:=q2 (.inr k5)
  match subs,this,e with
  | t::l,_,e=>rw[aU] at e;simp at e
 split
 ·exact okY_unf (okY_head subs hsub) mn mx lz
 ·have h0:=List.eq_nil_of_length_eq_zero (q0 (by omega))
  subst h0
  exact .mk _ (fun e=>absurd (show k=6∨k=7 from e) (by omega)) (fun e=>absurd (show k=5 from e) (by omega)) (fun x hx=>by simp[Tree.subs] at hx)
end Go.Proofs.Ytnkefclbchpafaa

/-
  What an unfolded repeat fits: so many rounds. Plain.
-/
namespace Go.Proofs.Ytnkefclbchpafaa
set_option linter.unusedVariables false
def Rev (m:Nat) (R R':Nat→Nat→Prop):Prop:=∀i j,i≤m→j≤m→(R i j↔R' (m - j) (m - i))
theorem Rev.symm {m:Nat} {R R':Nat→Nat→Prop} (h:Rev m R R'):Rev m R' R:=fun i j hi hj=>by
 have:=h (m - j) (m - i) (by omega) (by omega)
 rw[show m - (m - i)=i by omega,show m - (m - j)=j by omega] at this
 exact this.symm
end Go.Proofs.Ytnkefclbchpafaa
