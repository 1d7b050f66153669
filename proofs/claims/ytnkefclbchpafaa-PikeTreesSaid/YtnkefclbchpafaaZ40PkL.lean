/-
  PkStep, RefRun, PkL, put together.
-/
import Derived.Test.YtnkefclbchpafaaZ39PkI
import Derived.Deep.RegionHeld3
import Derived.Test.YtnkefclbchpafaaZ09VisR

/-
  The walk of pike's step.
-/
namespace Go.Proofs.Ytnkefclbchpafaa
set_option maxRecDepth 100000
set_option maxHeartbeats 16000000
open Go.RowKit
set_option linter.unusedVariables false
def StepPost (w:World) (e0 b sb sg:Nat) (O:Option Nat) (A:Option Addr) (c:Nat) (is:List av) (st:Int) (m:Nat) (T:Option Addr) (tc:Nat) (text:List Int) (j:Nat) (s9:VSt) (e:Ending) (w':World):Prop :=
 ∃O' NO' N nc xs FA fn fc wh,e=.returned (.slice N s9.next.length nc)∧PkR w' w.heap.size e0 b sb sg O' NO' A c is st m T tc text j s9∧dY b sb sg O O' none NO' w w' ∧
  Cells w' b 73 (jF A is.length c st m T text.length tc j (part text j 6) sb N s9.next.length nc s9.found.isSome FA fn fc wh s9.steps) ∧
  w'.ownsRow w.heap.size 108 2 (.slice N s9.next.length nc) s9.next.length xs∧ThQ w' sg O' is.length m s9.next xs∧jN w' sg O' m s9.found FA fn wh
theorem pkstep_any (w:World) (e0 b sb sg:Nat) (O:Option Nat) (A:Option Addr) (c:Nat) (is:List av) (st:Nat) (m:Nat) (T:Option Addr) (tc:Nat) (text:List Int) (j:Nat) (fo:Option (List Int × Int)) (steps:Nat) (N:Option Addr) (nc:Nat) (ths:List (Nat × List Int)) (bg:Bool)
  (h:PkI w e0 b sb sg O A c is st m T tc text j fo steps N ths) (hj:j≤text.length) (hn:is.length≤20000) (hst:st < is.length) (hm1:1≤m) (hm2:m≤1002) (hstp:steps+is.length≤1099511627776) (hthl:ths.length≤20000)
  (hmay:∀(i:Nat) (x:av),is[i]?=some x→bC x is.length m=true) :
  Calls Try.prog 31 #[.pointer (some ⟨b,0,none⟩),.slice N ths.length nc,.bool bg,.func (.func 32) #[.pointer (some ⟨b,0,none⟩)] #[]] w
   (StepPost w e0 b sb sg O A c is st m T tc text j (ay is text j (ths++if bg then [(st,List.replicate m (-1))] else []) (fresh is.length fo steps))):=by
 obtain⟨SA,sc,ats,L,hSt,hO⟩:=h.aW
 obtain⟨bits,nv,FA,fn,fc,wh,hC,-⟩:=h.run
 obtain⟨xs,hxs,hth⟩:=h.now
 obtain⟨i0,hi0,hz0,hz1,hz2⟩:=info_parts jG
 have l6:w.cell? ⟨b,0+6,none⟩=some (.pointer (some ⟨sb,0,none⟩)):=hC.ak rfl
 have hCb:¬(b=sb∨b=sg∨(Value.slice SA L.length sc).ownBlock=some b):=by
  rintro(e | e | e)
  ·exact Cells.ne_ hC hSt.blk (by decide) e
  ·have:=own_ne hSt.at_ hC (by decide)
   simp[Value.ownBlock] at this
   omega
  ·exact own_ne hSt.own hC (by decide) e
 have H:=ah h
 have HSt:=ah hSt
 have HC:=ah hC
 have HMAY:=ah hmay
 have HXS:=ah hxs
 have HTH:=ah hth
 clear h hSt hC hmay hxs hth
 generalize hs9:ay is text j (ths++if bg then [(st,List.replicate m (-1))] else []) (fresh is.length fo steps)=s9
 have HS9:=ah hs9
 clear hs9
 go_enter Try.func31,Try.ntmps31
 go_wp2_with fail
 refine(setClear_any w e0 sb sg is.length SA sc ats L HSt.out).mono ?_
 rintro e w1 ⟨rfl,hP⟩
 have hC1:=HC.out.upd hP.upd hCb
 have l7:w1.cell? ⟨b,0+7,none⟩=some nv:=hC1.ak rfl
 have f7:w1.frozen? ⟨b,0+7,none⟩=false:=hC1.frozen 7
 have HC2:=ah (hC1.aW (0+7) (.slice none 0 0))
 have HP:=ah hP
 clear hP hC1
 go_upto_region 3 with fail
 have hw1:=HP.out.upd.size
 have hsl:∀(w':World) (bt:Value),Cells w' b 73 #[.slice A is.length c,.int .i64 st,.int .i64 m,.slice T text.length tc,.int .i64 (j:Int),bt,.pointer (some ⟨sb,0,none⟩),.slice none 0 0,.bool fo.isSome,.slice FA fn fc,.int .i64 wh,.int .i64 0,.int .i64 (steps:Int)] →
   (w'.cell? ⟨b,0+3,none⟩=some (.slice T text.length tc)∧w'.cell? ⟨b,0+4,none⟩=some (.int .i64 (j:Int))):=fun w' bt hC=>⟨hC.ak rfl,hC.ak rfl⟩
 have HSL:=ah hsl
 have hU2:Upd (fun k=>k=b) w1 (w1.setCell ⟨b,0+7,none⟩ (.slice none 0 0)):=kF _ _ _ rfl
 have htx:dB (w1.setCell ⟨b,0+7,none⟩ (.slice none 0 0)) (· < e0) T text.length text:=by
  refine(H.out.txt.upd HP.out.upd (fun k hk e=>?_)).upd hU2 (fun k hk e=>by have:=H.out.eb;omega)
  rcases e with e | e | e
  ·have:=HSt.out.low;omega
  ·have:=(HSt.out.at_.lt sg rfl).1;omega
  ·have:=(HSt.out.own.lt k e).1;omega
 have HTX:=ah htx
 clear htx hsl hU2 l7 f7
 generalize hw2:w1.setCell ⟨b,0+7,none⟩ (.slice none 0 0)=w2 at *
 have HW2:=ah hw2
 clear hw2
 go_region_held3 (fun w'=>w'.cell? ⟨b,0+3,none⟩=some (.slice T text.length tc)∧w'.cell? ⟨b,0+4,none⟩=some (.int .i64 (j:Int)))
  (first | exact HSL.out _ _ HC2.out | exact HSL.out _ _ HC4.out | exact HSL.out _ _ HC3.out)
  (first
  | (go_at_call 49;refine(at_in _ _ T text.length tc j text (HTX.out.upd ((Upd.refl Nob w2).drew) (fun _ _=>aj)) hj).mono ?_;rintro e w3 ⟨rfl,hU3⟩;have hU3':=((Upd.refl Nob w2).drew).trans hU3 (fun _ _ h=>h);have HC3:=ah (HC2.out.upd hU3' aj);have HU3:=ah hU3';have f5:w3.frozen? ⟨b,0+5,none⟩=false:=HC3.out.frozen 5;have l5:w3.cell? ⟨b,0+5,none⟩=some bits:=HC3.out.ak rfl;have HC4:=ah (HC3.out.aW (0+5) (.int .i64 (part text j 6)));clear hU3 hU3'))
 obtain⟨O4,hPK4,hUP4⟩:=H.out.begin_ hn hstp hO HSt.out HP.out (by rw[HW2.out];exact HU3.out)
 have HPK4:=ah hPK4
 have HUP4:=ah hUP4
 clear hPK4 hUP4 l5 f5 HC2 HC3 HC4 HSL HC l6 HU3 HW2 HTX hw1
 generalize w3.setCell ⟨b,0+5,none⟩ (.int .i64 (part text j 6))=w4 at *
 obtain⟨sN,hsN⟩:∃x:VSt,x=ay is text j ths (fresh is.length fo steps):=⟨_,rfl⟩
 have HSN:=ah hsN
 clear hsN
 go_wp2_with fail
 go_loopg [11,38] ths.length (fun gk v11 v38 wr=>∃(i:Nat) (s:VSt) (O1 NO1:Option Nat),i+gk=ths.length∧v38=.int .i64 (i:Int)∧ay is text j (ths.drop i) s=sN∧s.over=false ∧
  PkR wr w.heap.size e0 b sb sg O1 NO1 A c is st m T tc text j s∧dY b sb sg O O1 none NO1 w wr)
 case atStart=>exact⟨0,_,O4,none,by omega,rfl,HSN.out.symm,rfl,HPK4.out,HUP4.out⟩
 case round =>
  obtain⟨i,s,O1,NO1,hi,rfl,hva,hov,hpk,hup⟩:=hrel
  have hthr:∀k,(∃cs,Cells w k 108 cs)→¬Fp b sb sg O none k:=fun k hk=>by obtain⟨cs,hk⟩:=hk;exact H.out.thr hk
  by_cases hil:i < ths.length
  ·obtain⟨⟨pc,caps⟩,hx⟩:∃x,ths[i]?=some x:=⟨_,List.getElem?_eq_getElem hil⟩
   have hkp:=H.out.keep hup
   obtain⟨hpc,hcl,CA,cc,x0,x1,hcap⟩:=(HTH.out.keep hkp).2 i pc caps hx
   have hxsi:=HXS.out.upd hup.upd hthr
   obtain⟨ad,had,hadb,-,hat⟩:=hxsi.2 (by omega)
   obtain⟨gN,hgN⟩:=H.out.lit (by omega)
   obtain rfl:ad=⟨gN,0,none⟩:=by rw[hgN] at had;injection had with had;exact had.symm
   have y0:wr.cell? ⟨gN,i*2,none⟩=some (.int .i64 (pc:Int)):=by have:=hat _ _ x0;rwa [bX,Nat.zero_add] at this
   have y1:wr.cell? ⟨gN,i*2+1,none⟩=some (.slice CA m cc):=by have:=hat _ _ x1;rwa [bX,Nat.zero_add] at this
   obtain⟨ad,hadl⟩:∃ad:Addr,ad=⟨gN,0,none⟩:=⟨_,rfl⟩
   have hadd:ad.add (i*2)=⟨gN,i*2,none⟩:=by rw[hadl,bX,Nat.zero_add]
   rw[←hadl] at hgN
   clear hadl hat had
   subst hgN
   have g2:(i:Int) < (ths.length:Int):=by omega
   have hU5:=(Upd.refl Nob wr).alloc (.cells #[.int .i64 (pc:Int),.slice CA m cc] 108)
   have CX:=Cells.new wr 108 #[.int .i64 (pc:Int),.slice CA m cc]
   have z0:(wr.alloc (.cells #[.int .i64 (pc:Int),.slice CA m cc] 108)).cell? ⟨wr.heap.size,0,none⟩=some (.int .i64 (pc:Int)):=CX.ak rfl
   have z1:(wr.alloc (.cells #[.int .i64 (pc:Int),.slice CA m cc] 108)).cell? ⟨wr.heap.size,0+1,none⟩=some (.slice CA m cc):=CX.ak rfl
   have HPK5:=ah (hpk.still hU5)
   have HUP5:=ah (hup.trans (.still hU5))
   have HCAP5:=ah (hcap.keep (bW.still hU5))
   have HVA:=ah hva
   have HX:=ah hx
   have HOV:=ah hov
   clear hpk hup hcap hva hx hov hkp hxsi x0 x1 hU5 CX hthr
   go_wp2_with fail
   refine(pkvisit_any _ w.heap.size e0 b sb sg O1 NO1 A c is st m T tc text j s HPK5.out HOV.out pc CA cc caps hpc hcl HCAP5.out hj hn hm1 hm2 HMAY.out).mono ?_
   rintro e w6 ⟨rfl,O6,NO6,hPK6,hUP6⟩
   have hd:ths.drop i=(pc,caps)::ths.drop (i+1):=by
    obtain⟨hl,hx⟩:=List.getElem?_eq_some_iff.1 HX.out
    rw[List.drop_eq_getElem_cons hl,hx]
   have hva2:ay is text j (ths.drop (i+1)) (ay is text j [(pc,caps)] s)=sN:=by
    rw[←HVA.out,hd]
    rfl
   generalize ay is text j [(pc,caps)] s=s6 at *
   have HPK6:=ah hPK6
   have HUP6:=ah (HUP5.out.trans hUP6)
   have HVA2:=ah hva2
   clear hPK6 hUP6 hva2 hd z0 z1 y0 y1 hadd
   rcases hov6:s6.over with _ | _
   ·go_wp2_with fail
    go_roundg (ths.length - (i+1))
    case measure=>omega
    case rel=>exact⟨i+1,s6,O6,NO6,by omega,by go_num,HVA2.out,hov6,HPK6.out,HUP6.out⟩
   ·have he:s6=s9:=by
     rw[←HS9.out,all_append,←HSN.out,←HVA2.out,stack_over _ hov6,stack_over _ hov6]
    subst he
    obtain⟨N9,nc9,xs9,FA9,fn9,fc9,wh9,hC9,hN9,hNO9,hT9,hF9⟩:=HPK6.out.rest
    have l7:w6.cell? ⟨b,0+7,none⟩=some (.slice N9 s6.next.length nc9):=hC9.ak rfl
    have HPOST:=ah (⟨O6,NO6,N9,nc9,xs9,FA9,fn9,fc9,wh9,rfl,HPK6.out,HUP6.out,hC9,hN9,hT9,hF9⟩:StepPost w e0 b sb sg O A c is st m T tc text j s6 (.returned (.slice N9 s6.next.length nc9)) w6)
    clear hC9 hN9 hNO9 hT9 hF9
    go_wp2_with fail
    go_ret
    exact HPOST.out
  ·have hil2:i=ths.length:=by omega
   subst hil2
   rw[List.drop_length] at hva
   have hva2:s=sN:=hva
   subst hva2
   have g2:¬(ths.length:Int) < (ths.length:Int):=by omega
   rcases bg with _ | _
   ·have he:s=s9:=by
     rw[←HS9.out,HSN.out]
     simp
    subst he
    obtain⟨N9,nc9,xs9,FA9,fn9,fc9,wh9,hC9,hN9,hNO9,hT9,hF9⟩:=hpk.rest
    have l7:wr.cell? ⟨b,0+7,none⟩=some (.slice N9 s.next.length nc9):=hC9.ak rfl
    have HPOST:=ah (⟨O1,NO1,N9,nc9,xs9,FA9,fn9,fc9,wh9,rfl,hpk,hup,hC9,hN9,hT9,hF9⟩:StepPost w e0 b sb sg O A c is st m T tc text j s (.returned (.slice N9 s.next.length nc9)) wr)
    clear hC9 hN9 hNO9 hT9 hF9 hpk hup hva hthr
    go_wp2_with fail
    go_ret
    exact HPOST.out
   ·have hs9:ay is text j [(st,List.replicate m (-1))] s=s9:=by
     rw[←HS9.out,all_append,←HSN.out]
     rfl
    obtain⟨N5,nc5,xs5,FA5,fn5,fc5,wh5,hC5,-⟩:=hpk.rest
    have l2:wr.cell? ⟨b,0+2,none⟩=some (.int .i64 (m:Int)):=hC5.ak rfl
    have hz:(madeCells (Value.int .i64 0).cells (m*1)).toList=bn (List.replicate m 0):=by
     have:(Value.int .i64 0).cells=#[Value.int .i64 0]:=rfl
     rw[this,toList_madeCells_one,Nat.mul_one]
     simp[bn]
    obtain⟨SA5,sc5,ats5,L5,hS5,hO5,-⟩:=hpk.aW
    have hsg5:sg < wr.heap.size:=(hS5.at_.lt sg rfl).2
    have hO1:∀k,O1=some k→k < wr.heap.size:=fun k hk=>(hS5.own.lt k (hO5.trans hk)).2
    have HZ:=ah hz
    have HPK5:=ah hpk
    have HUP5:=ah hup
    have HC5:=ah hC5
    have HS:=ah hs9
    have HOV:=ah hov
    obtain⟨w5,hw5⟩:∃x:World,x=wr:=⟨_,rfl⟩
    subst hw5
    clear hz hpk hup hC5 hs9 hov hva hthr hS5 hO5 HSN
    go_wp2_with (at_make;refine wpList_make_full w5 rfl (.tmp 56) (.tmp 56) 28 rfl w5.heap.size 3 i0 (.int .i64 0) 1 Try.underlying28 hi0 hz0 hz1 .i64 .i64 (m:Int) (m:Int) m rfl rfl rfl rfl (by rw[hz2];omega) (by unfold maxLen;omega) (Nat.le_refl _) ?_;intro w6 o6 hg6;rw[HZ.out] at o6)
    have hU6:=(Upd.refl Nob w5).grown hg6 (by simp)
    have HO6:=ah o6
    have HU6:=ah hU6
    have hN1:∀k,NO1=some k→k < w5.heap.size:=fun k hk=>HPK5.out.nlt hk
    clear o6 hg6 hU6 l2
    generalize hgg:w5.heap.size=g at *
    have HGG:=ah hgg
    clear hgg
    go_loopg [13,60] m (fun gk v13 v60 wq=>∃k:Nat,k+gk=m∧v60=.int .i64 (k:Int)∧wq.ownsRow g 3 1 (.slice (some ⟨g,0,none⟩) m m) m (bn (List.replicate k (-1)++List.replicate (m - k) 0))∧Upd Nob w5 wq)
    case atStart=>exact⟨0,by omega,rfl,by simpa using HO6.out,HU6.out⟩
    case round =>
     obtain⟨k,hk,rfl,ho,hUk⟩:=hrel
     by_cases hkm:k < m
     ·have fz:wr.frozen? ⟨g,k,none⟩=false:=ho.frozenAt k
      obtain⟨u,cu⟩:∃u,wr.cell? ⟨g,k,none⟩=some u:=by
       have h1:=ho.cellAt k (by omega)
       rw[List.getElem?_eq_getElem (by have:=ho.1;omega)] at h1
       exact⟨_,h1⟩
      have g1:(k:Int) < (m:Int):=by omega
      have HO:=ah ho
      have HUk:=ah hUk
      clear ho hUk
      go_wp2_with fail
      go_roundg (m - (k+1))
      case measure=>omega
      case rel =>
       refine⟨k+1,by omega,by go_num,?_,HUk.out.setCell _ _ (fun hlt=>absurd hlt (by show ¬g < w5.heap.size;rw[HGG.out];exact Nat.lt_irrefl g))⟩
       have h3:=(HO.out.stored k (.int .i64 (-1))).1
       have e3:(bn (List.replicate k (-1)++List.replicate (m - k) 0)).set k (.int .i64 (-1))=bn (List.replicate (k+1) (-1)++List.replicate (m - (k+1)) 0):=by
        have e4:m - k=(m - (k+1))+1:=by omega
        rw[e4,List.replicate_succ,List.replicate_succ']
        simp[bn]
       rwa [e3] at h3
     have hke:k=m:=by omega
     subst hke
     have g1:¬(k:Int) < (k:Int):=by omega
     have ho2:wr.ownsRow g 3 1 (.slice (some ⟨g,0,none⟩) k k) k (bn (List.replicate k (-1))):=by simpa using ho
     have hcap:CapQ wr sg O1 (some ⟨g,0,none⟩) k (List.replicate k (-1)):=CapQ.eU ho2 (by omega) (fun e=>by have:=hO1 _ e;omega)
     have l1:wr.cell? ⟨b,0+1,none⟩=some (.int .i64 (st:Int)):=(HC5.out.upd hUk aj).ak rfl
     have HPK6:=ah (HPK5.out.still hUk)
     have HUP6:=ah (HUP5.out.trans (.still hUk))
     have HCAP:=ah hcap
     clear ho ho2 hUk hcap
     go_wp2_with fail
     refine(pkvisit_any wr w.heap.size e0 b sb sg O1 NO1 A c is st k T tc text j s HPK6.out HOV.out st (some ⟨g,0,none⟩) k (List.replicate k (-1)) hst (by simp) HCAP.out hj hn hm1 hm2 HMAY.out).mono ?_
     rw[HS.out]
     rintro e w7 ⟨rfl,O7,NO7,hPK7,hUP7⟩
     have hup7:=HUP6.out.trans hUP7
     obtain⟨N9,nc9,xs9,FA9,fn9,fc9,wh9,hC9,hN9,hNO9,hT9,hF9⟩:=hPK7.rest
     have l7:w7.cell? ⟨b,0+7,none⟩=some (.slice N9 s9.next.length nc9):=hC9.ak rfl
     have HPOST:=ah (⟨O7,NO7,N9,nc9,xs9,FA9,fn9,fc9,wh9,rfl,hPK7,hup7,hC9,hN9,hT9,hF9⟩:StepPost w e0 b sb sg O A c is st k T tc text j s9 (.returned (.slice N9 s9.next.length nc9)) w7)
     clear hC9 hN9 hNO9 hT9 hF9 hPK7 hUP7 hup7 l1
     go_wp2_with fail
     go_ret
     exact HPOST.out
end Go.Proofs.Ytnkefclbchpafaa

/-
  The walk of heronref11.Run.
-/
namespace Go.Proofs.Ytnkefclbchpafaa
open Go.RowKit
set_option linter.unusedVariables false
theorem Reads.lower {w:World} {S:Nat→Prop} {size n:Nat} {A:Option Addr} {xs:List Value} (h:Reads w S size A n xs):Reads w (fun k=>k < w.heap.size) size A n xs :=
 ⟨h.1,fun hn=>by obtain⟨ad,e,hb,hs',hc⟩:=h.2 hn;exact⟨ad,e,hb,hb,hc⟩⟩
theorem dH.lower {w:World} {S:Nat→Prop} {A:Option Addr} {n:Nat} {is:List av} (h:dH w S A n is):dH w (fun k=>k < w.heap.size) A n is :=
 ⟨h.len,fun i x hx=>by
  obtain⟨ad,g,o,B,m,c,e,e2,hs,hg,hr,hi,hc⟩:=h.at_ i x hx
  exact⟨ad,g,o,B,m,c,e,e2,hg,hg,⟨hr.r.lower,hr.i,hr.n⟩,hi,hc⟩⟩
theorem dH.weaken {w:World} {S S':Nat→Prop} {A:Option Addr} {n:Nat} {is:List av} (h:dH w S A n is) (hS:∀k,S k→S' k):dH w S' A n is :=
 ⟨h.len,fun i x hx=>by
  obtain⟨ad,g,o,B,m,c,e,e2,hs,hg,hr,hi,hc⟩:=h.at_ i x hx
  exact⟨ad,g,o,B,m,c,e,e2,hS _ hs,hg,⟨hr.r.weaken hS,hr.i,hr.n⟩,hi,hc⟩⟩
theorem dB.lower {w:World} {S:Nat→Prop} {A:Option Addr} {n:Nat} {xs:List Int} (h:dB w S A n xs):dB w (fun k=>k < w.heap.size) A n xs:=⟨h.r.lower,h.i,h.n⟩
theorem dB.weaken {w:World} {S S':Nat→Prop} {A:Option Addr} {n:Nat} {xs:List Int} (h:dB w S A n xs) (hS:∀k,S k→S' k):dB w S' A n xs:=⟨h.r.weaken hS,h.i,h.n⟩
def ansF (is:List av) (start caps:Int) (text:List Int) (a:Int) (anchored:Bool):(Option (List Int × Int) × Nat) × Int :=
 if 4194304 < text.length then ((none,0),2) else if fu is start caps=false then ((none,0),90) else if a < 0∨(text.length:Int) < a then ((none,0),1)
 else (jv is start.toNat caps.toNat text a.toNat anchored,0)
structure RunI (w0 w:World) (b g:Nat) (A:Option Addr) (c:Nat) (is:List av) (st:Int) (m:Nat) (T:Option Addr) (tc:Nat) (text:List Int) (N:Option Addr) (ths:List (Nat × List Int)) (fo:Option (List Int × Int)) (steps:Nat):Prop where
 upd:Upd Nob w0 w
 lo:w0.heap.size≤b
 box:Cells w w0.heap.size 27 #[.slice A is.length c,.int .i64 st,.int .i64 m]
 res:Cells w (w0.heap.size+1) 33 #[.bool false,.slice none 0 0,.int .i64 0,.int .i64 0]
 nn:CapR w (some ⟨g,0,none⟩) m (List.replicate m (-1))
 run:∃v4 v5 v6 FA fn fc wh v11,Cells w b 80 #[.slice A is.length c,.int .i64 st,.int .i64 m,.slice T text.length tc,v4,v5,v6,.bool fo.isSome,.slice FA fn fc,.int .i64 wh,.int .i64 (steps:Int),v11]∧FoundR w m fo FA fn wh
 row:∃xs,Reads w (·≠b) 2 N ths.length xs∧ThR w is.length m ths xs
 lit:0 < ths.length→∃gN,N=some ⟨gN,0,none⟩
section
variable {w0 wr : World} {b g : Nat} {A : Option Addr} {c : Nat} {is : List av} {st : Int} {m : Nat} {T : Option Addr} {tc : Nat} {text : List Int} {N : Option Addr} {ths : List (Nat × List Int)} {fo : Option (List Int × Int)} {steps : Nat}
theorem RunI.notint (h:RunI w0 wr b g A c is st m T tc text N ths fo steps):∀k,IntB wr k→¬k=b:=by
 rintro k ⟨cs,fr,hk⟩ rfl
 obtain⟨v4,v5,v6,FA,fn,fc,wh,v11,hC,-⟩:=h.run
 unfold Cells at hC
 rw[hC] at hk
 injection hk with hk
 injection hk with _ hk
 revert hk
 decide
theorem RunI.begin_ (h:RunI w0 wr b g A c is st m T tc text N ths fo steps) (H:dH w0 (fun k=>k < w0.heap.size) A is.length is) (HT:dB w0 (fun k=>k < w0.heap.size) T text.length text)
  (hn:is.length≤20000) (hst:steps+is.length≤1099511627776) {j mb mc:Nat} {w4:World} (hg:(wr.setCell ⟨b,0+4,none⟩ (.int .i64 (j:Int))).grownBy w4 none)
  (o:w4.ownsRow wr.heap.size 4 1 (.slice (some ⟨mb,0,none⟩) is.length mc) is.length (bvs (List.replicate is.length false))) :
  jU (((w4.setCell ⟨b,0+5,none⟩ (.slice (some ⟨mb,0,none⟩) is.length mc)).setCell ⟨b,0+6,none⟩ (.slice none 0 0)).setCell ⟨b,0+11,none⟩ (.bool false)) wr.heap.size b mb mc A c is st m T tc text j { met:=List.replicate is.length false,next:=[],found:=fo,steps:=steps,over:=false } ∧
  Upd (fun k=>k=b) wr (((w4.setCell ⟨b,0+5,none⟩ (.slice (some ⟨mb,0,none⟩) is.length mc)).setCell ⟨b,0+6,none⟩ (.slice none 0 0)).setCell ⟨b,0+11,none⟩ (.bool false)):=by
 obtain⟨v4,v5,v6,FA,fn,fc,wh,v11,hC,hF⟩:=h.run
 have hU:Upd (fun k=>k=b) wr (((w4.setCell ⟨b,0+5,none⟩ (.slice (some ⟨mb,0,none⟩) is.length mc)).setCell ⟨b,0+6,none⟩ (.slice none 0 0)).setCell ⟨b,0+11,none⟩ (.bool false)) :=
  ((((((Upd.refl (fun k=>k=b) wr).setCell ⟨b,0+4,none⟩ (.int .i64 (j:Int)) (fun _=>rfl))).grown hg (by simp)).setCell ⟨b,0+5,none⟩ _ (fun _=>rfl)).setCell ⟨b,0+6,none⟩ _ (fun _=>rfl)).setCell ⟨b,0+11,none⟩ _ (fun _=>rfl)
 have hk:=fq.of hU h.notint
 have hbl:=hC.lt
 have hsz:=h.upd.size
 have hlo:=h.lo
 have hmb:=(o.lt mb rfl).1
 have hob:(Value.slice (some ⟨mb,0,none⟩) is.length mc).ownBlock≠some b:=by simp[Value.ownBlock];omega
 have hS:∀k,k < w0.heap.size→¬k=b:=fun k hk e=>by omega
 have hw:∀k,k < w0.heap.size→k < wr.heap.size∧k≠b:=fun k hk=>⟨by omega,by omega⟩
 refine⟨⟨(((H.upd h.upd (fun _ _=>aj)).upd hU hS).weaken hw),(((HT.upd h.upd (fun _ _=>aj)).upd hU hS).weaken hw),hU.size,by simp,bN (bN (bN o _ _ hob) _ _ hob) _ _ hob,
  ⟨none,0,[],FA,fn,fc,wh,?_,World.ownsRow_nil _ _ _ _,⟨rfl,fun i pc caps hi=>by simp at hi⟩,hF.keep hk⟩,?_,?_⟩,hU⟩
 ·exact((((hC.aW (0+4) (.int .i64 (j:Int))).grown hg (by simp)).aW (0+5) _).aW (0+6) _).aW (0+11) _
 ·show steps+(List.replicate is.length false).count false≤_
  simp
  omega
 ·show 0+(List.replicate is.length false).count false≤_
  simp
  omega
theorem RunI.end_ (h:RunI w0 wr b g A c is st m T tc text N ths fo steps) {w5 w9:World} {j mb mc:Nat} {s5 s9:VSt} (hU:Upd (fun k=>k=b) wr w5) (h5:jU w5 wr.heap.size b mb mc A c is st m T tc text j s5)
  (hV:Upd (Fr wr.heap.size b mb w5) w5 w9) (h9:jU w9 wr.heap.size b mb mc A c is st m T tc text j s9) :
  ∃N' nc',w9.cell? ⟨b,0+6,none⟩=some (.slice N' s9.next.length nc')∧w9.cell? ⟨b,0+7,none⟩=some (.bool s9.found.isSome)∧RunI w0 w9 b g A c is st m T tc text N' s9.next s9.found s9.steps:=by
 obtain⟨N',nc',xs,FA,fn,fc,wh,hB,hN,hT,hF⟩:=h9.rest
 have hsz:=h.upd.size
 have hlo:=h.lo
 obtain⟨v4,v5,v6,FA0,fn0,fc0,wh0,v11,hC,-⟩:=h.run
 have hpb:w0.heap.size≠b:=Cells.ne_ h.box hC (by decide)
 have hrb:w0.heap.size+1≠b:=Cells.ne_ h.res hC (by decide)
 have hpl:=h.box.lt
 have hrl:=h.res.lt
 have hS:∀k,k < wr.heap.size→k≠b→¬Fr wr.heap.size b mb w5 k:=fun k h1 h2 hf=>hf.elim h2 (fun h=>absurd h.1 (by omega))
 have hbn:(Value.slice N' s9.next.length nc').ownBlock≠some b:=own_ne hN hB (by decide)
 refine⟨N',nc',hB.ak rfl,hB.ak rfl,⟨(h.upd.trans hU (fun k hk e=>absurd hk (by omega))).trans hV (fun k hk e=>?_),hlo,(h.box.upd hU hpb).upd hV (hS _ hpl hpb),(h.res.upd hU hrb).upd hV (hS _ hrl hrb),(h.nn.keep (fq.of hU h.notint)).keep (fq.of hV h5.notint),⟨_,_,_,FA,fn,fc,wh,_,hB,hF⟩,⟨xs,(Reads.eU hN).weaken (fun k hk e=>hbn (e ▸ hk)),hT⟩,fun hn=>?_⟩⟩
 ·rcases e with e | ⟨e,-⟩
  ·omega
  ·omega
 ·rcases hN.2 with⟨-,h0⟩ | ⟨gN,cap,cur,hv,-⟩
  ·omega
  ·injection hv with hv
   exact⟨gN,hv⟩
end
section
variable {is : List av} {text : List Int} {j : Nat}
theorem visitAll_work:∀(ths:List (Nat × List Int)) (s:VSt),(ay is text j ths s).steps+(ay is text j ths s).met.count false≤s.steps+s.met.count false∧(ay is text j ths s).next.length+(ay is text j ths s).met.count false≤s.next.length+s.met.count false
 | [],s=>⟨Nat.le_refl _,Nat.le_refl _⟩
 | x::r,s=>by
  have h1:=gH (is:=is) (text:=text) (j:=j) (is.length+1) x.1 x.2 s
  have h2:=visitAll_work r (aO is text j (is.length+1) x.1 x.2 s)
  exact⟨Nat.le_trans h2.1 h1.1,Nat.le_trans h2.2 h1.2⟩
theorem placeF_work (st:Nat) (none_:List Int) (ours:Bool) (ths:List (Nat × List Int)) (fo:Option (List Int × Int)) (steps:Nat) :
  (iP is st none_ text j ours ths fo steps).steps≤steps+is.length∧(iP is st none_ text j ours ths fo steps).next.length≤is.length:=by
 have h1:=visitAll_work (is:=is) (text:=text) (j:=j) ths { met:=List.replicate is.length false,next:=[],found:=fo,steps:=steps,over:=false }
 have h0:(List.replicate is.length false).count false=is.length:=by simp
 simp only[h0,List.length_nil,Nat.zero_add] at h1
 unfold iP
 cases ours
 ·exact⟨by simp only[Bool.false_eq_true,if_false];omega,by simp only[Bool.false_eq_true,if_false];omega⟩
 ·have h2:=gH (is:=is) (text:=text) (j:=j) (is.length+1) st none_ (ay is text j ths { met:=List.replicate is.length false,next:=[],found:=fo,steps:=steps,over:=false })
  simp only[if_true]
  exact⟨by omega,by omega⟩
end
theorem search_stop {is:List av} {st:Nat} {nn:List Int} {text:List Int} {a0 f j:Nat} {anchored:Bool} {ths:List (Nat × List Int)} {fo:Option (List Int × Int)} {steps:Nat} {s9:VSt}
  (h:iP is st nn text j (decide (j=a0) || !anchored && fo.isNone) ths fo steps=s9) (h0:s9.next.length=0) (h1:(s9.found.isSome || anchored)=true) :
  bM is st nn text a0 anchored (f+1) j ths fo steps=(s9.found,s9.steps):=by
 rw[bM]
 simp only[h]
 rw[h1,List.isEmpty_iff.2 (List.eq_nil_of_length_eq_zero h0)]
 rfl
theorem search_on {is:List av} {st:Nat} {nn:List Int} {text:List Int} {a0 f j:Nat} {anchored:Bool} {ths:List (Nat × List Int)} {fo:Option (List Int × Int)} {steps:Nat} {s9:VSt}
  (h:iP is st nn text j (decide (j=a0) || !anchored && fo.isNone) ths fo steps=s9) (h0:(s9.next.isEmpty && (s9.found.isSome || anchored))=false) :
  bM is st nn text a0 anchored (f+1) j ths fo steps=bM is st nn text a0 anchored f (j+1) s9.next s9.found s9.steps:=by
 rw[bM]
 simp only[h]
 rw[h0]
 rfl
end Go.Proofs.Ytnkefclbchpafaa

/-
  What the walk of pike.Run holds between the places.
-/
namespace Go.Proofs.Ytnkefclbchpafaa
open Go.RowKit
set_option linter.unusedVariables false
def aC (fo:Option (List Int × Int)):List Int:=match fo with | none=>[] | some x=>x.1
def fU (fo:Option (List Int × Int)):Int:=match fo with | none=>0 | some x=>x.2
theorem jN.reads {w:World} {sg m:Nat} {O:Option Nat} {fo:Option (List Int × Int)} {A:Option Addr} {fn:Nat} {wh:Int} (h:jN w sg O m fo A fn wh):Reads w (IntB w) 1 A fn (bn (aC fo))∧fn≤m∧wh=fU fo∧fn=(aC fo).length:=by
 rcases h with⟨rfl,rfl,rfl⟩ | ⟨caps,rfl,rfl,h1,h2⟩
 ·exact⟨.nil_,Nat.zero_le _,rfl,rfl⟩
 ·exact⟨h2.weaken (fun k hk=>hk.1),Nat.le_refl _,rfl,h1.symm⟩
def PkPost (w:World) (a:(Option (List Int × Int) × Nat) × Int) (e:Ending) (w':World):Prop :=
 ∃FA fn fc,e=.returned (.tuple #[.agg #[.bool a.1.1.isSome,.slice FA fn fc,.int .i64 (fU a.1.1),.int .i64 (a.1.2:Int)],.int .i64 a.2])∧fn=(aC a.1.1).length∧fn≤1002 ∧
  w'.ownsRow w.heap.size 3 1 (.slice FA fn fc) fn (bn (aC a.1.1))∧Upd Nob w w'
theorem SetR.rebase {w:World} {base base' b g N:Nat} {A:Option Addr} {c:Nat} {ats L:List Nat} (h:SetR w base b g N A c ats L) (hb:base'≤base):SetR w base' b g N A c ats L :=
 ⟨h.blk,kS h.own (fun k hk=>Nat.le_trans hb (h.own.lt k hk).1),kS h.at_ (fun k hk=>Nat.le_trans hb (h.at_.lt k hk).1),h.apart,Nat.le_trans hb h.low,h.ok⟩
section
variable {w w' : World} {e0 b sb sg : Nat} {O O' NO NO' : Option Nat} {A : Option Addr} {c : Nat} {is : List av} {st : Int} {m : Nat} {T : Option Addr} {tc : Nat} {text : List Int} {j : Nat} {fo : Option (List Int × Int)} {steps : Nat} {N : Option Addr} {ths : List (Nat × List Int)}
theorem PkI.far_t (h:PkI w e0 b sb sg O A c is st m T tc text j fo steps N ths) {k:Nat} {t:TypeId} {cs:Array Value} (hk:Cells w k t cs) (h1:t≠73) (h2:t≠105) (h3:t≠3):¬Fp b sb sg O none k:=by
 obtain⟨SA,sc,ats,L,hS,hO⟩:=h.aW
 obtain⟨bits,nv,FA,fn,fc,wh,hC,-⟩:=h.run
 rintro(e | e | e | e | e)
 ·exact Cells.ne_ hk hC h1 e
 ·exact Cells.ne_ hk hS.blk h2 e
 ·obtain⟨cg,hcg,-⟩:=aK hS.at_ rfl
  exact Cells.ne_ hk hcg h3 e
 ·obtain⟨co,hco,-⟩:=aK hS.own (hO.trans e)
  exact Cells.ne_ hk hco h3 rfl
 ·cases e
theorem PkI.old (h:PkI w e0 b sb sg O A c is st m T tc text j fo steps N ths) {k:Nat} (hk:k < e0):¬Fp b sb sg O none k:=by
 obtain⟨SA,sc,ats,L,hS,hO⟩:=h.aW
 have h1:=hS.low
 have h2:=(hS.at_.lt sg rfl).1
 have h3:=h.eb
 rintro(e | e | e | e | e)
 ·omega
 ·omega
 ·omega
 ·have:=(hS.own.lt k (hO.trans e)).1;omega
 ·cases e
theorem PkI.next {s9:VSt} {nc:Nat} {xs:List Value} {FA:Option Addr} {fn fc:Nat} {wh:Int} {n0:Nat} (h:PkR w n0 e0 b sb sg O NO A c is st m T tc text j s9)
  (hC:Cells w b 73 (jF A is.length c st m T text.length tc j (part text j 6) sb N s9.next.length nc s9.found.isSome FA fn fc wh s9.steps))
  (hN:w.ownsRow n0 108 2 (.slice N s9.next.length nc) s9.next.length xs) (hT:ThQ w sg O is.length m s9.next xs) (hF:jN w sg O m s9.found FA fn wh) :
  PkI (w.setCell ⟨b,0+4,none⟩ (.int .i64 ((j:Int)+1))) e0 b sb sg O A c is st m T tc text (j+1) s9.found s9.steps N s9.next:=by
 obtain⟨SA,sc,ats,L,hS,hO,-⟩:=h.aW
 obtain⟨f1,f2,f3,f4,f5,f6,f7⟩:=h.facts
 have heb:=h.eb
 have hU:Upd (fun k=>k=b) w (w.setCell ⟨b,0+4,none⟩ (.int .i64 ((j:Int)+1))):=kF _ _ _ rfl
 have hk:bW sg O O w (w.setCell ⟨b,0+4,none⟩ (.int .i64 ((j:Int)+1))):=⟨hU.size,fun k hk hi h1 h2=>⟨hU.block k hk (fun e=>h.b_int (e ▸ hi)),h2⟩⟩
 refine⟨h.insts.upd hU (fun k hk e=>by omega),h.txt.upd hU (fun k hk e=>by omega),h.eb,Nat.le_trans h.en (Nat.le_trans h.n0w hU.size),⟨SA,sc,ats,L,hS.upd hU (fun e=>f4 e.symm) (fun e=>f5 e.symm) (fun k hk e=>f6 k (hO.symm.trans hk) e),hO⟩,
  ⟨_,_,FA,fn,fc,wh,hC.aW (0+4) _,hF.keep hk⟩,⟨xs,?_,hT.keep hk⟩,fun hn=>?_⟩
 ·have h1:Reads w (fun k=>∃cs,Cells w k 108 cs) 2 N s9.next.length xs:=(Reads.eU hN).weaken (fun k hk=>by obtain⟨cur,hC,-⟩:=aK hN hk;exact⟨cur,hC⟩)
  have hne:∀k,(∃cs,Cells w k 108 cs)→¬k=b:=by
   rintro k ⟨cs,hk⟩ e
   exact Cells.ne_ hk hC (by decide) e
  exact(h1.upd hU hne).weaken (fun k hk=>by
   have h2:=hne k hk
   obtain⟨cs,hk⟩:=hk
   exact⟨cs,hk.far _ _ h2⟩)
 ·rcases hN.2 with⟨-,h0⟩ | ⟨gN,cap,cur,hv,-⟩
  ·omega
  ·injection hv with hv
   exact⟨gN,hv⟩
end
structure PkFin (w0 w:World) (b sg:Nat) (m:Nat) (fo:Option (List Int × Int)) (steps:Nat):Prop where
 upd:Upd Nob w0 w
 res:Cells w (w0.heap.size+1) 33 #[.bool false,.slice none 0 0,.int .i64 0,.int .i64 0]
 run:∃v0 v1 v2 v3 v4 v5 v6 v7 FA fn fc O,Cells w b 73 #[v0,v1,v2,v3,v4,v5,v6,v7,.bool fo.isSome,.slice FA fn fc,.int .i64 (fU fo),.int .i64 0,.int .i64 (steps:Int)]∧jN w sg O m fo FA fn (fU fo)
structure PkL (w0 w:World) (b sb sg:Nat) (O:Option Nat) (A:Option Addr) (c:Nat) (is:List av) (st:Int) (m:Nat) (T:Option Addr) (tc:Nat) (text:List Int) (j:Nat) (fo:Option (List Int × Int)) (steps:Nat) (N:Option Addr) (ths:List (Nat × List Int)):Prop where
 upd:Upd Nob w0 w
 box:Cells w w0.heap.size 27 #[.slice A is.length c,.int .i64 st,.int .i64 m]
 res:Cells w (w0.heap.size+1) 33 #[.bool false,.slice none 0 0,.int .i64 0,.int .i64 0]
 pk:PkI w w0.heap.size b sb sg O A c is st m T tc text j fo steps N ths
section
variable {w0 w w' : World} {b sb sg : Nat} {O O' NO' : Option Nat} {A : Option Addr} {c : Nat} {is : List av} {st : Int} {m : Nat} {T : Option Addr} {tc : Nat} {text : List Int} {j : Nat} {fo : Option (List Int × Int)} {steps : Nat} {N : Option Addr} {ths : List (Nat × List Int)}
theorem PkL.fin (h:PkL w0 w b sb sg O A c is st m T tc text j fo steps N ths):PkFin w0 w b sg m fo steps:=by
 obtain⟨bits,nv,FA,fn,fc,wh,hC,hF⟩:=h.pk.run
 obtain⟨-,-,hw,-⟩:=hF.reads
 subst hw
 exact⟨h.upd,h.res,⟨_,_,_,_,_,_,_,_,FA,fn,fc,O,hC,hF⟩⟩
theorem PkL.step (h:PkL w0 w b sb sg O A c is st m T tc text j fo steps N ths) (hU:dY b sb sg O O' none NO' w w') :
  Upd Nob w0 w'∧Cells w' w0.heap.size 27 #[.slice A is.length c,.int .i64 st,.int .i64 m]∧Cells w' (w0.heap.size+1) 33 #[.bool false,.slice none 0 0,.int .i64 0,.int .i64 0] :=
 ⟨h.upd.trans hU.upd (fun k hk e=>absurd e (h.pk.old hk)),h.box.upd hU.upd (h.pk.far_t h.box (by decide) (by decide) (by decide)),h.res.upd hU.upd (h.pk.far_t h.res (by decide) (by decide) (by decide))⟩
end
end Go.Proofs.Ytnkefclbchpafaa
