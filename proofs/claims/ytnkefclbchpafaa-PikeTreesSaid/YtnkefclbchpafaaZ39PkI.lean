/-
  PkStk, PkVisit, PkI, put together.
-/
import Derived.Test.YtnkefclbchpafaaZ37Fits
import Derived.Test.YtnkefclbchpafaaZ38StackP
import Derived.Test.YtnkefclbchpafaaZ06RefRight
import Derived.StillTailTactics
import Derived.Deep.RegionHeld3
import Derived.Test.YtnkefclbchpafaaZ10Greed

/-
  What the stack of a visit of pike leaves of the run.
-/
namespace Go.Proofs.Ytnkefclbchpafaa
open Go.RowKit
set_option linter.unusedVariables false
theorem own_take {w:World} {base e n m size c:Nat} {A:Option Addr} {xs:List Value} (h:w.ownsRow base e size (.slice A n c) n xs) (hm:m≤n):w.ownsRow base e size (.slice A m c) m (xs.take (m*size)):=by
 rcases h.2 with⟨h',hn⟩ | ⟨g',cap',cur,h',hb,hg,hnc,hcm,hcs,ht⟩
 ·injection h' with h1 h2 h3
  subst h1;subst h3
  obtain rfl:m=0:=by omega
  exact⟨by simp,.inl ⟨rfl,rfl⟩⟩
 ·injection h' with h1 h2 h3
  subst h1;subst h3
  have hms:m*size≤n*size:=Nat.mul_le_mul_right size hm
  refine⟨?_,.inr ⟨g',c,cur,rfl,hb,hg,by omega,hcm,hcs,?_⟩⟩
  ·rw[List.length_take,h.1,Nat.min_eq_left hms]
  ·rw[←ht,List.take_take,Nat.min_eq_left hms]
section
variable {w wr wa w9 : World} {n0 e0 b sb sg : Nat} {O O' NO NO' : Option Nat} {A : Option Addr} {c : Nat} {is : List av} {st : Int} {m : Nat} {T : Option Addr} {tc : Nat} {text : List Int} {j : Nat} {s : VSt}
theorem stk_grow {LA LA':Option Addr} {n n' lc lc':Nat} {xs:List Value} (h:PkR wr n0 e0 b sb sg O' NO' A c is st m T tc text j s) (hn0:n0≤w.heap.size) (hup:dY b sb sg O O' NO NO' w wr)
  (hrow:wr.ownsRow w.heap.size 108 2 (.slice LA n lc) n xs) (hdis:∀k,(Value.slice LA n lc).ownBlock=some k→NO'≠some k)
  (hUa:Upd Nob wr wa) (hg:wa.grownBy w9 (Value.slice LA n lc).ownBlock) (hat:(Value.slice LA' n' lc').ownBlock=(Value.slice LA n lc).ownBlock∨∃k,(Value.slice LA' n' lc').ownBlock=some k∧wr.heap.size≤k) :
  PkR w9 n0 e0 b sb sg O' NO' A c is st m T tc text j s∧dY b sb sg O O' NO NO' w w9∧bW sg O' O' wr w9∧(∀k,(Value.slice LA' n' lc').ownBlock=some k→NO'≠some k):=by
 obtain⟨f1,f2,f3,f4,f5,f6,f7⟩:=h.facts
 have hU:Upd (fun k=>(Value.slice LA n lc).ownBlock=some k) wr w9:=(hUa.mono (fun _ _ h=>absurd h aj)).grown hg (fun k hk _=>hk)
 have hbk:∀k,(Value.slice LA n lc).ownBlock=some k→∃cur,Cells wr k 108 cur:=fun k hk=>by
  obtain⟨cur,hC,-⟩:=aK hrow hk
  exact⟨cur,hC⟩
 obtain⟨SA,sc,ats,L,hSt,hO,hL⟩:=h.aW
 obtain⟨N,nc,xs2,FA,fn,fc,wh,hC,hN,hNO,hT,hF⟩:=h.rest
 have hen:=h.en
 have hi:∀k,IntB wr k→¬(Value.slice LA n lc).ownBlock=some k:=fun k hk e=>by
  obtain⟨cur,hC⟩:=hbk k e
  exact hC.not_int (by decide) hk
 have hNlt:∀k,NO'=some k→k < wr.heap.size:=fun k hk=>(hN.lt k (hNO.trans hk)).2
 refine⟨h.far hU (own_ne hrow hC (by decide)) (own_ne hrow hSt.blk (by decide)) ?_ ?_ (fun k hk e=>hdis k e hk) hi ?_,⟨hup.upd.trans hU (fun k hk e=>?_),hup.own,hup.nown⟩,⟨hU.size,fun k hk hik h1 h2=>⟨hU.block k hk (hi k hik),h2⟩⟩,?_⟩
 ·obtain⟨cg,hcg,-⟩:=aK hSt.at_ rfl
  exact own_ne hrow hcg (by decide)
 ·intro k hk
  obtain⟨co,hco,-⟩:=aK hSt.own (hO.trans hk)
  exact own_ne hrow hco (by decide)
 ·intro k hk e
  have:=(hrow.lt k e).1
  omega
 ·have:=(hrow.lt k e).1
  omega
 ·intro k hk
  rcases hat with e | ⟨k1,e,hk1⟩
  ·exact hdis k (e.symm.trans hk)
  ·rw[e] at hk
   injection hk with hk
   subst hk
   intro e2
   have:=hNlt _ e2
   omega
theorem PkR.thr_fp (h:PkR w n0 e0 b sb sg O NO A c is st m T tc text j s) {x:Nat} {cs:Array Value} (hx:Cells w x 108 cs) (hn:NO≠some x):¬Fp b sb sg O NO x:=by
 obtain⟨SA,sc,ats,L,hSt,hO,hL⟩:=h.aW
 obtain⟨N,nc,xs2,FA,fn,fc,wh,hC,hN,hNO,hT,hF⟩:=h.rest
 rintro(e | e | e | e | e)
 ·exact Cells.ne_ hx hC (by decide) e
 ·exact Cells.ne_ hx hSt.blk (by decide) e
 ·obtain⟨cg,hcg,-⟩:=aK hSt.at_ rfl
  exact Cells.ne_ hx hcg (by decide) e
 ·obtain⟨co,hco,-⟩:=aK hSt.own (hO.trans e)
  exact Cells.ne_ hx hco (by decide) rfl
 ·exact hn e
theorem PkR.nlt (h:PkR w n0 e0 b sb sg O NO A c is st m T tc text j s) {k:Nat} (hk:NO=some k):k < w.heap.size:=by
 obtain⟨N,nc,xs2,FA,fn,fc,wh,hC,hN,hNO,hT,hF⟩:=h.rest
 exact(hN.lt k (hNO.trans hk)).2
theorem stk_step {O4 NO4:Option Nat} {w4:World} {LA:Option Addr} {n lc:Nat} {xs:List Value} {base:Nat} (h:PkR wr n0 e0 b sb sg O' NO' A c is st m T tc text j s) (hUP:dY b sb sg O' O4 NO' NO4 wr w4)
  (hrow:wr.ownsRow base 108 2 (.slice LA n lc) n xs) (hdis:∀k,(Value.slice LA n lc).ownBlock=some k→NO'≠some k) :
  w4.ownsRow base 108 2 (.slice LA n lc) n xs∧(∀k,(Value.slice LA n lc).ownBlock=some k→NO4≠some k):=by
 refine⟨aJ hrow hUP.upd (fun k hk=>?_),fun k hk e=>?_⟩
 ·obtain⟨cur,hC,-⟩:=aK hrow hk
  exact h.thr_fp hC (hdis k hk)
 ·rcases hUP.nown with h1 | ⟨k1,h1,h2⟩
  ·exact hdis k hk (h1 ▸ e)
  ·rw[h1] at e
   injection e with e
   subst e
   have:=(hrow.lt k1 hk).2
   omega
theorem dY.out {w1:World} {F:Nat→Prop} (h:dY b sb sg O O' NO NO' w wr) (hU:Upd F wr w1) (hF:∀k,k < w.heap.size→¬F k):dY b sb sg O O' NO NO' w w1 :=
 ⟨h.upd.trans hU (fun k hk e=>absurd e (hF k hk)),h.own,h.nown⟩
end
end Go.Proofs.Ytnkefclbchpafaa

/-
  The walk of pike's visit.
-/
namespace Go.Proofs.Ytnkefclbchpafaa
set_option maxRecDepth 100000
set_option maxHeartbeats 16000000
open Go.RowKit
set_option linter.unusedVariables false
structure StkR (w wr:World) (n0 e0 b sb sg:Nat) (O O' NO NO':Option Nat) (A:Option Addr) (c:Nat) (is:List av) (st:Int) (m:Nat) (T:Option Addr) (tc:Nat) (text:List Int) (j:Nat) (tgt:VSt) (l:List (Nat × List Int)) (s:VSt) (LA:Option Addr) (lc:Nat):Prop where
 pk:PkR wr n0 e0 b sb sg O' NO' A c is st m T tc text j s
 up:dY b sb sg O O' NO NO' w wr
 goal_:ay is text j l s=tgt
 ov:s.over=false
 row:∃xs,wr.ownsRow w.heap.size 108 2 (.slice LA l.length lc) l.length xs∧ThQ wr sg O' is.length m l.reverse xs
 dis:∀k,(Value.slice LA l.length lc).ownBlock=some k→NO'≠some k
 len:l.length+2*s.met.count false≤40001
theorem pkvisit_any (w:World) (n0 e0 b sb sg:Nat) (O NO:Option Nat) (A:Option Addr) (c:Nat) (is:List av) (st:Int) (m:Nat) (T:Option Addr) (tc:Nat) (text:List Int) (j:Nat) (s:VSt)
  (h:PkR w n0 e0 b sb sg O NO A c is st m T tc text j s) (hov:s.over=false) (pc:Nat) (C:Option Addr) (cc:Nat) (caps:List Int) (hpc:pc < is.length) (hcl:caps.length=m) (hQ:CapQ w sg O C m caps)
  (hj:j≤text.length) (hn:is.length≤20000) (hm1:1≤m) (hm2:m≤1002) (hmay:∀(i:Nat) (x:av),is[i]?=some x→bC x is.length m=true) :
  Calls Try.prog 32 #[.pointer (some ⟨b,0,none⟩),.agg #[.int .i64 (pc:Int),.slice C m cc],.func (.func 50) #[.pointer (some ⟨b,0,none⟩)] #[]] w fun e w' =>
   e=.returned (.bool (ay is text j [(pc,caps)] s).over)∧∃O' NO',PkR w' n0 e0 b sb sg O' NO' A c is st m T tc text j (ay is text j [(pc,caps)] s)∧dY b sb sg O O' NO NO' w w':=by
 obtain⟨i0,hi0,hz0,hz1,hz2⟩:=info_parts info_pthread
 have hn0:=h.n0w
 have hcl0:=List.count_le_length (a:=false) (l:=s.met)
 have hml:=h.mlen
 have C1:=Cells.new w 108 #[.int .i64 (pc:Int),.slice C m cc]
 have hU1:=(Upd.refl Nob w).alloc (.cells #[.int .i64 (pc:Int),.slice C m cc] 108)
 have hU2:=hU1.alloc (.cells #[.int .i64 (pc:Int),.slice C m cc] 108)
 have hsz1:(w.alloc (.cells #[.int .i64 (pc:Int),.slice C m cc] 108)).heap.size=w.heap.size+1:=by simp
 have hrow:((w.alloc (.cells #[.int .i64 (pc:Int),.slice C m cc] 108)).alloc (.cells #[.int .i64 (pc:Int),.slice C m cc] 108)).ownsRow w.heap.size 108 2 (.slice (some ⟨w.heap.size+1,0,none⟩) 1 1) 1 [.int .i64 (pc:Int),.slice C m cc]:=by
  have h:=World.ownsRow_lit (size:=2) (e:=108) (base:=w.heap.size) (w.alloc (.cells #[.int .i64 (pc:Int),.slice C m cc] 108)) #[.int .i64 (pc:Int),.slice C m cc] 1 (by simp) (by unfold maxLen;omega) rfl
  rw[hsz1] at h
  exact h
 obtain⟨N,nc,xsn,FA,fn,fc,wh,hCb,hN,hNO,-⟩:=h.rest
 have hNlt:∀k,NO=some k→k < w.heap.size:=fun k hk=>(hN.lt k (hNO.trans hk)).2
 have hth:ThQ ((w.alloc (.cells #[.int .i64 (pc:Int),.slice C m cc] 108)).alloc (.cells #[.int .i64 (pc:Int),.slice C m cc] 108)) sg O is.length m [(pc,caps)] [.int .i64 (pc:Int),.slice C m cc]:=by
  have h0:ThQ ((w.alloc (.cells #[.int .i64 (pc:Int),.slice C m cc] 108)).alloc (.cells #[.int .i64 (pc:Int),.slice C m cc] 108)) sg O is.length m [] []:=⟨rfl,fun i pc caps hi=>by simp at hi⟩
  exact h0.more hpc hcl (hQ.keep (bW.still hU2))
 have HS:=ah (⟨h.still hU2,.still hU2,rfl,hov,⟨_,hrow,hth⟩,fun k hk e=>by simp[Value.ownBlock] at hk;have:=hNlt k e;omega,by simp only[List.length_singleton];omega⟩ :
  StkR w ((w.alloc (.cells #[.int .i64 (pc:Int),.slice C m cc] 108)).alloc (.cells #[.int .i64 (pc:Int),.slice C m cc] 108)) n0 e0 b sb sg O O NO NO A c is st m T tc text j (ay is text j [(pc,caps)] s) [(pc,caps)] s (some ⟨w.heap.size+1,0,none⟩) 1)
 have e0':(w.alloc (.cells #[.int .i64 (pc:Int),.slice C m cc] 108)).cell? ⟨w.heap.size,0,none⟩=some (.int .i64 (pc:Int)):=C1.ak rfl
 have e1':(w.alloc (.cells #[.int .i64 (pc:Int),.slice C m cc] 108)).cell? ⟨w.heap.size,0+1,none⟩=some (.slice C m cc):=C1.ak rfl
 have HMAY:=ah hmay
 generalize hT:ay is text j [(pc,caps)] s=tgt at *
 clear h hQ C1 hU1 hU2 hrow hth hN hNO hmay hCb hT hNlt
 go_enter Try.func32,Try.ntmps32
 go_wp2_with fail
 go_loopg [7,8,9] (1+3*s.met.count false) (fun gk v7 v8 v9 wr=>∃(l:List (Nat × List Int)) (s':VSt) (LA:Option Addr) (lc:Nat) (O' NO':Option Nat),gk=l.length+3*s'.met.count false∧v7=.slice LA l.length lc∧StkR w wr n0 e0 b sb sg O O' NO NO' A c is st m T tc text j tgt l s' LA lc)
 case atStart=>exact⟨[(pc,caps)],s,_,_,O,NO,rfl,rfl,HS.out⟩
 case round =>
  clear HS
  obtain⟨l,s',LA,lc,O',NO',rfl,rfl,hS⟩:=hrel
  rcases l with _ | ⟨⟨p1,k1⟩,r⟩
  ·have hg:ay is text j [] s'=tgt:=hS.goal_
   have hg2:s'=tgt:=hg
   subst hg2
   have HS:=ah hS
   clear hS hg
   go_wp2_with fail
   go_ret
   exact⟨congrArg Ending.returned (congrArg Value.bool HS.out.ov.symm),O',NO',HS.out.pk,HS.out.up⟩
  obtain⟨xs,hrow,hth⟩:=hS.row
  have hlen:((p1,k1)::r).length=r.length+1:=rfl
  have hx:((p1,k1)::r).reverse[r.length]?=some (p1,k1):=by
   rw[List.reverse_cons,List.getElem?_append_right (by simp)]
   simp
  obtain⟨hp1,hk1,CA,c1,x0,x1,hcap⟩:=hth.2 r.length p1 k1 hx
  have hrow1:=own_take hrow (show r.length≤((p1,k1)::r).length by simp)
  have hth1:ThQ wr sg O' is.length m r.reverse (xs.take (r.length*2)):=by
   refine⟨by rw[List.length_take,hth.1];simp,fun i pc2 caps2 hi=>?_⟩
   have hil:=(List.getElem?_eq_some_iff.1 hi).1
   rw[List.length_reverse] at hil
   have hi2:((p1,k1)::r).reverse[i]?=some (pc2,caps2):=by
    rw[List.reverse_cons,List.getElem?_append_left (by simpa using hil)]
    exact hi
   obtain⟨h1,h2,A2,c2,h3,h4,h5⟩:=hth.2 i pc2 caps2 hi2
   exact⟨h1,h2,A2,c2,by rw[List.getElem?_take_of_lt (by omega)];exact h3,by rw[List.getElem?_take_of_lt (by omega)];exact h4,h5⟩
  obtain⟨gL,hgL⟩:∃gL,LA=some ⟨gL,0,none⟩:=by
   rcases hrow.2 with⟨-,h0⟩ | ⟨gN,cap,cur,hv,-⟩
   ·simp at h0
   ·injection hv with hv
    exact⟨gN,hv⟩
  subst hgL
  have hc2:=hrow.cells rfl
  have y0:wr.cell? ⟨gL,r.length*2,none⟩=some (.int .i64 (p1:Int)):=by have:=hc2 _ _ x0;rwa [bX,Nat.zero_add] at this
  have y1:wr.cell? ⟨gL,r.length*2+1,none⟩=some (.slice CA m c1):=by have:=hc2 _ _ x1;rwa [bX,Nat.zero_add] at this
  obtain⟨ad,hadl⟩:∃ad:Addr,ad=⟨gL,0,none⟩:=⟨_,rfl⟩
  have hadd:ad.add (r.length*2)=⟨gL,r.length*2,none⟩:=by rw[hadl,bX,Nat.zero_add]
  have hlc:r.length+1≤lc:=by
   rcases hrow.2 with⟨-,h0⟩ | ⟨gN,cap,cur,hv,hb,hg,hnc,-⟩
   ·simp at h0
   ·injection hv with h1 h2 h3
    rw[h3]
    simpa using hnc
  have hlenl:=hS.len
  have hgLl:gL < wr.heap.size:=(hrow1.lt gL rfl).2
  rw[hlen] at hlenl
  have HS:=ah hS
  have HROW:=ah hrow1
  have HTH:=ah hth1
  have HCAP:=ah hcap
  clear hS hrow hth hx hrow1 hth1 hcap hc2 x0 x1
  rw[hlen,←hadl]
  have g1:(0:Int) < (r.length:Int)+1:=by omega
  go_upto_region 5 with fail
  have hU2:=(Upd.refl Nob wr).alloc (.cells #[.int .i64 (p1:Int),.slice CA m c1] 108)
  have HX:=ah (Cells.new wr 108 #[.int .i64 (p1:Int),.slice CA m c1])
  have HPK:=ah (HS.out.pk.still hU2)
  have HUP:=ah (HS.out.up.trans (.still hU2))
  have HROW2:=ah (aJ HROW.out hU2 (fun _ _=>aj))
  have HTH2:=ah (HTH.out.keep (bW.still hU2))
  have HCAP2:=ah (HCAP.out.keep (bW.still hU2))
  have hwr:=HS.out.up.upd.size
  have hNx:NO'≠some wr.heap.size:=fun e=>absurd (HS.out.pk.nlt e) (by omega)
  generalize wr.alloc (.cells #[.int .i64 (p1:Int),.slice CA m c1] 108)=w2 at *
  have hxb:w.heap.size≤wr.heap.size:=hwr
  generalize wr.heap.size=xb at *
  clear hU2 hadl hadd y0 y1 HROW HTH HCAP
  obtain⟨SA,sc,ats,L,hSet,hO,hL⟩:=HPK.out.aW
  obtain⟨N2,nc2,xs2,FA2,fn2,fc2,wh2,hC2,-⟩:=HPK.out.rest
  have l6:w2.cell? ⟨b,0+6,none⟩=some (.pointer (some ⟨sb,0,none⟩)):=hC2.ak rfl
  have x0:w2.cell? ⟨xb,0,none⟩=some (.int .i64 (p1:Int)):=HX.out.ak rfl
  have HSet:=ah hSet
  have HL:=ah hL
  have HO:=ah hO
  have hmlen:=HPK.out.mlen
  clear hSet hC2 hL hO
  go_still_tail 6,(by kernel_rfl)
  change wpList _ _ _ _ _ w2.drew
  clear l6
  have hUd:=(Upd.refl Nob w2).drew
  have HX3:=ah (HX.out.upd hUd aj)
  have HPK3:=ah (HPK.out.still hUd)
  have HUP3:=ah (HUP.out.trans (.still hUd))
  have HROW3:=ah (aJ HROW2.out hUd (fun _ _=>aj))
  have HTH3:=ah (HTH2.out.keep (bW.still hUd))
  have HCAP3:=ah (HCAP2.out.keep (bW.still hUd))
  have HSet3:=ah (HSet.out.upd hUd aj aj (fun _ _=>aj))
  generalize w2.drew=w3 at *
  clear hUd HX HPK HUP HROW2 HTH2 HCAP2 HSet x0
  obtain⟨mb,hmb⟩:∃mb,s'.met[p1]?=some mb:=⟨_,List.getElem?_eq_getElem (by omega)⟩
  go_wp2_with fail
  have hdis1:∀k,(Value.slice (some ⟨gL,0,none⟩) r.length lc).ownBlock=some k→NO'≠some k:=fun k hk=>HS.out.dis k hk
  have HDIS:=ah hdis1
  clear hdis1
  rcases mb with _ | _
  rotate_left
  ·have hin:gI L (p1:Int)=true:=by
    unfold gI
    exact decide_eq_true ⟨by omega,by simpa using (HL.out p1 hp1).1 hmb⟩
   have HG:=ah ((stack_met (is:=is) (text:=text) (j:=j) (l:=r) (caps:=k1) hmb).symm.trans HS.out.goal_)
   have HMB:=ah hmb
   clear hmb
   refine(setAdd_no w3 e0 sb sg is.length SA sc ats L (p1:Int) HSet3.out (by omega) (by omega) (by omega) (.inr (.inr hin))).mono ?_
   rintro e w4 ⟨rfl,rfl⟩
   clear hin
   go_wp2_with fail
   go_roundg (r.length+3*s'.met.count false)
   case measure=>simp only[List.length_cons];omega
   case rel=>exact⟨r,s',some ⟨gL,0,none⟩,lc,O',NO',rfl,rfl,⟨HPK3.out,HUP3.out,HG.out,HS.out.ov,⟨_,HROW3.out,HTH3.out⟩,HDIS.out,by omega⟩⟩
  have hnin:p1 ∉ L:=fun hm=>by
   have:=(HL.out p1 hp1).2 hm
   rw[hmb] at this
   cases this
  have HMB:=ah hmb
  have hn0w:=HPK3.out.n0w
  have hen:=HPK3.out.en
  refine(setAdd_yes w3 e0 sb sg is.length SA sc ats L p1 HSet3.out (by omega) hp1 hnin (by omega)).mono ?_
  rintro e w4 ⟨rfl,hP4⟩
  have hcm:=gK hmb
  have hroom:=HPK3.out.room
  have hwork:=HPK3.out.work
  obtain⟨O4,hPK5,hUP5⟩:=HPK3.out.mark hmb HO.out HL.out hP4
  have HX5:=ah (HX3.out.upd hUP5.upd (HPK3.out.thr_fp HX3.out hNx))
  obtain⟨hrow5,hdis5⟩:=stk_step HPK3.out hUP5 HROW3.out HDIS.out
  have hkp:=HPK3.out.keep hUP5
  have HROW5:=ah hrow5
  have HDIS5:=ah hdis5
  have HTH5:=ah (HTH3.out.keep hkp)
  have HCAP5:=ah (HCAP3.out.keep hkp)
  have HUP5:=ah (HUP3.out.trans hUP5)
  have HPK5:=ah hPK5
  obtain⟨N3,nc3,xs3,FA3,fn3,fc3,wh3,hC3,-⟩:=HPK3.out.rest
  have hC4:=hC3.upd hP4.upd (by
   obtain⟨f1,f2,f3,f4,f5,f6,f7⟩:=HPK3.out.facts
   rintro(e | e | e)
   ·exact f4 e
   ·exact f5 e
   ·exact f6 b (HO.out.symm.trans e) rfl)
  have z12:w4.cell? ⟨b,0+12,none⟩=some (.int .i64 (s'.steps:Int)):=hC4.ak rfl
  have fz12:w4.frozen? ⟨b,0+12,none⟩=false:=hC4.frozen 12
  obtain⟨x,hx⟩:∃x,is[p1]?=some x:=⟨_,List.getElem?_eq_getElem hp1⟩
  have HGO:=ah ((stack_go (is:=is) (text:=text) (j:=j) (l:=r) (caps:=k1) HS.out.ov (by omega) HMB.out hx).symm.trans HS.out.goal_)
  have hcnt:(aG s' p1).met.count false+1=s'.met.count false:=hcm
  have hrm:(aG s' p1).next.length+(aG s' p1).met.count false+1≤20000:=by
   show s'.next.length+(aG s' p1).met.count false+1≤20000
   omega
  have HXI:=ah hx
  clear hPK5 hUP5 hrow5 hdis5 hkp hC3 hC4 hP4 hmb hnin hcm hx HPK3 HUP3 HROW3 HTH3 HCAP3 HSet3 HX3 HDIS
  go_upto_region 7 with fail
  generalize w4.setCell ⟨b,0+12,none⟩ (.int .i64 ((s'.steps:Int)+1))=w5 at *
  clear z12 fz12
  obtain⟨N5,nc5,xs5,FA5,fn5,fc5,wh5,hC5,-⟩:=HPK5.out.rest
  obtain⟨ad2,g,o,x9,B,mr,c',rfl,hx9,hadd9,-,hg9,hRR,hI,q0,q1,q2,q3,q4⟩:=HPK5.out.insts.at1 hp1
  obtain rfl:x9=x:=by have:=HXI.out;rw[hx9] at this;injection this
  have z0:w5.cell? ⟨b,0,none⟩=some (.slice (some ad2) is.length c):=hC5.ak rfl
  have x0:w5.cell? ⟨xb,0,none⟩=some (.int .i64 (p1:Int)):=HX5.out.ak rfl
  have hmy:=HMAY.out p1 x9 hx9
  obtain⟨op,xx,yy,arg,rs⟩:=x9
  simp only at q0 q1 q2 q3 hRR hI
  have HMY:=ah hmy
  have HRR:=ah hRR
  have HI:=ah hI
  have hp1l:(p1:Int) < (is.length:Int):=by omega
  clear hx9 hmy hRR hI
  have hUz:=(Upd.refl Nob w5).alloc (.cells #[.int .i64 0,.int .i64 0,.int .i64 0,.int .i64 0,.slice none 0 0] 64)
  have hbl5:=(HX5.out.lt)
  have z0a:(w5.alloc (.cells #[.int .i64 0,.int .i64 0,.int .i64 0,.int .i64 0,.slice none 0 0] 64)).cell? ⟨b,0,none⟩=some (.slice (some ad2) is.length c):=(hC5.upd hUz aj).ak rfl
  have x0a:(w5.alloc (.cells #[.int .i64 0,.int .i64 0,.int .i64 0,.int .i64 0,.slice none 0 0] 64)).cell? ⟨xb,0,none⟩=some (.int .i64 (p1:Int)):=(HX5.out.upd hUz aj).ak rfl
  have q0a:(w5.alloc (.cells #[.int .i64 0,.int .i64 0,.int .i64 0,.int .i64 0,.slice none 0 0] 64)).cell? ⟨g,o,none⟩=some (.int .i64 op):=(hUz.cell (p:=⟨g,o,none⟩) hg9 aj).trans q0
  have q1a:(w5.alloc (.cells #[.int .i64 0,.int .i64 0,.int .i64 0,.int .i64 0,.slice none 0 0] 64)).cell? ⟨g,o+1,none⟩=some (.int .i64 xx):=(hUz.cell (p:=⟨g,o+1,none⟩) hg9 aj).trans q1
  have q2a:(w5.alloc (.cells #[.int .i64 0,.int .i64 0,.int .i64 0,.int .i64 0,.slice none 0 0] 64)).cell? ⟨g,o+2,none⟩=some (.int .i64 yy):=(hUz.cell (p:=⟨g,o+2,none⟩) hg9 aj).trans q2
  have q3a:(w5.alloc (.cells #[.int .i64 0,.int .i64 0,.int .i64 0,.int .i64 0,.slice none 0 0] 64)).cell? ⟨g,o+3,none⟩=some (.int .i64 arg):=(hUz.cell (p:=⟨g,o+3,none⟩) hg9 aj).trans q3
  have q4a:(w5.alloc (.cells #[.int .i64 0,.int .i64 0,.int .i64 0,.int .i64 0,.slice none 0 0] 64)).cell? ⟨g,o+4,none⟩=some (.slice B mr c'):=(hUz.cell (p:=⟨g,o+4,none⟩) hg9 aj).trans q4
  clear hC5 hUz
  go_region
  have hU6:=((Upd.refl Nob w5).alloc (.cells #[.int .i64 op,.int .i64 xx,.int .i64 yy,.int .i64 arg,.slice B mr c'] 64)).drew
  have HY6:=ah ((Cells.new w5 64 #[.int .i64 op,.int .i64 xx,.int .i64 yy,.int .i64 arg,.slice B mr c']).drew)
  have HX6:=ah (HX5.out.upd hU6 aj)
  have HPK6:=ah (HPK5.out.still hU6)
  have HUP6:=ah (HUP5.out.trans (.still hU6))
  have HROW6:=ah (aJ HROW5.out hU6 (fun _ _=>aj))
  have HTH6:=ah (HTH5.out.keep (bW.still hU6))
  have HCAP6:=ah (HCAP5.out.keep (bW.still hU6))
  have HRR6:=ah (HRR.out.upd hU6 (fun _ _=>aj))
  clear z0 x0 q0 q1 q2 q3 q4 z0a x0a q0a q1a q2a q3a q4a hadd9 hg9 hbl5
  generalize (w5.alloc (.cells #[.int .i64 op,.int .i64 xx,.int .i64 yy,.int .i64 arg,.slice B mr c'] 64)).drew=w6 at *
  generalize w5.heap.size=yb at *
  have l0:w6.cell? ⟨yb,0,none⟩=some (.int .i64 op):=HY6.out.ak rfl
  have l1:w6.cell? ⟨yb,0+1,none⟩=some (.int .i64 xx):=HY6.out.ak rfl
  have l2:w6.cell? ⟨yb,0+2,none⟩=some (.int .i64 yy):=HY6.out.ak rfl
  have l3:w6.cell? ⟨yb,0+3,none⟩=some (.int .i64 arg):=HY6.out.ak rfl
  have l4:w6.cell? ⟨yb,0+4,none⟩=some (.slice B mr c'):=HY6.out.ak rfl
  have x0:w6.cell? ⟨xb,0,none⟩=some (.int .i64 (p1:Int)):=HX6.out.ak rfl
  have x1:w6.cell? ⟨xb,0+1,none⟩=some (.slice CA m c1):=HX6.out.ak rfl
  have hsz6:w.heap.size≤w6.heap.size:=HUP6.out.upd.size
  clear hU6 HX5 HPK5 HUP5 HROW5 HTH5 HCAP5 HRR
  by_cases o2:op=2
  ·subst o2
   have gx:=vmay_x HMY.out (.inr (.inl rfl))
   have gy:=vmay_y HMY.out rfl
   simp only at gx gy
   obtain⟨px,rfl⟩:∃k:Nat,xx=(k:Int):=Int.eq_ofNat_of_zero_le gx.1
   obtain⟨py,rfl⟩:∃k:Nat,yy=(k:Int):=Int.eq_ofNat_of_zero_le gy.1
   have HG2:=ah ((rfl:ay is text j ((px,k1)::(py,k1)::r) (aG s' p1)=_).trans HGO.out)
   have HU6:=ah ((Upd.refl Nob w6).alloc (.cells #[.int .i64 (py:Int),.slice CA m c1,.int .i64 (px:Int),.slice CA m c1] 108))
   clear l3 l4
   go_wp2_with (at_builtin;refine wpList_append_own_at _ rfl _ _ 71 rfl w.heap.size 108 i0 _ 2 32 Try.underlying71 hi0 hz0 hz1 hz2 rfl (by decide) (.slice (some ⟨gL,0,none⟩) r.length lc) r.length (xs.take (r.length*2)) rfl (HROW6.out.alloc _) ⟨w6.heap.size,0,none⟩ 2 2 [.int .i64 (py:Int),.slice CA m c1,.int .i64 (px:Int),.slice CA m c1] rfl rfl (World.news_of_block (cs:=#[.int .i64 (py:Int),.slice CA m c1,.int .i64 (px:Int),.slice CA m c1]) (t:=108) (fr:=(0,0)) (heap_alloc_new w6 _)) (by intro u hu;simp at hu;rcases hu with rfl | rfl | rfl | rfl <;> rfl) (by unfold maxLen;omega) (by omega) (by simp;omega) ?_;intro v7 w7 o7 g7 _ hat7;obtain⟨A7,c7,rfl⟩:=dG o7)
   obtain⟨hp7,hu7,hk7,hd7⟩:=stk_grow (LA':=A7) (n':=r.length+2) (lc':=c7) HPK6.out hn0 HUP6.out HROW6.out HDIS5.out HU6.out g7 (hat7.imp id (fun e=>⟨_,e,by simp⟩))
   have hth7:=((HTH6.out.keep hk7).more (show py < is.length by omega) hk1 (HCAP6.out.keep hk7) (c:=c1)).more (show px < is.length by omega) hk1 (HCAP6.out.keep hk7) (c:=c1)
   rw[List.append_assoc (xs.take (r.length*2))] at hth7
   go_roundg (r.length+2+3*(aG s' p1).met.count false)
   case measure=>omega
   case rel=>exact⟨(px,k1)::(py,k1)::r,aG s' p1,A7,c7,O4,NO',rfl,rfl,⟨hp7,hu7,HG2.out,HS.out.ov,⟨_,o7,by rw[List.reverse_cons,List.reverse_cons];exact hth7⟩,hd7,by simp only[List.length_cons];omega⟩⟩
  have o2b:(op==2)=false:=by simpa using o2
  by_cases o7:op=7
  ·subst o7
   have gx:=vmay_x HMY.out (.inr (.inr (.inr (.inr rfl))))
   simp only at gx
   obtain⟨px,rfl⟩:∃k:Nat,xx=(k:Int):=Int.eq_ofNat_of_zero_le gx.1
   have HG2:=ah ((rfl:ay is text j ((px,k1)::r) (aG s' p1)=_).trans HGO.out)
   have HU6:=ah ((Upd.refl Nob w6).alloc (.cells #[.int .i64 (px:Int),.slice CA m c1] 108))
   clear l3 l4 l2
   go_wp2_with (at_builtin;refine wpList_append_own_at _ rfl _ _ 71 rfl w.heap.size 108 i0 _ 2 32 Try.underlying71 hi0 hz0 hz1 hz2 rfl (by decide) (.slice (some ⟨gL,0,none⟩) r.length lc) r.length (xs.take (r.length*2)) rfl (HROW6.out.alloc _) ⟨w6.heap.size,0,none⟩ 1 1 [.int .i64 (px:Int),.slice CA m c1] rfl rfl (World.news_of_block (cs:=#[.int .i64 (px:Int),.slice CA m c1]) (t:=108) (fr:=(0,0)) (heap_alloc_new w6 _)) (by intro u hu;simp at hu;rcases hu with rfl | rfl <;> rfl) (by unfold maxLen;omega) (by omega) (by simp;omega) ?_;intro v7 w7 o7 g7 _ hat7;obtain⟨A7,c7,rfl⟩:=dG o7)
   obtain⟨hp7,hu7,hk7,hd7⟩:=stk_grow (LA':=A7) (n':=r.length+1) (lc':=c7) HPK6.out hn0 HUP6.out HROW6.out HDIS5.out HU6.out g7 (hat7.imp id (fun e=>⟨_,e,by simp⟩))
   have hth7:=(HTH6.out.keep hk7).more (show px < is.length by omega) hk1 (HCAP6.out.keep hk7) (c:=c1)
   go_roundg (r.length+1+3*(aG s' p1).met.count false)
   case measure=>omega
   case rel=>exact⟨(px,k1)::r,aG s' p1,A7,c7,O4,NO',rfl,rfl,⟨hp7,hu7,HG2.out,HS.out.ov,⟨_,o7,by rw[List.reverse_cons];exact hth7⟩,hd7,by simp only[List.length_cons];omega⟩⟩
  have o7b:(op==7)=false:=by simpa using o7
  by_cases o6:op=6
  ·subst o6
   have HG2:=ah ((rfl:ay is text j r (aG s' p1)=_).trans HGO.out)
   clear l3 l4 l2 l1 x0 x1
   go_wp2_with fail
   go_roundg (r.length+3*(aG s' p1).met.count false)
   case measure=>omega
   case rel=>exact⟨r,aG s' p1,some ⟨gL,0,none⟩,lc,O4,NO',rfl,rfl,⟨HPK6.out,HUP6.out,HG2.out,HS.out.ov,⟨_,HROW6.out,HTH6.out⟩,HDIS5.out,by omega⟩⟩
  have o6b:(op==6)=false:=by simpa using o6
  obtain⟨N6,nc6,xs6,FA6,fn6,fc6,wh6,hC6,hN6,hNO6,hT6,hF6⟩:=HPK6.out.rest
  have HC6:=ah hC6
  clear hC6 hN6 hNO6 hT6 hF6
  by_cases o5:op=5
  ·subst o5
   have hG2:({ aG s' p1 with found:=some (k1,arg),over:=true }:VSt)=tgt:=(rfl:({ aG s' p1 with found:=some (k1,arg),over:=true }:VSt)=_).trans HGO.out
   subst hG2
   obtain⟨hph,huh⟩:=HPK6.out.hit (cc:=c1) (wh':=arg) (over:=true) hk1 HCAP6.out
   have hD1:=HC6.out.aW (0+8) (.bool true)
   have hD2:=hD1.aW (0+8+1) (.slice CA m c1)
   have hD3:=hD2.aW (0+8+2) (.int .i64 arg)
   have s0:w6.cell? ⟨b,0+8,none⟩=some (.bool (aG s' p1).found.isSome):=HC6.out.ak rfl
   have s1:w6.cell? ⟨b,0+8+1,none⟩=some (.slice FA6 fn6 fc6):=HC6.out.ak rfl
   have s2:w6.cell? ⟨b,0+8+2,none⟩=some (.int .i64 wh6):=HC6.out.ak rfl
   have s3:w6.cell? ⟨b,0+8+3,none⟩=some (.int .i64 0):=HC6.out.ak rfl
   have t0:w6.frozen? ⟨b,0+8,none⟩=false:=HC6.out.frozen 8
   have t1:w6.frozen? ⟨b,0+8+1,none⟩=false:=HC6.out.frozen 9
   have t2:w6.frozen? ⟨b,0+8+2,none⟩=false:=HC6.out.frozen 10
   have t3:w6.frozen? ⟨b,0+8+3,none⟩=false:=HC6.out.frozen 11
   have HPH:=ah hph
   have HUH:=ah (HUP6.out.trans huh)
   clear hph huh hD1 hD2 hD3 l4 l2 l1
   go_wp2_with fail
   go_ret
   exact⟨rfl,O4,NO',HPH.out,HUH.out⟩
  have o5b:(op==5)=false:=by simpa using o5
  by_cases o1:op=1
  ·subst o1
   have gx:=vmay_x HMY.out (.inl rfl)
   simp only at gx
   obtain⟨px,rfl⟩:∃k:Nat,xx=(k:Int):=Int.eq_ofNat_of_zero_le gx.1
   have hrb:bq rs=true:=by
    have:=HMY.out
    simp only[bC,if_true,Bool.and_eq_true] at this
    exact this.2
   have b3:w6.cell? ⟨b,0+3,none⟩=some (.slice T text.length tc):=HC6.out.ak rfl
   have b4:w6.cell? ⟨b,0+4,none⟩=some (.int .i64 (j:Int)):=HC6.out.ak rfl
   obtain rfl:rs.length=mr:=HRR6.out.len
   have HFITS:=ah (fits_any w6 _ b B rs.length c' rs T tc text j b3 b4 HPK6.out.txt HRR6.out hrb hj)
   clear b3 b4 l3 l2
   go_wp2_with fail
   refine HFITS.out.mono ?_
   rintro e w7 ⟨rfl,q7,rfl⟩
   have hU7:=(Upd.refl Nob w6).drewN q7
   have HPK7:=ah (HPK6.out.still hU7)
   have HUP7:=ah (HUP6.out.trans (.still hU7))
   have HROW7:=ah (aJ HROW6.out hU7 (fun _ _=>aj))
   have HTH7:=ah (HTH6.out.keep (bW.still hU7))
   have HCAP7:=ah (HCAP6.out.keep (bW.still hU7))
   have l1:(w6.drewN q7).cell? ⟨yb,0+1,none⟩=some (.int .i64 (px:Int)):=HY6.out.ak rfl
   have x1:(w6.drewN q7).cell? ⟨xb,0+1,none⟩=some (.slice CA m c1):=HX6.out.ak rfl
   generalize w6.drewN q7=w7 at *
   clear hU7
   rcases hfb:dI rs text j with _ | _
   ·have HG2:=ah ((show ay is text j r (aG s' p1)=_ by show _=(if dI rs text j=true then _ else ay is text j r (aG s' p1));rw[hfb];rfl).trans HGO.out)
    clear hfb
    go_wp2_with fail
    go_roundg (r.length+3*(aG s' p1).met.count false)
    case measure=>omega
    case rel=>exact⟨r,aG s' p1,some ⟨gL,0,none⟩,lc,O4,NO',rfl,rfl,⟨HPK7.out,HUP7.out,HG2.out,HS.out.ov,⟨_,HROW7.out,HTH7.out⟩,HDIS5.out,by omega⟩⟩
   ·have HG2:=ah ((show ay is text j r { aG s' p1 with next:=s'.next++[(px,k1)] }=_ by show _=(if dI rs text j=true then ay is text j r { aG s' p1 with next:=s'.next++[(px,k1)] } else _);rw[hfb];rfl).trans HGO.out)
    clear hfb
    go_wp2_with fail
    refine(put_any w7 n0 e0 b sb sg O4 NO' (some ad2) c is st m T tc text j (aG s' p1) HPK7.out px CA c1 k1 (by omega) hk1 HCAP7.out hrm).mono ?_
    rintro e w8 ⟨rfl,NO8,hPK8,hUP8⟩
    obtain⟨hrow8,hdis8⟩:=stk_step HPK7.out hUP8 HROW7.out HDIS5.out
    have HTH8:=ah (HTH7.out.keep (HPK7.out.keep hUP8))
    have HROW8:=ah hrow8
    have HDIS8:=ah hdis8
    have HPK8:=ah hPK8
    have HUP8:=ah (HUP7.out.trans hUP8)
    clear hPK8 hUP8 hrow8 hdis8
    go_wp2_with fail
    go_roundg (r.length+3*(aG s' p1).met.count false)
    case measure=>omega
    case rel=>exact⟨r,{ aG s' p1 with next:=s'.next++[(px,k1)] },some ⟨gL,0,none⟩,lc,O4,NO8,rfl,rfl,⟨HPK8.out,HUP8.out,HG2.out,HS.out.ov,⟨_,HROW8.out,HTH8.out⟩,HDIS8.out,by show r.length+2*(aG s' p1).met.count false≤_;omega⟩⟩
  have o1b:(op==1)=false:=by simpa using o1
  by_cases o4:op=4
  ·subst o4
   have gx:=vmay_x HMY.out (.inr (.inr (.inr (.inl rfl))))
   simp only at gx
   obtain⟨px,rfl⟩:∃k:Nat,xx=(k:Int):=Int.eq_ofNat_of_zero_le gx.1
   have b5:w6.cell? ⟨b,0+5,none⟩=some (.int .i64 (part text j 6)):=HC6.out.ak rfl
   have Q:∀q,Calls Try.prog 54 #[.int .i64 arg,.int .i64 (part text j 6)] (w6.drewN q) fun e w''=>e=.returned (.bool (cZ arg (part text j 6)))∧∃k,w''=w6.drewN k:=fun q =>
    (lookHolds_any (w6.drewN q) arg (part text j 6)).mono (by
     rintro e w'' ⟨he,rfl⟩
     exact⟨he,q,rfl⟩)
   have HQ:=ah Q
   clear Q l4 l2
   rcases hb:cZ arg (part text j 6) with _ | _
   ·have HG2:=ah ((show ay is text j r (aG s' p1)=_ by show _=(if cZ arg (part text j 6)=true then _ else ay is text j r (aG s' p1));rw[hb];rfl).trans HGO.out)
    rw[hb] at HQ
    clear hb
    go_wp2_with fail
    go_quiet ((go_at_call 54;exact HQ.out _))
    have hU7:=(Upd.refl Nob w6).drewN nq
    have HPK7:=ah (HPK6.out.still hU7)
    have HUP7:=ah (HUP6.out.trans (.still hU7))
    have HROW7:=ah (aJ HROW6.out hU7 (fun _ _=>aj))
    have HTH7:=ah (HTH6.out.keep (bW.still hU7))
    clear hU7
    go_wp2_with fail
    go_roundg (r.length+3*(aG s' p1).met.count false)
    case measure=>omega
    case rel=>exact⟨r,aG s' p1,some ⟨gL,0,none⟩,lc,O4,NO',rfl,rfl,⟨HPK7.out,HUP7.out,HG2.out,HS.out.ov,⟨_,HROW7.out,HTH7.out⟩,HDIS5.out,by omega⟩⟩
   ·have HG2:=ah ((show ay is text j ((px,k1)::r) (aG s' p1)=_ by show _=(if cZ arg (part text j 6)=true then ay is text j ((px,k1)::r) (aG s' p1) else _);rw[hb];rfl).trans HGO.out)
    rw[hb] at HQ
    clear hb
    go_wp2_with fail
    go_quiet ((go_at_call 54;exact HQ.out _))
    have hU7:=(Upd.refl Nob w6).drewN nq
    have HPK7:=ah (HPK6.out.still hU7)
    have HUP7:=ah (HUP6.out.trans (.still hU7))
    have HROW7:=ah (aJ HROW6.out hU7 (fun _ _=>aj))
    have HTH7:=ah (HTH6.out.keep (bW.still hU7))
    have HCAP7:=ah (HCAP6.out.keep (bW.still hU7))
    have l1:(w6.drewN nq).cell? ⟨yb,0+1,none⟩=some (.int .i64 (px:Int)):=HY6.out.ak rfl
    have x1:(w6.drewN nq).cell? ⟨xb,0+1,none⟩=some (.slice CA m c1):=HX6.out.ak rfl
    have hsz7:w.heap.size≤(w6.drewN nq).heap.size:=hsz6
    generalize w6.drewN nq=w7 at *
    have HU7:=ah ((Upd.refl Nob w7).alloc (.cells #[.int .i64 (px:Int),.slice CA m c1] 108))
    clear hU7
    go_wp2_with (at_builtin;refine wpList_append_own_at _ rfl _ _ 71 rfl w.heap.size 108 i0 _ 2 32 Try.underlying71 hi0 hz0 hz1 hz2 rfl (by decide) (.slice (some ⟨gL,0,none⟩) r.length lc) r.length (xs.take (r.length*2)) rfl (HROW7.out.alloc _) ⟨w7.heap.size,0,none⟩ 1 1 [.int .i64 (px:Int),.slice CA m c1] rfl rfl (World.news_of_block (cs:=#[.int .i64 (px:Int),.slice CA m c1]) (t:=108) (fr:=(0,0)) (heap_alloc_new w7 _)) (by intro u hu;simp at hu;rcases hu with rfl | rfl <;> rfl) (by unfold maxLen;omega) (by omega) (by simp;omega) ?_;intro v8 w8 o8 g8 _ hat8;obtain⟨A8,c8,rfl⟩:=dG o8)
    obtain⟨hp8,hu8,hk8,hd8⟩:=stk_grow (LA':=A8) (n':=r.length+1) (lc':=c8) HPK7.out hn0 HUP7.out HROW7.out HDIS5.out HU7.out g8 (hat8.imp id (fun e=>⟨_,e,by simp⟩))
    have hth8:=(HTH7.out.keep hk8).more (show px < is.length by omega) hk1 (HCAP7.out.keep hk8) (c:=c1)
    go_roundg (r.length+1+3*(aG s' p1).met.count false)
    case measure=>omega
    case rel=>exact⟨(px,k1)::r,aG s' p1,A8,c8,O4,NO',rfl,rfl,⟨hp8,hu8,HG2.out,HS.out.ov,⟨_,o8,by rw[List.reverse_cons];exact hth8⟩,hd8,by simp only[List.length_cons];omega⟩⟩
  have o4b:(op==4)=false:=by simpa using o4
  obtain rfl:op=3:=by have:=vmay_op HMY.out;simp only at this;omega
  have gx:=vmay_x HMY.out (.inr (.inr (.inl rfl)))
  have ga:=vmay_arg HMY.out rfl
  simp only at gx ga
  obtain⟨px,rfl⟩:∃k:Nat,xx=(k:Int):=Int.eq_ofNat_of_zero_le gx.1
  obtain⟨a,rfl⟩:∃k:Nat,arg=(k:Int):=Int.eq_ofNat_of_zero_le ga.1
  have HG2:=ah ((rfl:ay is text j ((px,k1.set a (j:Int))::r) (aG s' p1)=_).trans HGO.out)
  have b4:w6.cell? ⟨b,0+4,none⟩=some (.int .i64 (j:Int)):=HC6.out.ak rfl
  clear l4 l2
  have hnb:b≠gL:=fun e=>own_ne HROW6.out HC6.out (by decide) (by rw[e];rfl)
  have hny:yb≠gL:=fun e=>own_ne HROW6.out HY6.out (by decide) (by rw[e];rfl)
  have hnx:xb≠gL:=by omega
  have hsl:∀w':World,Upd (fun k=>k=gL) w6 w'→(w'.cell? ⟨yb,0+1,none⟩=some (.int .i64 (px:Int))∧w'.cell? ⟨xb,0+1,none⟩=some (.slice CA m c1)∧w'.cell? ⟨yb,0+3,none⟩=some (.int .i64 (a:Int))∧w'.cell? ⟨b,0+4,none⟩=some (.int .i64 (j:Int))):=fun w' hU =>
   ⟨(HY6.out.upd hU hny).ak rfl,(HX6.out.upd hU hnx).ak rfl,(HY6.out.upd hU hny).ak rfl,(HC6.out.upd hU hnb).ak rfl⟩
  have HSL:=ah hsl
  have HUL0:=ah ((Upd.refl (fun k=>k=gL) w6).drew)
  clear hsl
  go_upto_region 15 with fail
  clear l1 l3 x1 x0 l0 b4
  go_region_held3 (fun w'=>w'.cell? ⟨yb,0+1,none⟩=some (.int .i64 (px:Int))∧w'.cell? ⟨xb,0+1,none⟩=some (.slice CA m c1)∧w'.cell? ⟨yb,0+3,none⟩=some (.int .i64 (a:Int))∧w'.cell? ⟨b,0+4,none⟩=some (.int .i64 (j:Int)))
   (first | exact HSL.out _ HUL0.out | exact HSL.out _ HUL9.out | exact HSL.out _ HUL8.out | exact HSL.out _ HUL7.out)
   (first
   | (refine step_append_lies _ rfl (.tmp 82) (.tmp 95) 71 rfl w.heap.size 108 i0 _ 2 32 Try.underlying71 hi0 hz0 hz1 hz2 rfl (by decide) (.slice (some ⟨gL,0,none⟩) r.length lc) r.length (xs.take (r.length*2)) (by rfl) (HROW7.out.alloc _) ⟨w7.heap.size,0,none⟩ 1 1 [.int .i64 (px:Int),.slice (some ⟨g7,0,none⟩) m m] (by rfl) (by rfl) (World.news_of_block (cs:=#[.int .i64 (px:Int),.slice (some ⟨g7,0,none⟩) m m]) (t:=108) (fr:=(0,0)) (heap_alloc_new w7 _)) (by intro u hu;simp at hu;rcases hu with rfl | rfl <;> rfl) (by decide) (by unfold maxLen;omega) (by omega) (by simp;omega) (w7.heap.size+1) (by simp) ?_;intro gN cN w9 oN gr hat hlt;have HG:=ah gr;have HON:=ah oN;have HAT:=ah hat;have HUL9:=ah (HUL8.out.grown gr (fun k hk _=>by simpa [Value.ownBlock] using hk.symm));clear gr oN hat)
   | (go_at_call 53;refine(with_any _ _ CA m c1 k1 a (j:Int) (HCAP6.out.upd ((Upd.refl Nob w6).drew) (fun _ _=>aj)) hm2 (by omega)).mono ?_;rintro e w7 ⟨g7,rfl,o7,hU7⟩;have hU7':=((Upd.refl Nob w6).drew).trans hU7 (fun _ _ h=>h);have HROW7:=ah (aJ HROW6.out hU7' (fun _ _=>aj));have HU7:=ah hU7';have HO7:=ah o7;have hsz7:w.heap.size≤w7.heap.size:=Nat.le_trans hsz6 hU7'.size;have HUL7:=ah (hU7'.mono (G:=fun k=>k=gL) (fun _ _ h=>absurd h aj));have HUL8:=ah (HUL7.out.alloc (.cells #[.int .i64 (px:Int),.slice (some ⟨g7,0,none⟩) m m] 108));clear hU7 hU7' o7))
  obtain⟨hp9,hu9,hk9,hd9⟩:=stk_grow (wr:=w6) (LA':=some ⟨gN,0,none⟩) (n':=r.length+1) (lc':=cN) HPK6.out hn0 HUP6.out HROW6.out HDIS5.out (HU7.out.alloc _) HG.out (HAT.out.elim (fun e=>.inl e.symm) (fun e=>.inr ⟨gN,rfl,by rw[e];have:=HU7.out.size;omega⟩))
  have hg7:w6.heap.size≤g7:=(HO7.out.lt g7 rfl).1
  obtain⟨SA6,sc6,ats6,L6,hSet6,hO6,-⟩:=HPK6.out.aW
  have hsg6:sg < w6.heap.size:=(hSet6.at_.lt sg rfl).2
  have hO4:∀k,O4=some k→k < w6.heap.size:=fun k hk=>(hSet6.own.lt k (hO6.trans hk)).2
  have hgL6:gL < w6.heap.size:=(HROW6.out.lt gL rfl).2
  have hU79:Upd (fun k=>k=gL) w7 w9:=(((Upd.refl (fun k=>k=gL) w7).alloc _)).grown HG.out (fun k hk _=>by simpa [Value.ownBlock] using hk.symm)
  have ho9:=aJ HO7.out hU79 (fun k hk e=>by simp[Value.ownBlock] at hk;omega)
  have hcap9:CapQ w9 sg O4 (some ⟨g7,0,none⟩) m (k1.set a (j:Int)):=CapQ.eU ho9 (by omega) (fun e=>by have:=hO4 _ e;omega)
  have hth9:=(HTH6.out.keep hk9).more (show px < is.length by omega) (by rw[List.length_set];exact hk1) hcap9 (c:=m)
  have HPK9:=ah hp9
  have HUP9:=ah hu9
  have HTH9:=ah hth9
  have HD9:=ah hd9
  clear hp9 hu9 hk9 hd9 hth9 hcap9 ho9 hU79 hSet6 hO6
  go_wp2_with fail
  go_roundg (r.length+1+3*(aG s' p1).met.count false)
  case measure=>omega
  case rel=>exact⟨(px,k1.set a (j:Int))::r,aG s' p1,some ⟨gN,0,none⟩,cN,O4,NO',rfl,rfl,⟨HPK9.out,HUP9.out,HG2.out,HS.out.ov,⟨_,HON.out,by rw[List.reverse_cons];exact HTH9.out⟩,HD9.out,by simp only[List.length_cons];omega⟩⟩
end Go.Proofs.Ytnkefclbchpafaa

/-
  The run of pike between two places.
-/
namespace Go.Proofs.Ytnkefclbchpafaa
open Go.RowKit
set_option linter.unusedVariables false
structure PkI (w:World) (e0 b sb sg:Nat) (O:Option Nat) (A:Option Addr) (c:Nat) (is:List av) (st:Int) (m:Nat) (T:Option Addr) (tc:Nat) (text:List Int) (j:Nat) (fo:Option (List Int × Int)) (steps:Nat) (N:Option Addr) (ths:List (Nat × List Int)):Prop where
 insts:dH w (· < e0) A is.length is
 txt:dB w (· < e0) T text.length text
 eb:e0≤b
 ew:e0≤w.heap.size
 aW:∃SA sc ats L,SetR w e0 sb sg is.length SA sc ats L∧(Value.slice SA L.length sc).ownBlock=O
 run:∃bits nv FA fn fc wh,Cells w b 73 #[.slice A is.length c,.int .i64 st,.int .i64 m,.slice T text.length tc,.int .i64 (j:Int),bits,.pointer (some ⟨sb,0,none⟩),nv,.bool fo.isSome,.slice FA fn fc,.int .i64 wh,.int .i64 0,.int .i64 (steps:Int)]∧jN w sg O m fo FA fn wh
 now:∃xs,Reads w (fun k=>∃cs,Cells w k 108 cs) 2 N ths.length xs∧ThQ w sg O is.length m ths xs
 lit:0 < ths.length→∃gN,N=some ⟨gN,0,none⟩
section
variable {w w' : World} {e0 b sb sg : Nat} {O O' NO NO' : Option Nat} {A : Option Addr} {c : Nat} {is : List av} {st : Int} {m : Nat} {T : Option Addr} {tc : Nat} {text : List Int} {j : Nat} {fo : Option (List Int × Int)} {steps : Nat} {N : Option Addr} {ths : List (Nat × List Int)}
theorem bW.aM (hb:¬IntB w b) (hs:¬IntB w sb) (hU:dY b sb sg O O' none NO' w w'):bW sg O O' w w':=by
 refine⟨hU.upd.size,fun k hk hi h1 h2=>⟨hU.upd.block k hk ?_,?_⟩⟩
 ·rintro(e | e | e | e | e)
  ·exact hb (e ▸ hi)
  ·exact hs (e ▸ hi)
  ·exact h1 e
  ·exact h2 e
  ·cases e
 ·intro e
  rcases hU.own with h3 | ⟨k1,h3,h4⟩
  ·exact h2 (h3 ▸ e)
  ·rw[h3] at e;injection e with e;omega
theorem PkI.keep (h:PkI w e0 b sb sg O A c is st m T tc text j fo steps N ths) (hU:dY b sb sg O O' none NO' w w'):bW sg O O' w w':=by
 obtain⟨SA,sc,ats,L,hS,-⟩:=h.aW
 obtain⟨bits,nv,FA,fn,fc,wh,hC,-⟩:=h.run
 exact bW.aM (hC.not_int (by decide)) (hS.blk.not_int (by decide)) hU
theorem PkI.thr (h:PkI w e0 b sb sg O A c is st m T tc text j fo steps N ths) {k:Nat} {cs:Array Value} (hk:Cells w k 108 cs):¬Fp b sb sg O none k:=by
 obtain⟨SA,sc,ats,L,hS,hO⟩:=h.aW
 obtain⟨bits,nv,FA,fn,fc,wh,hC,-⟩:=h.run
 rintro(e | e | e | e | e)
 ·exact Cells.ne_ hk hC (by decide) e
 ·exact Cells.ne_ hk hS.blk (by decide) e
 ·obtain⟨cg,hcg,-⟩:=aK hS.at_ rfl
  exact Cells.ne_ hk hcg (by decide) e
 ·obtain⟨co,hco,-⟩:=aK hS.own (hO.trans e)
  exact Cells.ne_ hk hco (by decide) rfl
 ·cases e
theorem PkI.begin_ {w1 w3:World} {SA:Option Addr} {sc:Nat} {ats L:List Nat} (h:PkI w e0 b sb sg O A c is st m T tc text j fo steps N ths) (hn:is.length≤20000) (hst:steps+is.length≤1099511627776)
  (hO:(Value.slice SA L.length sc).ownBlock=O) (hSt:SetR w e0 sb sg is.length SA sc ats L) (hP:SetP w w1 e0 sb sg is.length SA L.length sc ats []) (hU3:Upd Nob (w1.setCell ⟨b,0+7,none⟩ (.slice none 0 0)) w3) :
  ∃O',PkR (w3.setCell ⟨b,0+5,none⟩ (.int .i64 (part text j 6))) w.heap.size e0 b sb sg O' none A c is st m T tc text j (fresh is.length fo steps)∧dY b sb sg O O' none none w (w3.setCell ⟨b,0+5,none⟩ (.int .i64 (part text j 6))):=by
 obtain⟨⟨SA',sc',hS',hown⟩,hU1⟩:=hP
 obtain⟨bits,nv,FA,fn,fc,wh,hC,hF⟩:=h.run
 have hb1:b≠sb:=Cells.ne_ hC hSt.blk (by decide)
 have hb2:b≠sg:=by
  have:=own_ne hSt.at_ hC (by decide)
  simp[Value.ownBlock] at this
  omega
 have hb3:(Value.slice SA L.length sc).ownBlock≠some b:=own_ne hSt.own hC (by decide)
 have hCb:¬(b=sb∨b=sg∨(Value.slice SA L.length sc).ownBlock=some b):=by
  rintro(e | e | e)
  ·exact hb1 e
  ·exact hb2 e
  ·exact hb3 e
 have hC1:=hC.upd hU1 hCb
 have hAb:(Value.slice SA' ([]:List Nat).length sc').ownBlock≠some b:=own_ne hS'.own hC1 (by decide)
 have hUb:Upd (fun k=>k=b) w1 (w3.setCell ⟨b,0+5,none⟩ (.int .i64 (part text j 6))) :=
  ((kF (F:=fun k=>k=b) w1 ⟨b,0+7,none⟩ (.slice none 0 0) rfl).trans (hU3.mono (G:=fun k=>k=b) (fun _ _ h=>absurd h aj)) (fun _ _ h=>h)).setCell ⟨b,0+5,none⟩ _ (fun _=>rfl)
 have hU4:Upd (Fp b sb sg O none) w (w3.setCell ⟨b,0+5,none⟩ (.int .i64 (part text j 6))):=by
  refine(hU1.mono (fun k _ hk=>?_)).trans hUb (fun k _ e=>.inl e)
  rcases hk with e | e | e
  ·exact .inr (.inl e)
  ·exact .inr (.inr (.inl e))
  ·exact .inr (.inr (.inr (.inl (hO.symm.trans e))))
 have hPU:dY b sb sg O (Value.slice SA' ([]:List Nat).length sc').ownBlock none none w (w3.setCell ⟨b,0+5,none⟩ (.int .i64 (part text j 6))):=⟨hU4,hown.imp (fun e=>e.trans hO) id,.inl rfl⟩
 have hk:=h.keep hPU
 have heb:=h.eb
 have hsb:=hSt.low
 have hsg:=(hSt.at_.lt sg rfl).1
 have hS:∀k,k < e0→¬Fp b sb sg O none k:=by
  rintro k hk (e | e | e | e | e)
  ·omega
  ·omega
  ·omega
  ·have:=(hSt.own.lt k (hO.trans e)).1;omega
  ·cases e
 refine⟨_,⟨h.insts.upd hU4 hS,h.txt.upd hU4 hS,h.eb,h.ew,hU4.size,fresh_len _ _ _,⟨SA',sc',ats,[],hS'.upd hUb (fun e=>hb1 e.symm) (fun e=>hb2 e.symm) (fun k hk e=>hAb (e ▸ hk)),rfl,fun pc hpc=>?_⟩,
  ⟨none,0,[],FA,fn,fc,wh,?_,World.ownsRow_nil _ _ _ _,rfl,⟨rfl,fun i pc caps hi=>by simp[fresh] at hi⟩,hF.keep hk⟩,?_,?_⟩,hPU⟩
 ·show(List.replicate is.length false)[pc]?=some true↔_
  rw[List.getElem?_replicate]
  simp
 ·exact(((hC1.aW (0+7) (.slice none 0 0)).upd hU3 aj).aW (0+5) (.int .i64 (part text j 6)))
 ·show steps+(List.replicate is.length false).count false≤_
  simp
  omega
 ·show 0+(List.replicate is.length false).count false≤_
  simp
  omega
end
end Go.Proofs.Ytnkefclbchpafaa
