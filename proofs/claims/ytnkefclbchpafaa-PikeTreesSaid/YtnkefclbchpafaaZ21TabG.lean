/-
  SizeO, LenO, TabG, put together.
-/
import Derived.Test.YtnkefclbchpafaaZ20UnfO
import Derived.Test.YtnkefclbchpafaaZ16Loop7

/-
  The walk of gY.Size.
-/
namespace Go.Proofs.Ytnkefclbchpafaa
set_option maxRecDepth 100000
set_option maxHeartbeats 16000000
open Go.RowKit
set_option linter.unusedVariables false
def repZ (n mn mx:Int):Int:=if mx < 0∧mn=0 then 1+n else if mx < 0 then mn*n+1 else max 1 (mn*n+(mx - mn)*(1+n))
mutual
def szT:Tree→Int
 | .mk k rs am subs mn mx lz ix nm=>if k=6 then min 1073741824 (repZ (szL 0 subs) mn mx) else if k=4∨k=5∨k=7 then min 1073741824 (1+szL 0 subs) else 1
def szL:Int→List Tree→Int
 | n,[]=>n
 | n,t::l=>szL (min 1073741824 (n+szT t)) l
end
theorem szT_eq (t:Tree):szT t=if t.kind=6 then min 1073741824 (repZ (szL 0 t.subs) t.mn t.mx) else if t.kind=4∨t.kind=5∨t.kind=7 then min 1073741824 (1+szL 0 t.subs) else 1:=by
 obtain⟨k,rs,am,subs,mn,mx,lz,ix,nm⟩:=t
 rw[szT]
 rfl
theorem size_go (n:Nat):∀(t:Tree) (w:World) (S:Nat→Prop) (cs:Array Value),SizeOf.sizeOf t≤n→OkV t→aB w S cs t →
  Calls Try.prog 23 #[.agg cs] w fun e w'=>e=.returned (.int .i64 (szT t))∧(0≤szT t∧szT t≤1073741824)∧Upd Nob w w':=by
 induction n with
 | zero=>exact fun t _ _ _ h=>by obtain⟨k,r,a,l,m,x,z,i,nn⟩:=t;simp at h
 | succ n ih =>
 intro t w S cs hn hv h1
 obtain⟨RA,rc,SA,sc,rfl,hr1,ho,hs1⟩:=h1.top
 have C0:=Cells.new w 47 (au t RA rc SA sc)
 have hU:=(Upd.refl Nob w).alloc (.cells (au t RA rc SA sc) 47)
 have IH:=ah ih
 have HN:=ah hn
 have HV:=ah hv.top
 have H1:=ah (h1.bA hU (fun _ _=>aj))
 have hnl:=ho.n
 have HE:=ah (szT_eq t)
 clear ih hn hv h1 hr1 hs1 ho
 unfold au at C0 hU H1
 unfold au
 go_enter Try.func23,Try.ntmps23
 go_upto_region 1 with fail
 generalize w.alloc (.cells #[.int .i64 t.kind,.slice RA t.rs.length rc,.int .i64 t.am,.slice SA t.subs.length sc,.int .i64 t.mn,.int .i64 t.mx,.bool t.lz,.int .i64 t.ix,.string t.nm] 47)=w2 at *
 have HU:=ah hU
 have HC:=ah C0
 clear C0 hU
 go_wp2_with fail
 go_loopg [3,4,5] t.subs.length (fun gk v3 v4 v5 wr=>∃(k:Nat) (v:Int),k+gk=t.subs.length∧v4=.int .i64 (k:Int)∧v3=.int .i64 v∧(0≤v∧v≤1073741824)∧szL v (t.subs.drop k)=szL 0 t.subs∧Upd Nob w2 wr)
 case atStart=>exact⟨0,0,by omega,rfl,rfl,by omega,by rw[List.drop_zero],Upd.refl _ _⟩
 case round =>
  obtain⟨k,v,hk,rfl,rfl,hv,hgr,hUr⟩:=hrel
  have HUr:=ah hUr
  have HVV:=ah hv
  have HK:=ah hk
  obtain⟨e0,e1,e2,e3,e4,e5,e6,e7,e8⟩:=aI (HC.out.upd hUr aj)
  by_cases hlt:k < t.subs.length
  ·have g2:(k:Int) < (t.subs.length:Int):=by omega
   obtain⟨ad,g,o,x,PA,pc,QA,qc,rfl,hadd,hSg,hgl,hx,hX,hlx,hcs⟩:=aB.sub H1.out.open_.2.2 hlt
   obtain⟨p0,p1,p2,p3,p4,p5,p6,p7,p8⟩:=bH (fun j v hv=>(hUr.cell (p:=⟨g,o+j,none⟩) hgl aj).trans (hcs j v hv))
   have hxn:SizeOf.sizeOf x≤n:=by have:=HN.out;omega
   have hxv:=HV.out.2 x (List.mem_of_getElem? hx)
   have HXV:=ah hxv
   have HX:=ah (hX.bA hUr (fun _ _=>aj))
   have hd:t.subs.drop k=x::t.subs.drop (k+1):=by
    rw[List.drop_eq_getElem_cons hlt]
    congr 1
    rw[List.getElem?_eq_getElem hlt] at hx
    injection hx
   rw[hd,szL] at hgr
   have HGR:=ah hgr
   clear hcs hX hlx hx hd hgr hUr hv hk hxv
   go_upto_region 6 with(go_at_call 23;refine(IH.out x wr _ _ hxn HXV.out HX.out).mono ?_;rintro e w5 ⟨rfl,hi5,hU5⟩;have HI5:=ah hi5;have HU5:=ah (HUr.out.trans hU5 (fun _ _ h=>h));clear hi5 hU5)
   have hw:IntKind.i64.wrap (v+szT x)=v+szT x:=by rw[IntKind.wrap_i64];have:=HI5.out;have:=HVV.out;omega
   generalize szT x=z at *
   go_wp2_with fail
   ·go_roundg (t.subs.length - (k+1))
    case measure=>have:=HK.out;omega
    case rel=>exact⟨k+1,v+z,by have:=HK.out;omega,by go_num,rfl,by have:=HI5.out;have:=HVV.out;omega,by have h:=HGR.out;rwa [show min 1073741824 (v+z)=v+z by omega] at h,HU5.out⟩
   ·go_roundg (t.subs.length - (k+1))
    case measure=>have:=HK.out;omega
    case rel=>exact⟨k+1,1073741824,by have:=HK.out;omega,by go_num,rfl,by omega,by have h:=HGR.out;rwa [show min 1073741824 (v+z)=1073741824 by omega] at h,HU5.out⟩
  ·have g2:¬(k:Int) < (t.subs.length:Int):=by omega
   rw[List.drop_eq_nil_of_le (by omega),szL] at hgr
   have HGR:=ah hgr
   have hE2:=HE.out
   rw[←hgr] at hE2
   have HE2:=ah hE2
   clear hUr hgr hk hE2
   have hv0:=hv.1
   have hv1:=hv.2
   have hw2:IntKind.i64.wrap (1+v)=1+v:=by rw[IntKind.wrap_i64];omega
   by_cases hk6:t.kind=6
   ·obtain⟨m0,m1,m2,-⟩:=HV.out.1.1 hk6
    have hkb:(t.kind==6)=true:=by simpa using hk6
    have hE:=HE2.out
    rw[if_pos hk6] at hE
    clear hk6 hv
    by_cases hx0:t.mx < 0
    ·have hd1:decide (t.mx < 0)=true:=decide_eq_true hx0
     by_cases hm0:t.mn=0
     ·have hd2:(t.mn==0)=true:=by simpa using hm0
      have HEE:=ah (show szT t=min 1073741824 (1+v) by rw[hE,repZ,if_pos ⟨hx0,hm0⟩])
      clear hE hm0
      go_wp2_with fail
      all_goals (try go_ret)
      all_goals (exact⟨congrArg (fun z=>Ending.returned (.int .i64 z)) (by have:=HEE.out;omega),by have:=HEE.out;omega,HU.out.trans HUr.out (fun _ _ h=>h)⟩)
     ·have hd2:(t.mn==0)=false:=by simpa using hm0
      have HEE:=ah (show szT t=min 1073741824 (t.mn*v+1) by rw[hE,repZ,if_neg (by omega),if_pos hx0])
      have ha0:0≤t.mn*v:=Int.mul_nonneg m0 hv0
      have ha1:t.mn*v≤1000*1073741824:=Int.mul_le_mul m1 hv1 hv0 (by omega)
      obtain⟨a,hA⟩:∃a,t.mn*v=a:=⟨_,rfl⟩
      rw[hA] at ha0 ha1
      have HEE:=ah (show szT t=min 1073741824 (a+1) by rw[←hA];exact HEE.out)
      have hwa:IntKind.i64.wrap (t.mn*v)=a:=by rw[hA,IntKind.wrap_i64];omega
      have hwb:IntKind.i64.wrap (a+1)=a+1:=by rw[IntKind.wrap_i64];omega
      clear hE hm0 hA
      clear hx0
      go_wp2_with fail
      all_goals (try go_ret)
      all_goals (exact⟨congrArg (fun z=>Ending.returned (.int .i64 z)) (by have:=HEE.out;omega),by have:=HEE.out;omega,HU.out.trans HUr.out (fun _ _ h=>h)⟩)
    ·have hd1:decide (t.mx < 0)=false:=decide_eq_false hx0
     have hd3:¬t.mx < 0:=hx0
     have HEE:=ah (show szT t=min 1073741824 (max 1 (t.mn*v+(t.mx - t.mn)*(1+v))) by rw[hE,repZ,if_neg (by omega),if_neg hx0])
     have ha0:0≤t.mn*v:=Int.mul_nonneg m0 hv0
     have ha1:t.mn*v≤1000*1073741824:=Int.mul_le_mul m1 hv1 hv0 (by omega)
     have hb1:(t.mx - t.mn)*(1+v)≤1000*1073741825:=Int.le_trans (Int.mul_le_mul_of_nonneg_right (show t.mx - t.mn≤1000 by omega) (by omega)) (Int.mul_le_mul_of_nonneg_left (by omega) (by omega))
     have hb0:-1000*1073741825≤(t.mx - t.mn)*(1+v):=Int.le_trans (show(-1000:Int)*1073741825≤-1000*(1+v) by omega) (Int.mul_le_mul_of_nonneg_right (show -1000≤t.mx - t.mn by omega) (by omega))
     have hwd:IntKind.i64.wrap (t.mx - t.mn)=t.mx - t.mn:=by rw[IntKind.wrap_i64];omega
     obtain⟨a,hA⟩:∃a,t.mn*v=a:=⟨_,rfl⟩
     obtain⟨b,hB⟩:∃b,(t.mx - t.mn)*(1+v)=b:=⟨_,rfl⟩
     rw[hA] at ha0 ha1
     rw[hB] at hb0 hb1
     have HEE:=ah (show szT t=min 1073741824 (max 1 (a+b)) by rw[←hA,←hB];exact HEE.out)
     have hwa:IntKind.i64.wrap (t.mn*v)=a:=by rw[hA,IntKind.wrap_i64];omega
     have hwb:IntKind.i64.wrap ((t.mx - t.mn)*(1+v))=b:=by rw[hB,IntKind.wrap_i64];omega
     have hwc:IntKind.i64.wrap (a+b)=a+b:=by rw[IntKind.wrap_i64];omega
     clear hE hx0 hA hB
     go_wp2_with fail
     all_goals (try go_ret)
     all_goals (exact⟨congrArg (fun z=>Ending.returned (.int .i64 z)) (by have:=HEE.out;omega),by have:=HEE.out;omega,HU.out.trans HUr.out (fun _ _ h=>h)⟩)
   ·have hk6b:(t.kind==6)=false:=by simpa using hk6
    have hE:=HE2.out
    rw[if_neg hk6] at hE
    clear hk6 hv
    by_cases hk:t.kind=4∨t.kind=5∨t.kind=7
    ·have HEE:=ah (show szT t=min 1073741824 (1+v) by rw[hE,if_pos hk])
     clear hE
     rcases hk with hk | hk | hk
     ·have c1:(t.kind==4)=true:=by rw[hk];rfl
      clear hk
      go_wp2_with fail
      all_goals (try go_ret)
      all_goals (exact⟨congrArg (fun z=>Ending.returned (.int .i64 z)) (by have:=HEE.out;omega),by have:=HEE.out;omega,HU.out.trans HUr.out (fun _ _ h=>h)⟩)
     ·have c1:(t.kind==4)=false:=by rw[hk];rfl
      have c2:(t.kind==5)=true:=by rw[hk];rfl
      clear hk
      go_wp2_with fail
      all_goals (try go_ret)
      all_goals (exact⟨congrArg (fun z=>Ending.returned (.int .i64 z)) (by have:=HEE.out;omega),by have:=HEE.out;omega,HU.out.trans HUr.out (fun _ _ h=>h)⟩)
     ·have c1:(t.kind==4)=false:=by rw[hk];rfl
      have c2:(t.kind==5)=false:=by rw[hk];rfl
      have c3:(t.kind==7)=true:=by rw[hk];rfl
      clear hk
      go_wp2_with fail
      all_goals (try go_ret)
      all_goals (exact⟨congrArg (fun z=>Ending.returned (.int .i64 z)) (by have:=HEE.out;omega),by have:=HEE.out;omega,HU.out.trans HUr.out (fun _ _ h=>h)⟩)
    ·have HEE:=ah (show szT t=1 by rw[hE,if_neg hk])
     have c1:(t.kind==4)=false:=by simp;omega
     have c2:(t.kind==5)=false:=by simp;omega
     have c3:(t.kind==7)=false:=by simp;omega
     clear hE hk
     go_wp2_with fail
     all_goals (try go_ret)
     all_goals (exact⟨congrArg (fun z=>Ending.returned (.int .i64 z)) (by have:=HEE.out;omega),by have:=HEE.out;omega,HU.out.trans HUr.out (fun _ _ h=>h)⟩)
end Go.Proofs.Ytnkefclbchpafaa

/-
  How long the row of an unfolded tree is. Plain.
-/
namespace Go.Proofs.Ytnkefclbchpafaa
set_option linter.unusedVariables false
theorem rowT_le (ss:List Nat) (l:List PN):(iK ss l).1.length≤l.length+(if ss.length=1 then 0 else 1):=by
 match ss with
 | []=>exact Nat.le_of_eq (dJ (aX 1 [] false) l).1
 | [a]=>exact Nat.le_refl _
 | a::b::r =>
  rw[if_neg (by simp)]
  exact Nat.le_of_eq (dJ (aX 4 (a::b::r) false) l).1
theorem times_le {f:Uf} {c:Nat} (hf:∀l,(f l).1.length≤l.length+c):∀(n:Nat) (l:List PN),(aF f n l).1.length≤l.length+n*c∧(aF f n l).2.length=n
 | 0,l=>⟨by simp[aF],rfl⟩
 | n+1,l=>by
  have h1:=hf l
  obtain⟨h2,h3⟩:=times_le hf n (f l).1
  refine⟨?_,by simp only[aF,List.length_cons,h3]⟩
  simp only[aF]
  rw[Nat.succ_mul]
  omega
theorem opt_le {f:Uf} {c:Nat} (lz:Bool) (hf:∀l,(f l).1.length≤l.length+c):∀(k:Nat) (l:List PN),0 < k→(fZ f lz k l).1.length+1≤l.length+k*c+2*k
 | 0,l,h=>by omega
 | 1,l,_=>by
  have h1:=hf l
  have h2:=(dJ (aX 103 [(f l).2] lz) (f l).1).1
  have e:fZ f lz 1 l=dA (aX 103 [(f l).2] lz) (f l).1:=rfl
  rw[e,h2]
  omega
 | k+2,l,_=>by
  have h1:=hf l
  have ih:=opt_le lz hf (k+1) (f l).1 (by omega)
  obtain⟨r,hr⟩:∃r,fZ f lz (k+1) (f l).1=r:=⟨_,rfl⟩
  obtain⟨q,hq⟩:∃q,iK [(f l).2,r.2] r.1=q:=⟨_,rfl⟩
  have e:fZ f lz (k+2) l=dA (aX 103 [q.2] lz) q.1:=by rw[←hq,←hr];rfl
  have h2:q.1.length≤r.1.length+1:=by
   have h:=rowT_le [(f l).2,r.2] r.1
   rw[hq,if_neg (by simp)] at h
   exact h
  have h3:=(dJ (aX 103 [q.2] lz) q.1).1
  rw[hr] at ih
  rw[e,h3]
  have:(k+2)*c=(k+1)*c+c:=Nat.succ_mul (k+1) c
  omega
theorem rep_le {f:Uf} {s:Nat} (hs:1≤s) (hf:∀l,(f l).1.length+1≤l.length+2*s) {mn mx:Int} (lz:Bool) (h0:0≤mn) (hm:mx < 0∨mn≤mx) (l:List PN):((iJ f mn mx lz l).1.length:Int)+1≤(l.length:Int)+2*repZ (s:Int) mn mx:=by
 obtain⟨c,hc⟩:∃c,c+1=2*s:=⟨2*s - 1,by omega⟩
 have hf':∀l,(f l).1.length≤l.length+c:=fun l=>by have:=hf l;omega
 have key:∀N:Nat,N*c+N=2*(N*s):=fun N=>by
  rw[←Nat.mul_succ,show c.succ=2*s from hc,Nat.mul_left_comm]
 unfold repZ
 by_cases hx:mx < 0
 ·by_cases hm0:mn=0
  ·rw[if_pos ⟨hx,hm0⟩,repT_star hx hm0,(dJ _ _).1]
   have:=hf' l
   omega
  ·obtain⟨N,hN⟩:∃N:Nat,mn=(N:Int)+1:=⟨(mn - 1).toNat,by omega⟩
   rw[if_neg (by omega),if_pos hx,repT_plus hx hN]
   obtain⟨h1,h2⟩:=times_le hf' N l
   have h3:=hf' (aF f N l).1
   have h4:=dJ (aX 102 [(f (aF f N l).1).2] lz) (f (aF f N l).1).1
   have h5:=rowT_le ((aF f N l).2++[(dA (aX 102 [(f (aF f N l).1).2] lz) (f (aF f N l).1).1).2]) (dA (aX 102 [(f (aF f N l).1).2] lz) (f (aF f N l).1).1).1
   have h6:=key N
   have e:mn*(s:Int)=((N*s:Nat):Int)+(s:Int):=by rw[hN,Int.add_mul,Int.one_mul];simp
   rw[e]
   have h7:(if ((aF f N l).2++[(dA (aX 102 [(f (aF f N l).1).2] lz) (f (aF f N l).1).1).2]).length=1 then 0 else 1)=if N=0 then 0 else 1:=by simp[h2]
   rw[h7] at h5
   generalize N*s=a at *
   generalize N*c=b at *
   split at h5 <;> omega
 ·obtain⟨N,hN⟩:∃N:Nat,mn=(N:Int):=⟨mn.toNat,by omega⟩
  rw[if_neg (by omega),if_neg hx]
  obtain⟨h1,h2⟩:=times_le hf' N l
  have h6:=key N
  have e:mn*(s:Int)=((N*s:Nat):Int):=by rw[hN];simp
  rw[e]
  by_cases hmm:mn < mx
  ·obtain⟨K,hK⟩:∃K:Nat,mx - mn=(K:Int):=⟨(mx - mn).toNat,by omega⟩
   rw[repT_opt hx hmm hN hK,hK]
   have h3:=opt_le lz hf' K (aF f N l).1 (by omega)
   have h5:=rowT_le ((aF f N l).2++[(fZ f lz K (aF f N l).1).2]) (fZ f lz K (aF f N l).1).1
   have h7:(if ((aF f N l).2++[(fZ f lz K (aF f N l).1).2]).length=1 then 0 else 1)=if N=0 then 0 else 1:=by simp[h2]
   rw[h7] at h5
   have h8:=key K
   have e2:(K:Int)*(1+(s:Int))=(K:Int)+((K*s:Nat):Int):=by rw[Int.mul_add,Int.mul_one];simp
   rw[e2]
   have hK0:0 < K:=by omega
   generalize N*s=a at *
   generalize N*c=b at *
   generalize K*s=a' at *
   generalize K*c=b' at *
   split at h5 <;> omega
  ·have hmx:mx - mn=0:=by omega
   rw[jL hx hmm hN,hmx,Int.zero_mul]
   have h5:=rowT_le (aF f N l).2 (aF f N l).1
   rw[h2] at h5
   have h9:1≤N→s≤N*s:=fun h=>Nat.le_mul_of_pos_left s h
   generalize hA:N*s=a at *
   generalize N*c=b at *
   split at h5
   ·have:=h9 (by omega)
    omega
   ·rcases Nat.eq_zero_or_pos N with hz | hz
    ·subst hz
     simp at hA
     omega
    ·omega
def LenP (t:Tree):Prop:=1≤szT t∧(szT t < 1073741824→∀l,((bJ t l).1.length:Int)+1≤(l.length:Int)+2*szT t)
theorem lenL:∀(ts:List Tree),(∀x∈ts,LenP x)→∀v:Int,0≤v→v≤1073741824→v≤szL v ts∧(szL v ts < 1073741824→∀l,((bU ts l).1.length:Int)≤(l.length:Int)+2*(szL v ts - v))
 | [],_,v,h0,h1=>by
  rw[szL]
  refine⟨Int.le_refl _,fun _ l=>?_⟩
  rw[bU]
  show((l.length:Nat):Int)≤_
  omega
 | x::r,h,v,h0,h1=>by
  obtain⟨p1,p2⟩:=h x (by simp)
  rw[szL]
  obtain⟨i1,i2⟩:=lenL r (fun y hy=>h y (by simp[hy])) (min 1073741824 (v+szT x)) (by omega) (by omega)
  refine⟨by omega,fun hz l=>?_⟩
  have j1:=p2 (by omega) l
  have j2:=i2 hz (bJ x l).1
  rw[bU]
  show((bU r (bJ x l).1).1.length:Int)≤_
  omega
theorem unf_le (n:Nat):∀(t:Tree),SizeOf.sizeOf t≤n→OkU t→OkV t→LenP t:=by
 induction n with
 | zero=>exact fun t h=>by obtain⟨k,r,a,l,m,x,z,i,nn⟩:=t;simp at h
 | succ n ih =>
 intro t hn hu hv
 have hsub:∀x∈t.subs,LenP x:=fun x hx=>ih x (by have:=Tree.sub_lt hx;omega) (hu.top.2 x hx) (hv.top.2 x hx)
 obtain⟨a1,a2⟩:=lenL t.subs hsub 0 (by omega) (by omega)
 unfold LenP
 rw[szT_eq]
 by_cases hk6:t.kind=6
 ·rw[if_pos hk6]
  obtain⟨m0,m1,m2,m3⟩:=hv.top.1.1 hk6
  have hpos:0 < t.subs.length:=by
   have:=hu.top.1.2.2.2 (.inl hk6)
   omega
  obtain⟨x,hx⟩:∃x,t.subs[0]?=some x:=⟨_,List.getElem?_eq_getElem hpos⟩
  have hl1:=hu.top.1.2.2.2 (.inl hk6)
  have hs1:t.subs=[x]:=by
   obtain⟨y,hy⟩:=List.length_eq_one_iff.1 hl1
   rw[hy] at hx
   simp at hx
   rw[hy,hx]
  obtain⟨p1,p2⟩:=hsub x (List.mem_of_getElem? hx)
  have hz:szL 0 t.subs=min 1073741824 (szT x):=by rw[hs1,szL,szL,Int.zero_add]
  rw[hz,unfT_6 hk6 hx]
  obtain⟨s,hs⟩:∃s:Nat,min 1073741824 (szT x)=(s:Int):=⟨(min 1073741824 (szT x)).toNat,by omega⟩
  rw[hs]
  have hs0:1≤s:=by omega
  have hr1:1≤repZ (s:Int) t.mn t.mx:=by
   unfold repZ
   split
   ·omega
   ·split
    ·have:0≤t.mn*(s:Int):=Int.mul_nonneg m0 (by omega)
     omega
    ·omega
  refine⟨by omega,fun hlt l=>?_⟩
  by_cases h00:t.mn=0∧t.mx=0
  ·have e:=jL (f:=bJ x) (lz:=t.lz) (mn:=t.mn) (mx:=t.mx) (N:=0) (by omega) (by omega) (by omega) l
   rw[e]
   have h5:=rowT_le (aF (bJ x) 0 l).2 (aF (bJ x) 0 l).1
   simp[aF] at h5
   show((iK [] l).1.length:Int)+1≤_
   omega
  ·have hrs:(s:Int)≤repZ (s:Int) t.mn t.mx:=by
    unfold repZ
    split
    ·omega
    ·split
     ·have:1*(s:Int)≤t.mn*(s:Int):=Int.mul_le_mul_of_nonneg_right (by omega) (by omega)
      omega
     ·by_cases hm1:1≤t.mn
      ·have h1:1*(s:Int)≤t.mn*(s:Int):=Int.mul_le_mul_of_nonneg_right (by omega) (by omega)
       have h2:0≤(t.mx - t.mn)*(1+(s:Int)):=Int.mul_nonneg (by omega) (by omega)
       omega
      ·have h1:0≤t.mn*(s:Int):=Int.mul_nonneg m0 (by omega)
       have h2:1*(1+(s:Int))≤(t.mx - t.mn)*(1+(s:Int)):=Int.mul_le_mul_of_nonneg_right (by omega) (by omega)
       omega
   have hxs:szT x=(s:Int):=by omega
   have hf:∀l,(bJ x l).1.length+1≤l.length+2*s:=fun l=>by
    have:=p2 (by omega) l
    omega
   have:=rep_le hs0 hf t.lz m0 m3 l
   omega
 ·rw[if_neg hk6]
  have hp:∀l,(bJ t l).1.length=(bU t.subs l).1.length+1:=fun l=>by rw[unfT_n hk6,(dJ _ _).1]
  by_cases hk:t.kind=4∨t.kind=5∨t.kind=7
  ·rw[if_pos hk]
   refine⟨by omega,fun hlt l=>?_⟩
   rw[hp]
   have:=a2 (by omega) l
   omega
  ·rw[if_neg hk]
   have hk1:=hu.top.1.1
   have hk7:=hu.top.1.2.1
   have hse:=hv.top.1.2 (by omega)
   have hsn:=List.eq_nil_of_length_eq_zero hse
   refine⟨by omega,fun hlt l=>?_⟩
   rw[hp,hsn,bU]
   show((l.length+1:Nat):Int)+1≤_
   omega
end Go.Proofs.Ytnkefclbchpafaa

/-
  What holds of every node of the row of an unfolded tree. Plain.
-/
namespace Go.Proofs.Ytnkefclbchpafaa
set_option linter.unusedVariables false
structure NodeG (N:Nat) (g:Int) (x:PN):Prop where
 ix:x.kind=7→0≤x.ix∧x.ix≤g
 sub:∀s∈x.subs,s < N
 few:x.subs.length≤1000000
 up:x.up < (N:Int)
 n0:0≤x.nth
 n1:x.nth≤1000000
def AllG (g:Int) (l:List PN):Prop:=∀(i:Nat) (x:PN),l[i]?=some x→NodeG l.length g x
theorem NodeG.more {N M:Nat} {g:Int} {x:PN} (h:NodeG N g x) (hm:N≤M):NodeG M g x:=⟨h.ix,fun s hs=>Nat.lt_of_lt_of_le (h.sub s hs) hm,h.few,by have:=h.up;omega,h.n0,h.n1⟩
theorem setUps_all {g:Int} (n:Nat):∀(ss:List Nat) (k:Nat) (l:List PN),n < l.length→k+ss.length≤1000000→AllG g l→AllG g (dU l n k ss)
 | [],_,_,_,_,h=>h
 | s::ss,k,l,hn,hk,h=>by
  rw[show dU l n k (s::ss)=dU (fK l s n k) n (k+1) ss from rfl]
  have hlen:(fK l s n k).length=l.length:=by simp[fK]
  simp only[List.length_cons] at hk
  refine setUps_all n ss (k+1) _ (by omega) (by omega) (fun i y hy=>?_)
  rw[hlen]
  rw[setUp_at] at hy
  split at hy
  ·cases hz:l[i]? with
   | none=>rw[hz] at hy;cases hy
   | some z =>
    rw[hz] at hy
    injection hy with hy
    subst hy
    have hg:=h i z hz
    exact⟨hg.ix,hg.sub,hg.few,by show(n:Int) < _;omega,by show(0:Int)≤(k:Int);omega,by show(k:Int)≤_;omega⟩
  ·exact h i y hy
theorem put_all {g:Int} {x:PN} {l:List PN} (h:AllG g l) (hx:x.kind=7→0≤x.ix∧x.ix≤g) (hs:∀s∈x.subs,s < l.length) (hf:x.subs.length≤1000000) (h0:x.nth=0):AllG g (dA x l).1:=by
 refine setUps_all _ _ _ _ (by simp) (by omega) (fun i y hy=>?_)
 by_cases hi:i < l.length
 ·rw[List.getElem?_append_left hi] at hy
  exact(h i y hy).more (by simp)
 ·have hi1:i=l.length:=by
   have:=(List.getElem?_eq_some_iff.1 hy).1
   simp at this
   omega
  subst hi1
  simp at hy
  subst hy
  exact⟨hx,fun s hs'=>by have:=hs s hs';simp;omega,hf,by show(-1:Int) < _;omega,by show(0:Int)≤x.nth;omega,by show x.nth≤_;omega⟩
theorem row_all {g:Int} {ss:List Nat} {l:List PN} (h:AllG g l) (hs:∀s∈ss,s < l.length) (hf:ss.length≤1000000):AllG g (iK ss l).1:=by
 match ss with
 | []=>exact put_all h (fun e=>absurd e (by decide)) (by simp[aX]) (by simp[aX]) rfl
 | [a]=>exact h
 | a::b::r=>exact put_all h (fun e=>absurd e (by show ¬(4:Int)=7;omega)) hs hf rfl
def KeepG (g:Int) (f:Uf):Prop:=∀l,AllG g l→AllG g (f l).1
theorem one_all {g:Int} {k:Int} {a:Nat} {lz:Bool} {l:List PN} (h:AllG g l) (hk:¬k=7) (ha:a < l.length):AllG g (dA (aX k [a] lz) l).1 :=
 put_all h (fun e=>absurd e hk) (by simp[aX];exact ha) (by simp[aX]) rfl
theorem opt_all {g:Int} {f:Uf} {u:UT} (lz:Bool) (hg:fJ f u) (hk:KeepG g f):∀k,0 < k→KeepG g (fZ f lz k)
 | 0,h=>by omega
 | 1,_=>fun l h=>one_all (hk l h) (by omega) (hg.len l).2
 | k+2,_=>fun l h=>by
  have h1:=hg.len l
  have h2:=(jl lz hg (k+1) (by omega)).len (f l).1
  have hs:∀s∈[(f l).2,(fZ f lz (k+1) (f l).1).2],s < (fZ f lz (k+1) (f l).1).1.length:=by
   intro s hs
   simp at hs
   rcases hs with rfl | rfl
   ·omega
   ·exact h2.2
  have h3:=row_all (opt_all lz hg hk (k+1) (by omega) _ (hk l h)) hs (by simp)
  exact one_all h3 (by omega) ((kW _ _).2 hs)
theorem times_all {g:Int} {f:Uf} {u:UT} (hg:fJ f u) (hk:KeepG g f):∀n l,AllG g l→AllG g (aF f n l).1∧(∀s∈(aF f n l).2,s < (aF f n l).1.length)∧(aF f n l).2.length=n
 | 0,l,h=>⟨h,by simp[aF],rfl⟩
 | n+1,l,h=>by
  obtain⟨a,b,c⟩:=times_all hg hk n (f l).1 (hk l h)
  refine⟨a,?_,by simp only[aF,List.length_cons,c]⟩
  intro s hs
  simp only[aF,List.mem_cons] at hs
  rcases hs with rfl | hs
  ·have:=times_len hg n (f l).1
   have:=(hg.len l).2
   show(f l).2 < (aF f n (f l).1).1.length
   omega
  ·exact b s hs
theorem snoc_all {g:Int} {ss:List Nat} {a:Nat} {l l':List PN} (h:AllG g l') (hs:∀s∈ss,s < l.length) (hl:l.length≤l'.length) (ha:a < l'.length) (hf:ss.length≤1000):AllG g (iK (ss++[a]) l').1:=by
 refine row_all h (fun s hs'=>?_) (by simp;omega)
 rcases List.mem_append.1 hs' with h' | h'
 ·have:=hs s h';omega
 ·obtain rfl:s=a:=by simpa using h'
  exact ha
theorem rep_all {g:Int} {f:Uf} {u:UT} (hg:fJ f u) (hk:KeepG g f) {mn mx:Int} (lz:Bool) (h0:0≤mn) (h1:mn≤1000):KeepG g (iJ f mn mx lz):=fun l h=>by
 by_cases hx:mx < 0
 ·by_cases hm0:mn=0
  ·rw[repT_star hx hm0]
   exact one_all (hk l h) (by omega) (hg.len l).2
  ·obtain⟨N,hN⟩:∃N:Nat,mn=(N:Int)+1:=⟨(mn - 1).toNat,by omega⟩
   rw[repT_plus hx hN]
   obtain⟨a,b,c⟩:=times_all hg hk N l h
   have h2:=hg.len (aF f N l).1
   have h4:=dJ (aX 102 [(f (aF f N l).1).2] lz) (f (aF f N l).1).1
   exact snoc_all (one_all (hk _ a) (by omega) h2.2) b (by omega) (by omega) (by omega)
 ·obtain⟨N,hN⟩:∃N:Nat,mn=(N:Int):=⟨mn.toNat,by omega⟩
  obtain⟨a,b,c⟩:=times_all hg hk N l h
  by_cases hmm:mn < mx
  ·obtain⟨K,hK⟩:∃K:Nat,mx - mn=(K:Int):=⟨(mx - mn).toNat,by omega⟩
   rw[repT_opt hx hmm hN hK]
   have h2:=(jl lz hg K (by omega)).len (aF f N l).1
   exact snoc_all (opt_all lz hg hk K (by omega) _ a) b h2.1 h2.2 (by omega)
  ·rw[jL hx hmm hN]
   exact row_all a b (by omega)
def OkI (g:Int) (t:Tree):Prop:=((t.kind=7→0≤t.ix∧t.ix≤g)∧t.subs.length≤1000000)∧∀i (h:i < t.subs.length),OkI g t.subs[i]
termination_by SizeOf.sizeOf t
decreasing_by exact Tree.sub_lt (List.getElem_mem h)
theorem OkI.top {g:Int} {t:Tree} (h:OkI g t):((t.kind=7→0≤t.ix∧t.ix≤g)∧t.subs.length≤1000000)∧∀x∈t.subs,OkI g x:=by
 rw[OkI] at h
 refine⟨h.1,fun x hx=>?_⟩
 obtain⟨i,hi,rfl⟩:=List.mem_iff_getElem.1 hx
 exact h.2 i hi
theorem listG {g:Int}:∀(ts:List Tree),(∀x∈ts,KeepG g (bJ x)∧fJ (bJ x) (jS x))→∀l,AllG g l→AllG g (bU ts l).1∧(∀s∈(bU ts l).2,s < (bU ts l).1.length)∧(bU ts l).2.length=ts.length∧l.length≤(bU ts l).1.length
 | [],_,l,h=>by
  rw[bU]
  exact⟨h,by simp,rfl,Nat.le_refl _⟩
 | x::r,hs,l,h=>by
  obtain⟨h1,h2⟩:=hs x (by simp)
  obtain⟨a,b,c,d⟩:=listG r (fun y hy=>hs y (by simp[hy])) (bJ x l).1 (h1 l h)
  have h3:=h2.len l
  rw[bU]
  refine⟨a,fun s hs'=>?_,by simp[c],by show l.length≤(bU r (bJ x l).1).1.length;omega⟩
  show s < (bU r (bJ x l).1).1.length
  rcases List.mem_cons.1 hs' with rfl | hs'
  ·omega
  ·exact b s hs'
theorem unf_all {g:Int} (n:Nat):∀(t:Tree),SizeOf.sizeOf t≤n→OkU t→OkV t→OkI g t→KeepG g (bJ t):=by
 induction n with
 | zero=>exact fun t h=>by obtain⟨k,r,a,l,m,x,z,i,nn⟩:=t;simp at h
 | succ n ih =>
 intro t hn hu hv hi l h
 have hsub:∀x∈t.subs,KeepG g (bJ x)∧fJ (bJ x) (jS x):=fun x hx=>⟨ih x (by have:=Tree.sub_lt hx;omega) (hu.top.2 x hx) (hv.top.2 x hx) (hi.top.2 x hx),jR x (hu.top.2 x hx)⟩
 by_cases hk6:t.kind=6
 ·have hpos:0 < t.subs.length:=by
   have:=hu.top.1.2.2.2 (.inl hk6)
   omega
  obtain⟨x,hx⟩:∃x,t.subs[0]?=some x:=⟨_,List.getElem?_eq_getElem hpos⟩
  obtain⟨a,b⟩:=hsub x (List.mem_of_getElem? hx)
  obtain⟨m0,m1,-,-⟩:=hv.top.1.1 hk6
  rw[unfT_6 hk6 hx]
  exact rep_all b a t.lz m0 m1 l h
 ·rw[unfT_n hk6]
  obtain⟨a,b,c,d⟩:=listG t.subs hsub l h
  exact put_all a hi.top.1.1 b (by show(bU t.subs l).2.length≤_;rw[c];exact hi.top.1.2) rfl
end Go.Proofs.Ytnkefclbchpafaa
