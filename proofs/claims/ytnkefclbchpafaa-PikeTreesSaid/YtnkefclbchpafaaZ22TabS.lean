/-
  GrtO, FormP, TabS, put together.
-/
import Derived.Test.YtnkefclbchpafaaZ21TabG
import Derived.Test.YtnkefclbchpafaaZ14Held

/-
  A tree's groups are numbered up to its greatest Index. Plain.
-/
namespace Go.Proofs.Ytnkefclbchpafaa
set_option linter.unusedVariables false
theorem grtL_le:∀(l:List Tree) (n:Int),n≤grtL n l∧∀x∈l,dF x≤grtL n l
 | [],n=>by rw[grtL];exact⟨Int.le_refl _,by simp⟩
 | t::l,n=>by
  rw[grtL]
  obtain⟨h1,h2⟩:=grtL_le l (max n (dF t))
  refine⟨by omega,fun x hx=>?_⟩
  rcases List.mem_cons.1 hx with rfl | hx
  ·omega
  ·exact h2 x hx
theorem grt_top (t:Tree):t.ix≤dF t∧∀x∈t.subs,dF x≤dF t:=by
 rw[grtT_eq t]
 exact grtL_le t.subs t.ix
def OkG (t:Tree):Prop:=((t.kind=7→0≤t.ix)∧t.subs.length≤1000000)∧∀i (h:i < t.subs.length),OkG t.subs[i]
termination_by SizeOf.sizeOf t
decreasing_by exact Tree.sub_lt (List.getElem_mem h)
theorem OkI.of {g:Int} {t:Tree} (h:(t.kind=7→0≤t.ix∧t.ix≤g)∧t.subs.length≤1000000) (hs:∀x∈t.subs,OkI g x):OkI g t:=by
 rw[OkI]
 exact⟨h,fun i hi=>hs _ (List.getElem_mem hi)⟩
theorem okI_of (n:Nat):∀(t:Tree) (g:Int),SizeOf.sizeOf t≤n→OkG t→dF t≤g→OkI g t:=by
 induction n with
 | zero=>exact fun t g h=>by obtain⟨k,r,a,l,m,x,z,i,nn⟩:=t;simp at h
 | succ n ih =>
 intro t g hn h hg
 rw[OkG] at h
 obtain⟨t1,t2⟩:=grt_top t
 refine OkI.of ⟨fun hk=>⟨h.1.1 hk,by omega⟩,h.1.2⟩ (fun x hx=>?_)
 have h2:=t2 x hx
 have h3:=Tree.sub_lt hx
 obtain⟨i,hi,rfl⟩:=List.mem_iff_getElem.1 hx
 exact ih _ g (by omega) (h.2 i hi) (by omega)
end Go.Proofs.Ytnkefclbchpafaa

/-
  A tree's program lays the unfolded tree. Plain.
-/
namespace Go.Proofs.Ytnkefclbchpafaa
set_option linter.unusedVariables false
set_option linter.unusedSimpArgs false
def Has_ (is:List av) (b:Nat) (c:List av):Prop:=∀(i:Nat) (x:av),c[i]?=some x→is[b+i]?=some x
theorem Has_.app {is:List av} {b:Nat} {c d:List av} (h:Has_ is b (c++d)):Has_ is b c∧Has_ is (b+c.length) d:=by
 refine⟨fun i x hi=>h i x ?_,fun i x hi=>?_⟩
 ·rw[List.getElem?_append_left (List.getElem?_eq_some_iff.1 hi).1];exact hi
 ·have:=h (c.length+i) x (by rw[List.getElem?_append_right (by omega),show c.length+i - c.length=i by omega];exact hi)
  rw[show b+c.length+i=b+(c.length+i) by omega]
  exact this
theorem Has_.cons {is:List av} {b:Nat} {x:av} {d:List av} (h:Has_ is b (x::d)):is[b]?=some x∧Has_ is (b+1) d :=
 ⟨h 0 x rfl,fun i y hi=>by
  have:=h (i+1) y (by simpa using hi)
  rw[show b+1+i=b+(i+1) by omega]
  exact this⟩
structure Ws (s:Tree) (u:UT):Prop where
 k1:s.kind=1↔kE u=true
 k4:s.kind=4→2≤s.subs.length∧∀x∈s.subs,x.kind≠1∧x.kind≠4
 ly:∀(is:List av) (b:Nat),Has_ is b (bG s b)→Ly is u b (b+aL s)
 k5:s.kind=5→s.subs≠[]∧∃ws,LdU u ws∧∀(is:List av) (b e:Nat),Has_ is b (gM s.subs b e)→LyOs is ws b (b+bf s.subs) e
inductive WsL:List Tree→List UT→Prop
 | nil:WsL [] []
 | cons (s:Tree) (ss:List Tree) (u:UT) (us:List UT):Ws s u→WsL ss us→WsL (s::ss) (u::us)
theorem WsL.app {a:List Tree} {b:List UT} (h:WsL a b) {c:List Tree} {d:List UT} (g:WsL c d):WsL (a++c) (b++d):=by
 induction h with
 | nil=>exact g
 | cons s ss u us h1 _ ih=>exact .cons _ _ _ _ h1 ih
theorem WsL.rep {s:Tree} {u:UT} (h:Ws s u):∀n,WsL (List.replicate n s) (List.replicate n u)
 | 0=>.nil
 | n+1=>.cons _ _ _ _ h (WsL.rep h n)
theorem WsL.one {s:Tree} {u:UT} (h:Ws s u):WsL [s] [u]:=.cons _ _ _ _ h .nil
theorem WsL.ly {ss:List Tree} {us:List UT} (h:WsL ss us):∀(is:List av) (b:Nat),Has_ is b (dO ss b)→LyC is us b (b+dD ss):=by
 induction h with
 | nil=>intro is b _;rw[dD];exact .nil b
 | cons s ss u us h1 _ ih =>
  intro is b h
  rw[dO] at h
  rw[dD]
  obtain⟨a,c⟩:=h.app
  rw[bY] at c
  refine .cons u us b (b+aL s) _ (by omega) (by omega) (h1.ly is b a) ?_
  have:=ih is _ c
  rw[show b+(aL s+dD ss)=b+aL s+dD ss by omega]
  exact this
theorem WsL.none {ss:List Tree} {us:List UT} (h:WsL ss us):aZ ss=[]↔∀u∈us,kE u=true:=by
 induction h with
 | nil=>simp[aZ]
 | cons s ss u us h1 _ ih =>
  rw[aZ]
  simp only[List.append_eq_nil_iff,ih,List.mem_cons,forall_eq_or_imp]
  refine and_congr_left fun _=>?_
  rw[←h1.k1]
  by_cases k1:s.kind=1
  ·simp[k1]
  ·rw[if_neg k1]
   by_cases k4:s.kind=4
   ·rw[if_pos k4]
    have:=(h1.k4 k4).1
    constructor
    ·intro e;rw[e] at this;simp at this
    ·intro e;exact absurd e k1
   ·simp[k1,k4]
theorem WsL.kinds {ss:List Tree} {us:List UT} (h:WsL ss us):∀x∈aZ ss,x.kind≠1∧x.kind≠4:=by
 induction h with
 | nil=>simp[aZ]
 | cons s ss u us h1 _ ih =>
  intro x hx
  rw[aZ] at hx
  rcases List.mem_append.1 hx with hx | hx
  ·split at hx
   ·simp at hx
   split at hx
   ·rename_i k4
    exact(h1.k4 k4).2 x hx
   ·obtain rfl:x=s:=by simpa using hx
    exact⟨by assumption,by assumption⟩
  ·exact ih x hx
theorem WsL.single {ss:List Tree} {us:List UT} (h:WsL ss us):∀t,aZ ss=[t]→∃k u,us[k]?=some u∧Ws t u∧∀(j:Nat) w,j≠k→us[j]?=some w→kE w=true:=by
 induction h with
 | nil=>intro t h;simp[aZ] at h
 | cons s ss u us h1 hr ih =>
  intro t ht
  rw[aZ] at ht
  split at ht
  ·rename_i k1
   obtain⟨k,v,g1,g2,g3⟩:=ih t ht
   refine⟨k+1,v,by simpa using g1,g2,fun j w hj hw=>?_⟩
   cases j with
   | zero =>
    simp at hw
    subst hw
    exact h1.k1.1 k1
   | succ j=>exact g3 j w (by omega) (by simpa using hw)
  split at ht
  ·rename_i k4
   have:=(h1.k4 k4).1
   have e:=congrArg List.length ht
   simp at e
   omega
  ·have ht:s::aZ ss=[t]:=ht
   injection ht with e1 e2
   subst e1
   refine⟨0,u,rfl,h1,fun j w hj hw=>?_⟩
   cases j with
   | zero=>exact absurd rfl hj
   | succ j=>exact hr.none.1 e2 w (List.mem_of_getElem? (by simpa using hw))
theorem ws_join {ss:List Tree} {us:List UT} (h:WsL ss us):Ws (bR ss) (.cat us):=by
 have hly:∀(is:List av) (b:Nat),Has_ is b (bG (bR ss) b)→Ly is (.cat us) b (b+aL (bR ss)):=fun is b hh=>by
  obtain⟨e1,e2⟩:=joinT_lay ss b
  rw[e1] at hh
  rw[e2]
  exact .cat _ _ _ (h.ly is b hh)
 have heps:kE (.cat us)=true↔aZ ss=[]:=by
  rw[h.none,←epsBL_iff]
  rw[kE]
 have hk:=h.kinds
 have hs:=h.single
 rw[show bR ss=bR ss from rfl] at hly
 unfold bR at hly ⊢
 split at hly
 ·rename_i hf
  exact⟨⟨fun _=>heps.2 hf,fun _=>rfl⟩,fun h=>absurd h (by simp[Tree.kind,fH,eY,aY,aV]),hly,fun h=>absurd h (by simp[Tree.kind,fH,eY,aY,aV])⟩
 ·rename_i t hf
  obtain⟨k,u,g1,g2,g3⟩:=hs t hf
  have ht:=hk t (by rw[hf];simp)
  refine⟨⟨fun h1=>absurd h1 ht.1,fun h1=>?_⟩,fun h4=>absurd h4 ht.2,hly,fun h5=>?_⟩
  ·rw[heps,hf] at h1
   cases h1
  ·obtain⟨a,ws,b,c⟩:=g2.k5 h5
   exact⟨a,ws,.cat us k u ws g1 g3 b,c⟩
 ·rename_i out hn1 hn2
  have h2:2≤(aZ ss).length:=by
   match hq:aZ ss with
   | []=>exact absurd hq hn1
   | [t]=>exact absurd hq (hn2 t)
   | _::_::_=>simp
  refine⟨⟨fun h1=>absurd h1 (by simp[Tree.kind,fH,eY,aY,aV]),fun h1=>absurd (heps.1 h1) hn1⟩,fun _=>⟨h2,hk⟩,hly,fun h=>absurd h (by simp[Tree.kind,fH,eY,aY,aV])⟩
theorem ws_one {s:Tree} {u:UT} (h:Ws s u):Ws (bR [s]) u:=by
 have hly:∀(is:List av) (b:Nat),Has_ is b (bG (bR [s]) b)→Ly is u b (b+aL (bR [s])):=fun is b hh=>by
  obtain⟨e1,e2⟩:=joinT_lay [s] b
  rw[e1,(iA s b).1] at hh
  rw[e2,(iA s b).2]
  exact h.ly is b hh
 by_cases k1:s.kind=1
 ·have e:bR [s]=aV:=by simp[bR,aZ,k1]
  rw[e] at hly ⊢
  exact⟨⟨fun _=>h.k1.1 k1,fun _=>rfl⟩,fun h=>absurd h (by simp[Tree.kind,fH,eY,aY,aV]),hly,fun h=>absurd h (by simp[Tree.kind,fH,eY,aY,aV])⟩
 by_cases k4:s.kind=4
 ·obtain⟨a,b⟩:=h.k4 k4
  have e:bR [s]=fH s.subs:=by
   unfold bR
   rw[show aZ [s]=s.subs by simp[aZ,k4]]
   match hq:s.subs with
   | []=>rw[hq] at a;simp at a
   | [t]=>rw[hq] at a;simp at a
   | _::_::_=>rfl
  rw[e] at hly ⊢
  exact⟨⟨fun h=>absurd h (by simp[Tree.kind,fH,eY,aY,aV]),fun e=>absurd (h.k1.2 e) k1⟩,fun _=>⟨a,b⟩,hly,fun h=>absurd h (by simp[Tree.kind,fH,eY,aY,aV])⟩
 ·have e:bR [s]=s:=by simp[bR,aZ,k1,k4]
  rw[e]
  exact h
theorem ws_empty:Ws aV .eps:=⟨⟨fun _=>rfl,fun _=>rfl⟩,fun h=>absurd h (by simp[Tree.kind,fH,eY,aY,aV]),fun is b _=>by rw[(layT_1 (t:=aV) rfl b).2];exact .eps b,fun h=>absurd h (by simp[Tree.kind,fH,eY,aY,aV])⟩
theorem ws_row {ss:List Tree} {us:List UT} (h:WsL ss us):Ws (bR ss) (rowU us):=by
 cases h with
 | nil=>exact ws_empty
 | cons s ss u us h1 h2 =>
  cases h2 with
  | nil=>exact ws_one h1
  | cons s' ss' u' us' h3 h4=>exact ws_join (.cons _ _ _ _ h1 (.cons _ _ _ _ h3 h4))
theorem loopI_at (b e:Int) (lz:Bool):(iB b e lz).op=2∧(if lz=true then (iB b e lz).y.toNat else (iB b e lz).x.toNat)=b.toNat∧(if lz=true then (iB b e lz).x.toNat else (iB b e lz).y.toNat)=e.toNat:=by
 cases lz <;> exact⟨rfl,rfl,rfl⟩
theorem ws_star {y:Tree} {x:UT} (lz:Bool) (h:Ws y x):Ws (aY y 0 (-1) lz) (.star x lz):=by
 refine⟨⟨fun h=>absurd h (by simp[Tree.kind,fH,eY,aY,aV]),fun h=>by simp[kE] at h⟩,fun h=>absurd h (by simp[Tree.kind,fH,eY,aY,aV]),fun is b hh=>?_,fun h=>absurd h (by simp[Tree.kind,fH,eY,aY,aV])⟩
 have e1:bG (aY y 0 (-1) lz) b=iB (b+1) (b+aL y+2) lz::(bG y (b+1)++[aT 7 0 b 0 []]):=by
  rw[aY,bG];simp[iG,gF]
 have e2:aL (aY y 0 (-1) lz)=aL y+2:=by
  rw[aY,aL];simp[gF]
 rw[e1] at hh
 rw[e2]
 obtain⟨a,hh⟩:=hh.cons
 obtain⟨c,hh⟩:=hh.app
 rw[bY] at hh
 obtain⟨d,-⟩:=hh.cons
 obtain⟨l1,l2,l3⟩:=loopI_at (b+1) (b+aL y+2) lz
 have:=h.ly is (b+1) c
 rw[show b+(aL y+2)=b+1+aL y+1 by omega]
 exact .star b (b+1+aL y) x lz _ _ a l1 (by rw[l2];omega) (by rw[l3];omega) (by omega) this d rfl (by show(b:Int).toNat=b;omega)
theorem ws_plus {y:Tree} {x:UT} (lz:Bool) (h:Ws y x):Ws (aY y 1 (-1) lz) (.plus x lz):=by
 refine⟨⟨fun h=>absurd h (by simp[Tree.kind,fH,eY,aY,aV]),fun h=>by simp[kE] at h⟩,fun h=>absurd h (by simp[Tree.kind,fH,eY,aY,aV]),fun is b hh=>?_,fun h=>absurd h (by simp[Tree.kind,fH,eY,aY,aV])⟩
 have e1:bG (aY y 1 (-1) lz) b=bG y b++[iB b (b+aL y+1) lz]:=by
  rw[aY,bG];simp[iG,gF]
 have e2:aL (aY y 1 (-1) lz)=aL y+1:=by
  rw[aY,aL];simp[gF]
 rw[e1] at hh
 rw[e2]
 obtain⟨c,hh⟩:=hh.app
 rw[bY] at hh
 obtain⟨d,-⟩:=hh.cons
 obtain⟨l1,l2,l3⟩:=loopI_at b (b+aL y+1) lz
 exact .plus b (b+aL y) x lz _ (by omega) (h.ly is b c) d l1 (by rw[l2];omega) (by rw[l3];omega)
theorem ws_quest {y:Tree} {x:UT} (lz:Bool) (h:Ws y x):Ws (aY y 0 1 lz) (.quest x lz):=by
 refine⟨⟨fun h=>absurd h (by simp[Tree.kind,fH,eY,aY,aV]),fun h=>by simp[kE] at h⟩,fun h=>absurd h (by simp[Tree.kind,fH,eY,aY,aV]),fun is b hh=>?_,fun h=>absurd h (by simp[Tree.kind,fH,eY,aY,aV])⟩
 have e1:bG (aY y 0 1 lz) b=iB (b+1) (b+aL y+1) lz::bG y (b+1):=by
  rw[aY,bG];simp[iG,gF]
 have e2:aL (aY y 0 1 lz)=aL y+1:=by
  rw[aY,aL];simp[gF]
 rw[e1] at hh
 rw[e2]
 obtain⟨a,hh⟩:=hh.cons
 obtain⟨l1,l2,l3⟩:=loopI_at (b+1) (b+aL y+1) lz
 have:=h.ly is (b+1) hh
 rw[show b+(aL y+1)=b+1+aL y by omega]
 exact .quest b _ x lz _ a l1 (by rw[l2];omega) (by rw[l3];omega) (by omega) this
theorem ws_opt {y:Tree} {x:UT} (lz:Bool) (h:Ws y x):∀k,0 < k→Ws (jD y lz k) (optU x lz k)
 | 0,hk=>by omega
 | 1,_=>ws_quest lz h
 | k+2,_=>ws_quest lz (ws_join (.cons _ _ _ _ h (.one (ws_opt lz h (k+1) (by omega)))))
theorem flatJ_app:∀(a b:List Tree),aZ (a++b)=aZ a++aZ b
 | [],b=>rfl
 | t::a,b=>by rw[List.cons_append,aZ,aZ,flatJ_app a b,List.append_assoc]
theorem ws_unf {y:Tree} {x:UT} {mn mx:Int} (lz:Bool) (h:Ws y x) (h0:0≤mn) (hm:mx=-1∨mn≤mx):Ws (kD y mn mx lz) (repU x mn mx lz):=by
 unfold kD repU
 by_cases hx0:mx=0
 ·rw[if_pos hx0,if_neg (by omega),if_neg (by omega),if_neg (by omega),if_neg (by omega),show mn.toNat=0 by omega]
  exact ws_empty
 rw[if_neg hx0]
 by_cases hx1:mx=-1
 ·rw[if_pos hx1]
  by_cases hm0:mn=0
  ·subst hm0
   rw[if_pos (by omega)]
   have:bR (List.replicate ((0:Int) - 1).toNat y++[aY y (min 0 1) (-1) lz])=aY y 0 (-1) lz:=rfl
   rw[this]
   exact ws_star lz h
  ·rw[if_neg (by omega),if_pos (by omega),if_pos (by omega),show min mn 1=1 by omega]
   exact ws_row ((WsL.rep h _).app (.one (ws_plus lz h)))
 ·rw[if_neg hx1,if_neg (by omega),if_neg (by omega),if_neg (by omega)]
  by_cases hmm:mn < mx
  ·rw[if_pos hmm]
   exact ws_row ((WsL.rep h _).app (.one (ws_opt lz h _ (by omega))))
  ·rw[if_neg hmm,show(mx - mn).toNat=0 by omega]
   have:bR (List.replicate mn.toNat y++[jD y lz 0])=bR (List.replicate mn.toNat y++[]):=by
    unfold bR
    rw[flatJ_app,flatJ_app]
    rfl
   rw[this]
   exact ws_row ((WsL.rep h _).app .nil)
def sp5 (s:Tree):List Tree:=if s.kind=5 then s.subs else [s]
theorem flatA_cons (s:Tree) (l:List Tree):cK (s::l)=sp5 s++cK l:=rfl
theorem ws_O {s:Tree} {u:UT} (h:Ws s u) {is:List av} {b e:Nat} (hh:Has_ is b (gM (sp5 s) b e)):LyO is u b (b+bf (sp5 s)) e∧0 < bf (sp5 s):=by
 unfold sp5 at hh ⊢
 by_cases k5:s.kind=5
 ·rw[if_pos k5] at hh ⊢
  obtain⟨a,ws,c,d⟩:=h.k5 k5
  have hp:0 < bf s.subs:=by
   obtain⟨t,r,hq⟩:=List.exists_cons_of_ne_nil a
   rw[hq,bf]
   omega
  exact⟨.nested u ws b _ e c (by omega) (d is b e hh),hp⟩
 ·rw[if_neg k5] at hh ⊢
  rw[gM,gM] at hh
  rw[bf,bf]
  obtain⟨a,hh⟩:=hh.cons
  obtain⟨c,hh⟩:=hh.app
  rw[bY] at hh
  obtain⟨d,-⟩:=hh.cons
  have:=h.ly is (b+1) c
  refine⟨?_,by omega⟩
  rw[show b+(aL s+2+0)=b+1+aL s+1 by omega]
  exact .plain u b (b+1+aL s) e _ _ (by omega) a rfl (by show((b:Int)+1).toNat=_;omega) (by show((b:Int)+aL s+2).toNat=_;omega) this d rfl (by show(e:Int).toNat=e;omega)
theorem WsL.os {ss:List Tree} {us:List UT} (h:WsL ss us):∀(is:List av) (b e:Nat),Has_ is b (gM (cK ss) b e)→LyOs is us b (b+bf (cK ss)) e:=by
 induction h with
 | nil=>intro is b e _;exact .nil b e
 | cons s ss u us h1 _ ih =>
  intro is b e hh
  rw[flatA_cons,layTO_app] at hh
  rw[flatA_cons,lenTO_app]
  obtain⟨a,c⟩:=hh.app
  rw[layTO_len] at c
  obtain⟨o,hp⟩:=ws_O h1 a
  have:=ih is _ e c
  rw[show b+(bf (sp5 s)+bf (cK ss))=b+bf (sp5 s)+bf (cK ss) by omega]
  exact .cons u us b _ _ e (by omega) (by omega) o this
theorem WsL.some {ss:List Tree} {us:List UT} (h:WsL ss us) (hn:ss≠[]):cK ss≠[]:=by
 cases h with
 | nil=>exact absurd rfl hn
 | cons s ss u us h1 h2 =>
  rw[flatA_cons]
  unfold sp5
  split
  ·rename_i k5
   have:=(h1.k5 k5).1
   simp[this]
  ·simp
theorem WsL.alt {ss:List Tree} {us:List UT} (h:WsL ss us):us≠[]→∀(is:List av) (b e:Nat),b+iL (cK ss)=e→Has_ is b (gV (cK ss) b e)→LyA is us b e:=by
 induction h with
 | nil=>intro h;exact absurd rfl h
 | cons s ss u us h1 h2 ih =>
  intro _ is b e he hh
  rw[flatA_cons] at he hh
  cases h2 with
  | nil =>
   rw[cK,List.append_nil] at he hh
   refine .last u b e ?_
   unfold sp5 at he hh
   split at he
   ·rename_i k5
    rw[if_pos k5] at hh
    obtain⟨e1,e2⟩:=layT_5 k5 b
    rw[←he,←e1] at hh
    rw[←he,←e2]
    exact h1.ly is b hh
   ·rename_i k5
    rw[if_neg k5] at hh
    rw[gV] at hh
    rw[iL] at he
    rw[←he]
    exact h1.ly is b hh
  | cons s' ss' u' us' h3 h4 =>
   have hne:cK (s'::ss')≠[]:=(WsL.cons _ _ _ _ h3 h4).some (by simp)
   rw[lenTA_app _ _ hne] at he
   rw[layTA_app _ _ _ _ hne] at hh
   obtain⟨a,c⟩:=hh.app
   rw[layTO_len] at c
   obtain⟨o,hp⟩:=ws_O h1 a
   exact .cons u (u'::us') b _ e (by omega) (by omega) o (ih (by simp) is _ e (by omega) c)
theorem ws_alt {ss:List Tree} {us:List UT} (h:WsL ss us) (h2:2≤us.length):Ws (eY (cK ss)) (.alt us):=by
 have hn:us≠[]:=fun e=>by rw[e] at h2;simp at h2
 have hn':ss≠[]:=fun e=>by subst e;cases h;exact hn rfl
 refine⟨⟨fun h=>absurd h (by simp[Tree.kind,fH,eY,aY,aV]),fun h=>by simp[kE] at h⟩,fun h=>absurd h (by simp[Tree.kind,fH,eY,aY,aV]),fun is b hh=>?_,fun _=>⟨h.some hn',us,.here us,fun is b e hh=>h.os is b e hh⟩⟩
 obtain⟨e1,e2⟩:=layT_5 (t:=eY (cK ss)) rfl b
 rw[e1] at hh
 rw[e2]
 exact .alt b _ us h2 (h.alt hn is b _ rfl hh)
def OkS (t:Tree):Prop :=
 (1≤t.kind∧t.kind≤7∧(t.kind=4∨t.kind=5→2≤t.subs.length)∧(t.kind=6∨t.kind=7→t.subs.length=1)∧(t.kind=6→0≤t.mn∧(t.mx=-1∨t.mn≤t.mx)))∧∀i (h:i < t.subs.length),OkS t.subs[i]
termination_by SizeOf.sizeOf t
decreasing_by exact Tree.sub_lt (List.getElem_mem h)
theorem OkS.top {t:Tree} (h:OkS t):(1≤t.kind∧t.kind≤7∧(t.kind=4∨t.kind=5→2≤t.subs.length)∧(t.kind=6∨t.kind=7→t.subs.length=1)∧(t.kind=6→0≤t.mn∧(t.mx=-1∨t.mn≤t.mx)))∧∀x∈t.subs,OkS x:=by
 rw[OkS] at h
 refine⟨h.1,fun x hx=>?_⟩
 obtain⟨i,hi,rfl⟩:=List.mem_iff_getElem.1 hx
 exact h.2 i hi
theorem form_list:∀(l:List Tree),(∀x∈l,Ws (aH x) (jS x))→WsL (aU l) (gP l)
 | [],_=>by rw[aU,gP];exact .nil
 | t::l,h=>by rw[aU,gP];exact .cons _ _ _ _ (h t (by simp)) (form_list l fun x hx=>h x (by simp[hx]))
theorem form_ws (n:Nat):∀(t:Tree),SizeOf.sizeOf t≤n→OkS t→Ws (aH t) (jS t):=by
 induction n with
 | zero=>exact fun t h=>by obtain⟨k,r,a,l,m,x,z,i,nn⟩:=t;simp at h
 | succ n ih =>
 intro t hn ho
 have hsub:∀x∈t.subs,Ws (aH x) (jS x):=fun x hx=>ih x (by have:=Tree.sub_lt hx;omega) (ho.top.2 x hx)
 obtain⟨o1,o2,o3,o4,o5⟩:=ho.top.1
 obtain⟨k,rs,am,subs,mn,mx,lz,ix,nm⟩:=t
 have o1:1≤k:=o1
 have o2:k≤7:=o2
 have hsub:∀x∈subs,Ws (aH x) (jS x):=hsub
 have o3:k=4∨k=5→2≤subs.length:=o3
 have o4:k=6∨k=7→subs.length=1:=o4
 have o5:k=6→0≤mn∧(mx=-1∨mn≤mx):=o5
 rw[aH,jS]
 by_cases k7:k=7
 ·rw[if_pos k7,if_neg (by omega),if_neg (by omega),if_neg (by omega),if_neg (by omega),if_neg (by omega),if_pos k7]
  obtain⟨s,rfl⟩:=List.length_eq_one_iff.1 (o4 (.inr k7))
  have h:=hsub s (List.mem_cons_self ..)
  subst k7
  refine⟨⟨fun h=>absurd h (by simp[Tree.kind,fH,eY,aY,aV]),fun h=>by simp[kE] at h⟩,fun h=>absurd h (by simp[Tree.kind,fH,eY,aY,aV]),fun is b hh=>?_,fun h=>absurd h (by simp[Tree.kind,fH,eY,aY,aV])⟩
  rw[eu,bG] at hh
  rw[eu,aL,unfUH]
  simp only[iG,gF,show ¬(7:Int)=2 by decide,show ¬(7:Int)=3 by decide,if_false,if_true] at hh ⊢
  obtain⟨a,hh⟩:=hh.cons
  obtain⟨c,hh⟩:=hh.app
  rw[bY] at hh
  obtain⟨d,-⟩:=hh.cons
  have:=h.ly is (b+1) c
  rw[show b+(aL (aH s)+2)=b+1+aL (aH s)+1 by omega]
  exact .grp b (b+1+aL (aH s)) ix _ _ _ a rfl rfl (by show((b:Int)+1).toNat=_;omega) (by omega) this d rfl rfl (by show((b:Int)+1+aL (aH s)+1).toNat=_;omega)
 rw[if_neg k7]
 by_cases k4:k=4
 ·rw[if_pos k4,if_neg (by omega),if_neg (by omega),if_neg (by omega),if_pos k4]
  exact ws_join (form_list subs hsub)
 rw[if_neg k4]
 by_cases k5:k=5
 ·rw[if_pos k5,if_neg (by omega),if_neg (by omega),if_neg (by omega),if_neg k4,if_pos k5]
  exact ws_alt (form_list subs hsub) (by rw[unfUL_map,List.length_map];exact o3 (.inr k5))
 rw[if_neg k5]
 by_cases k6:k=6
 ·rw[if_pos k6,if_pos k6]
  obtain⟨s,rfl⟩:=List.length_eq_one_iff.1 (o4 (.inl k6))
  rw[eu,unfUH]
  obtain⟨a,c⟩:=o5 k6
  exact ws_unf lz (hsub s (by simp)) a c
 rw[if_neg k6,if_neg k6]
 by_cases k2:k=2
 ·rw[if_pos k2]
  subst k2
  refine⟨⟨fun h=>absurd h (by simp[Tree.kind,fH,eY,aY,aV]),fun h=>by simp[kE] at h⟩,fun h=>absurd h (by simp[Tree.kind,fH,eY,aY,aV]),fun is b hh=>?_,fun h=>absurd h (by simp[Tree.kind,fH,eY,aY,aV])⟩
  rw[bG,if_pos rfl] at hh
  rw[aL,if_pos rfl]
  split at hh
  ·rename_i hr
   exact .cls b rs _ hh.cons.1 (.inr ⟨rfl,hr⟩)
  ·exact .cls b rs _ hh.cons.1 (.inl ⟨rfl,rfl,by show((b:Int)+1).toNat=_;omega⟩)
 rw[if_neg k2]
 by_cases k3:k=3
 ·rw[if_pos k3]
  subst k3
  refine⟨⟨fun h=>absurd h (by simp[Tree.kind,fH,eY,aY,aV]),fun h=>by simp[kE] at h⟩,fun h=>absurd h (by simp[Tree.kind,fH,eY,aY,aV]),fun is b hh=>?_,fun h=>absurd h (by simp[Tree.kind,fH,eY,aY,aV])⟩
  rw[bG,if_neg (by decide),if_pos rfl] at hh
  rw[aL,if_neg (by decide),if_pos rfl]
  exact .asr b am _ hh.cons.1 rfl rfl (by show((b:Int)+1).toNat=_;omega)
 ·rw[if_neg k3,if_neg k4,if_neg k5,if_neg k7]
  have k1:k=1:=by omega
  refine⟨⟨fun _=>rfl,fun _=>k1⟩,fun h=>absurd h k4,fun is b hh=>?_,fun h=>absurd h k5⟩
  rw[(layT_1 (t:=.mk k rs am subs mn mx lz ix nm) k1 b).2]
  exact .eps b
end Go.Proofs.Ytnkefclbchpafaa

/-
  In the row of an unfolded tree what stands below a node stands ahead of it. Plain.
-/
namespace Go.Proofs.Ytnkefclbchpafaa
set_option linter.unusedVariables false
def AllS (l:List PN):Prop:=∀(i:Nat) (x:PN),l[i]?=some x→∀s∈x.subs,s < i
theorem setUps_allS (n:Nat):∀(ss:List Nat) (k:Nat) (l:List PN),AllS l→AllS (dU l n k ss)
 | [],_,_,h=>h
 | s::ss,k,l,h=>by
  rw[show dU l n k (s::ss)=dU (fK l s n k) n (k+1) ss from rfl]
  refine setUps_allS n ss (k+1) _ (fun i y hy=>?_)
  rw[setUp_at] at hy
  split at hy
  ·cases hz:l[i]? with
   | none=>rw[hz] at hy;cases hy
   | some z =>
    rw[hz] at hy
    injection hy with hy
    subst hy
    exact h i z hz
  ·exact h i y hy
theorem put_allS {x:PN} {l:List PN} (h:AllS l) (hs:∀s∈x.subs,s < l.length):AllS (dA x l).1:=by
 refine setUps_allS _ _ _ _ (fun i y hy=>?_)
 by_cases hi:i < l.length
 ·rw[List.getElem?_append_left hi] at hy
  exact h i y hy
 ·have hi1:i=l.length:=by
   have:=(List.getElem?_eq_some_iff.1 hy).1
   simp at this
   omega
  subst hi1
  simp at hy
  subst hy
  exact hs
theorem row_allS {ss:List Nat} {l:List PN} (h:AllS l) (hs:∀s∈ss,s < l.length):AllS (iK ss l).1:=by
 match ss with
 | []=>exact put_allS h (by simp[aX])
 | [a]=>exact h
 | a::b::r=>exact put_allS h hs
def KeepS (f:Uf):Prop:=∀l,AllS l→AllS (f l).1
theorem one_allS {k:Int} {a:Nat} {lz:Bool} {l:List PN} (h:AllS l) (ha:a < l.length):AllS (dA (aX k [a] lz) l).1 :=
 put_allS h (by simp[aX];exact ha)
theorem opt_allS {f:Uf} {u:UT} (lz:Bool) (hg:fJ f u) (hk:KeepS f):∀k,0 < k→KeepS (fZ f lz k)
 | 0,h=>by omega
 | 1,_=>fun l h=>one_allS (hk l h) (hg.len l).2
 | k+2,_=>fun l h=>by
  have h1:=hg.len l
  have h2:=(jl lz hg (k+1) (by omega)).len (f l).1
  have hs:∀s∈[(f l).2,(fZ f lz (k+1) (f l).1).2],s < (fZ f lz (k+1) (f l).1).1.length:=by
   intro s hs
   simp at hs
   rcases hs with rfl | rfl
   ·omega
   ·exact h2.2
  have h3:=row_allS (opt_allS lz hg hk (k+1) (by omega) _ (hk l h)) hs
  exact one_allS h3 ((kW _ _).2 hs)
theorem times_allS {f:Uf} {u:UT} (hg:fJ f u) (hk:KeepS f):∀n l,AllS l→AllS (aF f n l).1∧(∀s∈(aF f n l).2,s < (aF f n l).1.length)
 | 0,l,h=>⟨h,by simp[aF]⟩
 | n+1,l,h=>by
  obtain⟨a,b⟩:=times_allS hg hk n (f l).1 (hk l h)
  refine⟨a,?_⟩
  intro s hs
  simp only[aF,List.mem_cons] at hs
  rcases hs with rfl | hs
  ·have:=times_len hg n (f l).1
   have:=(hg.len l).2
   show(f l).2 < (aF f n (f l).1).1.length
   omega
  ·exact b s hs
theorem snoc_allS {ss:List Nat} {a:Nat} {l l':List PN} (h:AllS l') (hs:∀s∈ss,s < l.length) (hl:l.length≤l'.length) (ha:a < l'.length):AllS (iK (ss++[a]) l').1:=by
 refine row_allS h (fun s hs'=>?_)
 rcases List.mem_append.1 hs' with h' | h'
 ·have:=hs s h';omega
 ·obtain rfl:s=a:=by simpa using h'
  exact ha
theorem rep_allS {f:Uf} {u:UT} (hg:fJ f u) (hk:KeepS f) {mn mx:Int} (lz:Bool) (h0:0≤mn):KeepS (iJ f mn mx lz):=fun l h=>by
 by_cases hx:mx < 0
 ·by_cases hm0:mn=0
  ·rw[repT_star hx hm0]
   exact one_allS (hk l h) (hg.len l).2
  ·obtain⟨N,hN⟩:∃N:Nat,mn=(N:Int)+1:=⟨(mn - 1).toNat,by omega⟩
   rw[repT_plus hx hN]
   obtain⟨a,b⟩:=times_allS hg hk N l h
   have h2:=hg.len (aF f N l).1
   have h4:=dJ (aX 102 [(f (aF f N l).1).2] lz) (f (aF f N l).1).1
   exact snoc_allS (one_allS (hk _ a) h2.2) b (by omega) (by omega)
 ·obtain⟨N,hN⟩:∃N:Nat,mn=(N:Int):=⟨mn.toNat,by omega⟩
  obtain⟨a,b⟩:=times_allS hg hk N l h
  by_cases hmm:mn < mx
  ·obtain⟨K,hK⟩:∃K:Nat,mx - mn=(K:Int):=⟨(mx - mn).toNat,by omega⟩
   rw[repT_opt hx hmm hN hK]
   have h2:=(jl lz hg K (by omega)).len (aF f N l).1
   exact snoc_allS (opt_allS lz hg hk K (by omega) _ a) b h2.1 h2.2
  ·rw[jL hx hmm hN]
   exact row_allS a b
theorem listS:∀(ts:List Tree),(∀x∈ts,KeepS (bJ x)∧fJ (bJ x) (jS x))→∀l,AllS l→AllS (bU ts l).1∧(∀s∈(bU ts l).2,s < (bU ts l).1.length)∧l.length≤(bU ts l).1.length
 | [],_,l,h=>by
  rw[bU]
  exact⟨h,by simp,Nat.le_refl _⟩
 | x::r,hs,l,h=>by
  obtain⟨h1,h2⟩:=hs x (by simp)
  obtain⟨a,b,d⟩:=listS r (fun y hy=>hs y (by simp[hy])) (bJ x l).1 (h1 l h)
  have h3:=h2.len l
  rw[bU]
  refine⟨a,fun s hs'=>?_,by show l.length≤(bU r (bJ x l).1).1.length;omega⟩
  show s < (bU r (bJ x l).1).1.length
  rcases List.mem_cons.1 hs' with rfl | hs'
  ·omega
  ·exact b s hs'
theorem unf_allS (n:Nat):∀(t:Tree),SizeOf.sizeOf t≤n→OkU t→OkV t→KeepS (bJ t):=by
 induction n with
 | zero=>exact fun t h=>by obtain⟨k,r,a,l,m,x,z,i,nn⟩:=t;simp at h
 | succ n ih =>
 intro t hn hu hv l h
 have hsub:∀x∈t.subs,KeepS (bJ x)∧fJ (bJ x) (jS x):=fun x hx=>⟨ih x (by have:=Tree.sub_lt hx;omega) (hu.top.2 x hx) (hv.top.2 x hx),jR x (hu.top.2 x hx)⟩
 by_cases hk6:t.kind=6
 ·have hpos:0 < t.subs.length:=by
   have:=hu.top.1.2.2.2 (.inl hk6)
   omega
  obtain⟨x,hx⟩:∃x,t.subs[0]?=some x:=⟨_,List.getElem?_eq_getElem hpos⟩
  obtain⟨a,b⟩:=hsub x (List.mem_of_getElem? hx)
  obtain⟨m0,m1,-,-⟩:=hv.top.1.1 hk6
  rw[unfT_6 hk6 hx]
  exact rep_allS b a t.lz m0 l h
 ·rw[unfT_n hk6]
  obtain⟨a,b,d⟩:=listS t.subs hsub l h
  exact put_allS a b
end Go.Proofs.Ytnkefclbchpafaa
