/-
  Behind2, RunC, ParS, put together.
-/
import Derived.Test.YtnkefclbchpafaaZ34Behind
import Derived.Deep.QuietTactic
import Derived.Test.YtnkefclbchpafaaZ25ParP
import Derived.Test.YtnkefclbchpafaaZ33TabN

/-
  The walk of heronref06's behind, by what stands above. Printed by tools/mkBehind2.py.
-/
namespace Go.Proofs.Ytnkefclbchpafaa
set_option maxRecDepth 100000
set_option maxHeartbeats 16000000
open Go.RowKit
set_option linter.unusedVariables false
theorem noted_hcon {F:Fx} {S:Nat→Prop} {p kk:Nat} {c:List Int} {s s':WSt} {wa wq:World} {OA:Option Addr} {oc g cap m:Nat} (hk:Tk F S c.length) (hR:Rd F S wa) (hW:WkR F wa s OA oc) (hU:Upd Nob wa wq) (hg:wa.heap.size≤g)
  (hO:wq.ownsRow wa.heap.size 3 1 (.slice (some ⟨g,0,none⟩) c.length cap) c.length (bn (c.set kk (p:Int)))) (hm:m < F.l.length) (hp:p≤F.xs.length) (hcon:Con F S c.length 65 m p (c.set kk (p:Int)) s s') :
  Calls Try.prog 65 #[.pointer (some ⟨F.wb,0,none⟩),.int .i64 (m:Int),.int .i64 (p:Int),.slice (some ⟨g,0,none⟩) c.length cap] wq (Ans F wq s' OA):=by
 have hb2:=hR.base
 have hno:¬OA.map (·.block)=some g:=fun hm=>by
  have:=(hW.out.lo hm).2
  omega
 refine hcon hm hp (by rw[List.length_set]) wq OA oc (some ⟨g,0,none⟩) cap (hR.upd hU (fun _ _=>aj)) (hW.upd hU) ?_
 have:=Reads.eU hO
 refine Reads.weaken (by rw[List.length_set];exact this) (fun b hb=>?_)
 have e:b=g:=by simp[Value.ownBlock] at hb;exact hb.symm
 subst e
 exact⟨fun hm=>by have:=hk.dis.lt _ hm;omega,hno⟩
theorem behind_done {F:Fx} {S:Nat→Prop} {n p cl L:Nat} {c:List Int} {s:WSt} {w w1 w2 wq wN:World} {OA:Option Addr} {oc gN cN g2 cap2:Nat} {gs:List (Nat × Nat)} {C:Obj} (hL:c.length=L) (hk:Tk F S cl) (hn:n < F.l.length) (hp:p≤F.xs.length) (hW:WkR F w s OA oc) (hU1:Upd (fun b=>b=F.eb) w w1)
  (hE1:Cells w1 F.eb 4 (dQ (iq s.en p) (F.xs.length+1))) (hU2:Upd Nob w1 w2) (hUq:Upd Nob w2 wq) (U9:Upd Nob w2 (wq.alloc C)) (gr:(wq.alloc C).grownBy wN (Value.slice OA s.out.length oc).ownBlock)
  (hat:(Value.slice OA s.out.length oc).ownBlock=some gN∨gN=wq.heap.size+1)
  (XN:Cells wN F.wb 100 #[.pointer (some ⟨F.tb,0,none⟩),.slice F.TA F.xs.length F.tc,.int .i64 (F.at_:Nat),.slice (some ⟨F.bo,0,none⟩) F.l.length F.bc,.slice (some ⟨F.dk,0,none⟩) F.l.length F.dkc,.slice (some ⟨F.eb,0,none⟩) (F.xs.length+1) F.ec,.slice OA s.out.length oc])
  (ON:wN.ownsRow w2.heap.size 3 1 (.slice (some ⟨g2,0,none⟩) L cap2) L (bn c)) (oN:wN.ownsRow F.base 58 2 (.slice (some ⟨gN,0,none⟩) (s.out.length+1) cN) (s.out.length+1) (flatO s.out gs++[.int .i64 (p:Int),.slice (some ⟨g2,0,none⟩) L cap2]))
  (hgl:gs.length=s.out.length) (hOc:∀(i p:Nat) (c:List Int) (g k:Nat),s.out[i]?=some (p,c)→gs[i]?=some (g,k)→w.ownsRow F.base 3 1 (.slice (some ⟨g,0,none⟩) c.length k) c.length (bn c)) (hO:w.ownsRow F.base 58 2 (.slice OA s.out.length oc) s.out.length (flatO s.out gs)) (hb:F.base≤w.heap.size)
  (hcn:s.out.length+1=cntE (F.xs.length+1) (iq s.en p)) :
  Ans F w { s with en:=iq s.en p,out:=s.out++[(p,c)] } OA (.returned (.tuple #[])) (wN.setCell ⟨F.wb,0+6,none⟩ (.slice (some ⟨gN,0,none⟩) (s.out.length+1) cN)):=by
 subst hL
 have hebl:=hk.dis.lt F.eb (.inr (.inl rfl))
 have hwbl:=hk.dis.lt F.wb (.inl rfl)
 have hs:=hU1.size
 have hs2:=hU2.size
 have hsq:=hUq.size
 have hV:Upd (fun b=>(Value.slice OA s.out.length oc).ownBlock=some b) w1 wN:=((hU2.trans U9 (fun _ _ h=>h)).mono (fun _ _ h=>absurd h aj)).grown gr (fun b hb _=>hb)
 have hoa:∀b,(Value.slice OA s.out.length oc).ownBlock=some b↔OA.map (·.block)=some b:=fun b=>by cases OA <;> simp[Value.ownBlock]
 have hA:Upd (fun b=>b=F.eb∨OA.map (·.block)=some b) w wN:=(hU1.mono (fun _ _ h=>.inl h)).trans (hV.mono (fun b _ h=>.inr ((hoa b).1 h))) (fun _ _ h=>h)
 have hlo:=hW.lo
 have hne:∀ {b:Nat} {t:TypeId} {cs:Array Value},Cells w b t cs→58≠t→b≠F.eb→¬(b=F.eb∨OA.map (·.block)=some b):=fun hc ht he h=>by
  rcases h with h | h
  ·exact he h
  ·exact hW.out.ne_ hc ht h
 have hwm:∀ {b:Nat},b≠F.wb→¬(b=F.wb):=fun h=>h
 obtain⟨wF,hwF⟩:∃wF,wN.setCell ⟨F.wb,0+6,none⟩ (.slice (some ⟨gN,0,none⟩) (s.out.length+1) cN)=wF:=⟨_,rfl⟩
 have hF:Upd (fun b=>b=F.wb) wN wF:=by rw[←hwF];exact(Upd.refl (fun b=>b=F.wb) wN).setCell _ _ (fun _=>rfl)
 have hwk:Cells wF F.wb 100 #[.pointer (some ⟨F.tb,0,none⟩),.slice F.TA F.xs.length F.tc,.int .i64 (F.at_:Nat),.slice (some ⟨F.bo,0,none⟩) F.l.length F.bc,.slice (some ⟨F.dk,0,none⟩) F.l.length F.dkc,.slice (some ⟨F.eb,0,none⟩) (F.xs.length+1) F.ec,.slice (some ⟨gN,0,none⟩) (s.out.length+1) cN]:=by
  rw[←hwF]
  exact XN.aW 6 _
 rw[hwF]
 refine⟨rfl,some ⟨gN,0,none⟩,cN,⟨⟨?_,fun i hi=>?_,fun i hi=>?_,?_,?_,?_⟩,?_,?_⟩⟩
 ·simp only[List.length_append,List.length_singleton]
  exact hwk
 ·exact((hW.bg i hi).upd hA (hne (hW.bg i hi) (by decide) (hk.dis.be i hi))).upd hF (Cells.ne_ (hW.bg i hi) hW.wk (by decide))
 ·exact((hW.dc i hi).upd hA (hne (hW.dc i hi) (by decide) (hk.dis.de i hi))).upd hF (Cells.ne_ (hW.dc i hi) hW.wk (by decide))
 ·refine(hE1.upd hV (fun h=>?_)).upd hF (Cells.ne_ hW.en hW.wk (by decide))
  have:=hlo _ ((hoa _).1 h)
  omega
 ·refine⟨gs++[(g2,cap2)],by simp[hgl],?_,fun i q d g k hi hg=>?_⟩
  ·rw[flatO_append _ _ _ _ _ _ hgl]
   simp only[List.length_append,List.length_singleton]
   exact aJ oN hF (fun b hb e=>by have:=ji oN hb;omega)
  ·by_cases hil:i < s.out.length
   ·rw[List.getElem?_append_left hil] at hi
    rw[List.getElem?_append_left (by omega)] at hg
    have h1:=hOc i q d g k hi hg
    have h2:=aJ h1 hA (fun b hb e=>by
     rcases e with e | e
     ·have:=ji h1 hb;omega
     ·exact own_apart hO h1 (by decide) ((hoa _).2 e) hb)
    exact aJ h2 hF (fun b hb e=>by have:=ji h2 hb;omega)
   ·have hi1:i=s.out.length:=by
     have:=(List.getElem?_eq_some_iff.1 hi).1
     simp at this
     omega
    subst hi1
    rw[List.getElem?_append_right (by omega)] at hi hg
    simp[hgl] at hi hg
    obtain⟨rfl,rfl⟩:=hi
    obtain⟨rfl,rfl⟩:=hg
    have h2:=kS (base':=F.base) ON (fun g hg=>by have:=ji ON hg;omega)
    exact aJ h2 hF (fun b hb e=>by have:=ji h2 hb;omega)
 ·simp only[List.length_append,List.length_singleton]
  exact hcn
 ·refine(hA.mono (fun b _ h=>?_)).trans (hF.mono (fun b _ h=>.inl (.inl h))) (fun _ _ h=>h)
  rcases h with h | h
  ·exact .inl (.inr (.inl h))
  ·exact .inr h
 ·rcases hat with h | h
  ·exact .inl (by rw[(hoa _).1 h];rfl)
  ·refine .inr (fun b hb=>?_)
   have:gN=b:=by simpa using hb
   omega
theorem behind_4 {F:Fx} {S:Nat→Prop} {cl n p m:Nat} {c:List Int} {s s':WSt} {x y:PN} (hk:Tk F S cl) (hx:F.l[n]?=some x) (hu:x.up=(m:Int)) (hy:F.l[m]?=some y) (hkd:y.kind=4) (hlt:x.nth.toNat+1 < y.subs.length) (hcon:Con F S cl 45 (y.subs.getD (x.nth.toNat+1) 0) p c s s'):Con F S cl 65 n p c s s':=by
 intro hn hp hc w OA oc CA cc hR hW hC
 obtain⟨RB,rb,SB,sb,-,-,-,-,-,-,u6,u7,-,-,-,-⟩:=aS (hR.node n x hx)
 rw[hu] at u6
 obtain⟨k,hk7⟩:∃k:Nat,x.nth=(k:Int):=⟨x.nth.toNat,by have:=(hk.nth n x hx).1;omega⟩
 have hk8:k≤1000000:=by have:=(hk.nth n x hx).2.1;omega
 have hk9:x.nth.toNat=k:=by omega
 rw[hk7] at u7
 have hmn:m < F.l.length:=(List.getElem?_eq_some_iff.1 hy).1
 obtain⟨RA,rc,SA,sc,q0,q1,q2,q3,q4,q5,q6,q7,hrs,hsub,hin,hin2⟩:=aS (hR.node m y hy)
 have m0:=hW.wk.ak (i:=0) rfl
 have t0:=hR.tab.ak (i:=0) rfl
 have g0:¬(m:Int) < 0:=by omega
 have g1:(n:Int) < (F.l.length:Int):=by omega
 have g2:(m:Int) < (F.l.length:Int):=by omega
 have hAl:Upd Nob w (w.alloc (.cells (aD y RA rc SA sc) 119)):=(Upd.refl Nob w).alloc _
 have HX:=ah (Cells.new w 119 (aD y RA rc SA sc))
 have HR:=ah (hR.upd hAl (fun _ _=>aj))
 have HN:=ah (Nx.aM hW hAl)
 have HC:=ah (hC.nx (Nx.aM hW hAl))
 have gU:=ah (hsub.upd hAl (fun _ _=>aj))
 have HU7:=ah ((hAl.cell (p:=⟨F.tg,n*8+7,none⟩) (hR.lt _ hR.stg) aj).trans u7)
 have HKD:=ah hkd
 obtain⟨k1,hk1⟩:∃k1,k+1=k1:=⟨_,rfl⟩
 have hwn:IntKind.i64.wrap ((k:Int)+1)=(k1:Int):=by rw[IntKind.wrap_i64];omega
 rw[hk9,hk1] at hlt hcon
 clear hR hW hC hsub hrs hkd hu hk7
 go_enter Try.func65,Try.ntmps65
 go_upto_region 7 with fail
 change Code.wp _ _ _ _ (w.alloc (.cells (aD y RA rc SA sc) 119))
 generalize w.alloc (.cells (aD y RA rc SA sc) 119)=wa at *
 clear m0 t0 q0 q1 q2 q3 q4 q5 q6 q7 u6 u7
 generalize w.heap.size=xb at *
 have m0:=HN.out.wk.wk.ak (i:=0) rfl
 have t0:=HR.out.tab.ak (i:=0) rfl
 have u7:=HU7.out
 have y0:=HX.out.ak (i:=0) (v:=.int .i64 4) (by rw[←HKD.out];rfl)
 have y4:=HX.out.ak (i:=0+4) (v:=.slice SA y.subs.length sc) rfl
 obtain⟨ad,hSA,hadb,hadS,hcell⟩:=gU.out.2 (by omega)
 have z0:=hcell k1 (.int .i64 ((y.subs.getD k1 0:Nat):Int)) (by simp[bn,hlt])
 rw[hSA] at y4
 have hsl:y.subs.getD k1 0 < F.l.length:=hk.sub m y hy _ (by rw[List.getD_eq_getElem?_getD,List.getElem?_eq_getElem hlt];exact List.getElem_mem hlt)
 have g3:(k1:Int) < (y.subs.length:Int):=by omega
 generalize y.subs.getD k1 0=mm at *
 clear hcell hSA
 go_wp2_with (go_at_call 45;refine(hcon hsl hp hc wa OA oc CA cc HR.out HN.out.wk HC.out).mono ?_;rintro e wb ⟨rfl,OA1,oc1,hX1⟩)
 first | (go_end0;exact⟨rfl,OA1,oc1,HN.out.trans hX1⟩) | (try simp only[Exit.inBlock,Exit.then];refine bodyPost_ret (results_none rfl _ _ _) rfl ?_;exact⟨rfl,OA1,oc1,HN.out.trans hX1⟩)
theorem behind_4e {F:Fx} {S:Nat→Prop} {cl n p m:Nat} {c:List Int} {s s':WSt} {x y:PN} (hk:Tk F S cl) (hx:F.l[n]?=some x) (hu:x.up=(m:Int)) (hy:F.l[m]?=some y) (hkd:y.kind=4) (hlt:¬x.nth.toNat+1 < y.subs.length) (hcon:Con F S cl 65 m p c s s'):Con F S cl 65 n p c s s':=by
 intro hn hp hc w OA oc CA cc hR hW hC
 obtain⟨RB,rb,SB,sb,-,-,-,-,-,-,u6,u7,-,-,-,-⟩:=aS (hR.node n x hx)
 rw[hu] at u6
 obtain⟨k,hk7⟩:∃k:Nat,x.nth=(k:Int):=⟨x.nth.toNat,by have:=(hk.nth n x hx).1;omega⟩
 have hk8:k≤1000000:=by have:=(hk.nth n x hx).2.1;omega
 have hk9:x.nth.toNat=k:=by omega
 rw[hk7] at u7
 have hmn:m < F.l.length:=(List.getElem?_eq_some_iff.1 hy).1
 obtain⟨RA,rc,SA,sc,q0,q1,q2,q3,q4,q5,q6,q7,hrs,hsub,hin,hin2⟩:=aS (hR.node m y hy)
 have m0:=hW.wk.ak (i:=0) rfl
 have t0:=hR.tab.ak (i:=0) rfl
 have g0:¬(m:Int) < 0:=by omega
 have g1:(n:Int) < (F.l.length:Int):=by omega
 have g2:(m:Int) < (F.l.length:Int):=by omega
 have hAl:Upd Nob w (w.alloc (.cells (aD y RA rc SA sc) 119)):=(Upd.refl Nob w).alloc _
 have HX:=ah (Cells.new w 119 (aD y RA rc SA sc))
 have HR:=ah (hR.upd hAl (fun _ _=>aj))
 have HN:=ah (Nx.aM hW hAl)
 have HC:=ah (hC.nx (Nx.aM hW hAl))
 have gU:=ah (hsub.upd hAl (fun _ _=>aj))
 have HU7:=ah ((hAl.cell (p:=⟨F.tg,n*8+7,none⟩) (hR.lt _ hR.stg) aj).trans u7)
 have HKD:=ah hkd
 obtain⟨k1,hk1⟩:∃k1,k+1=k1:=⟨_,rfl⟩
 have hwn:IntKind.i64.wrap ((k:Int)+1)=(k1:Int):=by rw[IntKind.wrap_i64];omega
 rw[hk9,hk1] at hlt
 clear hR hW hC hsub hrs hkd hu hk7
 go_enter Try.func65,Try.ntmps65
 go_upto_region 7 with fail
 change Code.wp _ _ _ _ (w.alloc (.cells (aD y RA rc SA sc) 119))
 generalize w.alloc (.cells (aD y RA rc SA sc) 119)=wa at *
 clear m0 t0 q0 q1 q2 q3 q4 q5 q6 q7 u6 u7
 generalize w.heap.size=xb at *
 have m0:=HN.out.wk.wk.ak (i:=0) rfl
 have t0:=HR.out.tab.ak (i:=0) rfl
 have u7:=HU7.out
 have y0:=HX.out.ak (i:=0) (v:=.int .i64 4) (by rw[←HKD.out];rfl)
 have y4:=HX.out.ak (i:=0+4) (v:=.slice SA y.subs.length sc) rfl
 have g3:¬(k1:Int) < (y.subs.length:Int):=by omega
 go_wp2_with (go_at_call 65;refine(hcon hmn hp hc wa OA oc CA cc HR.out HN.out.wk HC.out).mono ?_;rintro e wb ⟨rfl,OA1,oc1,hX1⟩)
 first | (go_end0;exact⟨rfl,OA1,oc1,HN.out.trans hX1⟩) | (try simp only[Exit.inBlock,Exit.then];refine bodyPost_ret (results_none rfl _ _ _) rfl ?_;exact⟨rfl,OA1,oc1,HN.out.trans hX1⟩)
theorem behind_101 {F:Fx} {S:Nat→Prop} {cl n p m:Nat} {c:List Int} {s s':WSt} {x y:PN} (hk:Tk F S cl) (hx:F.l[n]?=some x) (hu:x.up=(m:Int)) (hy:F.l[m]?=some y) (hkd:y.kind=101) (hcon:Con F S cl 68 m p c s s'):Con F S cl 65 n p c s s':=by
 intro hn hp hc w OA oc CA cc hR hW hC
 obtain⟨RB,rb,SB,sb,-,-,-,-,-,-,u6,u7,-,-,-,-⟩:=aS (hR.node n x hx)
 rw[hu] at u6
 obtain⟨k,hk7⟩:∃k:Nat,x.nth=(k:Int):=⟨x.nth.toNat,by have:=(hk.nth n x hx).1;omega⟩
 have hk8:k≤1000000:=by have:=(hk.nth n x hx).2.1;omega
 have hk9:x.nth.toNat=k:=by omega
 rw[hk7] at u7
 have hmn:m < F.l.length:=(List.getElem?_eq_some_iff.1 hy).1
 obtain⟨RA,rc,SA,sc,q0,q1,q2,q3,q4,q5,q6,q7,hrs,hsub,hin,hin2⟩:=aS (hR.node m y hy)
 have m0:=hW.wk.ak (i:=0) rfl
 have t0:=hR.tab.ak (i:=0) rfl
 have g0:¬(m:Int) < 0:=by omega
 have g1:(n:Int) < (F.l.length:Int):=by omega
 have g2:(m:Int) < (F.l.length:Int):=by omega
 have hAl:Upd Nob w (w.alloc (.cells (aD y RA rc SA sc) 119)):=(Upd.refl Nob w).alloc _
 have HX:=ah (Cells.new w 119 (aD y RA rc SA sc))
 have HR:=ah (hR.upd hAl (fun _ _=>aj))
 have HN:=ah (Nx.aM hW hAl)
 have HC:=ah (hC.nx (Nx.aM hW hAl))
 have gU:=ah (hsub.upd hAl (fun _ _=>aj))
 have HU7:=ah ((hAl.cell (p:=⟨F.tg,n*8+7,none⟩) (hR.lt _ hR.stg) aj).trans u7)
 have HKD:=ah hkd
 obtain⟨k1,hk1⟩:∃k1,k+1=k1:=⟨_,rfl⟩
 have hwn:IntKind.i64.wrap ((k:Int)+1)=(k1:Int):=by rw[IntKind.wrap_i64];omega
 clear hR hW hC hsub hrs hkd hu hk7
 go_enter Try.func65,Try.ntmps65
 go_upto_region 7 with fail
 change Code.wp _ _ _ _ (w.alloc (.cells (aD y RA rc SA sc) 119))
 generalize w.alloc (.cells (aD y RA rc SA sc) 119)=wa at *
 clear m0 t0 q0 q1 q2 q3 q4 q5 q6 q7 u6 u7
 generalize w.heap.size=xb at *
 have m0:=HN.out.wk.wk.ak (i:=0) rfl
 have t0:=HR.out.tab.ak (i:=0) rfl
 have u7:=HU7.out
 have y0:=HX.out.ak (i:=0) (v:=.int .i64 101) (by rw[←HKD.out];rfl)
 go_wp2_with (go_at_call 68;refine(hcon hmn hp hc wa OA oc CA cc HR.out HN.out.wk HC.out).mono ?_;rintro e wb ⟨rfl,OA1,oc1,hX1⟩)
 first | (go_end0;exact⟨rfl,OA1,oc1,HN.out.trans hX1⟩) | (try simp only[Exit.inBlock,Exit.then];refine bodyPost_ret (results_none rfl _ _ _) rfl ?_;exact⟨rfl,OA1,oc1,HN.out.trans hX1⟩)
theorem behind_102 {F:Fx} {S:Nat→Prop} {cl n p m:Nat} {c:List Int} {s s':WSt} {x y:PN} (hk:Tk F S cl) (hx:F.l[n]?=some x) (hu:x.up=(m:Int)) (hy:F.l[m]?=some y) (hkd:y.kind=102) (hcon:Con F S cl 68 m p c s s'):Con F S cl 65 n p c s s':=by
 intro hn hp hc w OA oc CA cc hR hW hC
 obtain⟨RB,rb,SB,sb,-,-,-,-,-,-,u6,u7,-,-,-,-⟩:=aS (hR.node n x hx)
 rw[hu] at u6
 obtain⟨k,hk7⟩:∃k:Nat,x.nth=(k:Int):=⟨x.nth.toNat,by have:=(hk.nth n x hx).1;omega⟩
 have hk8:k≤1000000:=by have:=(hk.nth n x hx).2.1;omega
 have hk9:x.nth.toNat=k:=by omega
 rw[hk7] at u7
 have hmn:m < F.l.length:=(List.getElem?_eq_some_iff.1 hy).1
 obtain⟨RA,rc,SA,sc,q0,q1,q2,q3,q4,q5,q6,q7,hrs,hsub,hin,hin2⟩:=aS (hR.node m y hy)
 have m0:=hW.wk.ak (i:=0) rfl
 have t0:=hR.tab.ak (i:=0) rfl
 have g0:¬(m:Int) < 0:=by omega
 have g1:(n:Int) < (F.l.length:Int):=by omega
 have g2:(m:Int) < (F.l.length:Int):=by omega
 have hAl:Upd Nob w (w.alloc (.cells (aD y RA rc SA sc) 119)):=(Upd.refl Nob w).alloc _
 have HX:=ah (Cells.new w 119 (aD y RA rc SA sc))
 have HR:=ah (hR.upd hAl (fun _ _=>aj))
 have HN:=ah (Nx.aM hW hAl)
 have HC:=ah (hC.nx (Nx.aM hW hAl))
 have gU:=ah (hsub.upd hAl (fun _ _=>aj))
 have HU7:=ah ((hAl.cell (p:=⟨F.tg,n*8+7,none⟩) (hR.lt _ hR.stg) aj).trans u7)
 have HKD:=ah hkd
 obtain⟨k1,hk1⟩:∃k1,k+1=k1:=⟨_,rfl⟩
 have hwn:IntKind.i64.wrap ((k:Int)+1)=(k1:Int):=by rw[IntKind.wrap_i64];omega
 clear hR hW hC hsub hrs hkd hu hk7
 go_enter Try.func65,Try.ntmps65
 go_upto_region 7 with fail
 change Code.wp _ _ _ _ (w.alloc (.cells (aD y RA rc SA sc) 119))
 generalize w.alloc (.cells (aD y RA rc SA sc) 119)=wa at *
 clear m0 t0 q0 q1 q2 q3 q4 q5 q6 q7 u6 u7
 generalize w.heap.size=xb at *
 have m0:=HN.out.wk.wk.ak (i:=0) rfl
 have t0:=HR.out.tab.ak (i:=0) rfl
 have u7:=HU7.out
 have y0:=HX.out.ak (i:=0) (v:=.int .i64 102) (by rw[←HKD.out];rfl)
 go_wp2_with (go_at_call 68;refine(hcon hmn hp hc wa OA oc CA cc HR.out HN.out.wk HC.out).mono ?_;rintro e wb ⟨rfl,OA1,oc1,hX1⟩)
 first | (go_end0;exact⟨rfl,OA1,oc1,HN.out.trans hX1⟩) | (try simp only[Exit.inBlock,Exit.then];refine bodyPost_ret (results_none rfl _ _ _) rfl ?_;exact⟨rfl,OA1,oc1,HN.out.trans hX1⟩)
theorem behind_5 {F:Fx} {S:Nat→Prop} {cl n p m:Nat} {c:List Int} {s s':WSt} {x y:PN} (hk:Tk F S cl) (hx:F.l[n]?=some x) (hu:x.up=(m:Int)) (hy:F.l[m]?=some y) (hkd:y.kind=5) (hcon:Con F S cl 65 m p c s s'):Con F S cl 65 n p c s s':=by
 intro hn hp hc w OA oc CA cc hR hW hC
 obtain⟨RB,rb,SB,sb,-,-,-,-,-,-,u6,u7,-,-,-,-⟩:=aS (hR.node n x hx)
 rw[hu] at u6
 obtain⟨k,hk7⟩:∃k:Nat,x.nth=(k:Int):=⟨x.nth.toNat,by have:=(hk.nth n x hx).1;omega⟩
 have hk8:k≤1000000:=by have:=(hk.nth n x hx).2.1;omega
 have hk9:x.nth.toNat=k:=by omega
 rw[hk7] at u7
 have hmn:m < F.l.length:=(List.getElem?_eq_some_iff.1 hy).1
 obtain⟨RA,rc,SA,sc,q0,q1,q2,q3,q4,q5,q6,q7,hrs,hsub,hin,hin2⟩:=aS (hR.node m y hy)
 have m0:=hW.wk.ak (i:=0) rfl
 have t0:=hR.tab.ak (i:=0) rfl
 have g0:¬(m:Int) < 0:=by omega
 have g1:(n:Int) < (F.l.length:Int):=by omega
 have g2:(m:Int) < (F.l.length:Int):=by omega
 have hAl:Upd Nob w (w.alloc (.cells (aD y RA rc SA sc) 119)):=(Upd.refl Nob w).alloc _
 have HX:=ah (Cells.new w 119 (aD y RA rc SA sc))
 have HR:=ah (hR.upd hAl (fun _ _=>aj))
 have HN:=ah (Nx.aM hW hAl)
 have HC:=ah (hC.nx (Nx.aM hW hAl))
 have gU:=ah (hsub.upd hAl (fun _ _=>aj))
 have HU7:=ah ((hAl.cell (p:=⟨F.tg,n*8+7,none⟩) (hR.lt _ hR.stg) aj).trans u7)
 have HKD:=ah hkd
 obtain⟨k1,hk1⟩:∃k1,k+1=k1:=⟨_,rfl⟩
 have hwn:IntKind.i64.wrap ((k:Int)+1)=(k1:Int):=by rw[IntKind.wrap_i64];omega
 clear hR hW hC hsub hrs hkd hu hk7
 go_enter Try.func65,Try.ntmps65
 go_upto_region 7 with fail
 change Code.wp _ _ _ _ (w.alloc (.cells (aD y RA rc SA sc) 119))
 generalize w.alloc (.cells (aD y RA rc SA sc) 119)=wa at *
 clear m0 t0 q0 q1 q2 q3 q4 q5 q6 q7 u6 u7
 generalize w.heap.size=xb at *
 have m0:=HN.out.wk.wk.ak (i:=0) rfl
 have t0:=HR.out.tab.ak (i:=0) rfl
 have u7:=HU7.out
 have y0:=HX.out.ak (i:=0) (v:=.int .i64 5) (by rw[←HKD.out];rfl)
 go_wp2_with (go_at_call 65;refine(hcon hmn hp hc wa OA oc CA cc HR.out HN.out.wk HC.out).mono ?_;rintro e wb ⟨rfl,OA1,oc1,hX1⟩)
 first | (go_end0;exact⟨rfl,OA1,oc1,HN.out.trans hX1⟩) | (try simp only[Exit.inBlock,Exit.then];refine bodyPost_ret (results_none rfl _ _ _) rfl ?_;exact⟨rfl,OA1,oc1,HN.out.trans hX1⟩)
theorem behind_103 {F:Fx} {S:Nat→Prop} {cl n p m:Nat} {c:List Int} {s s':WSt} {x y:PN} (hk:Tk F S cl) (hx:F.l[n]?=some x) (hu:x.up=(m:Int)) (hy:F.l[m]?=some y) (hkd:y.kind=103) (hcon:Con F S cl 65 m p c s s'):Con F S cl 65 n p c s s':=by
 intro hn hp hc w OA oc CA cc hR hW hC
 obtain⟨RB,rb,SB,sb,-,-,-,-,-,-,u6,u7,-,-,-,-⟩:=aS (hR.node n x hx)
 rw[hu] at u6
 obtain⟨k,hk7⟩:∃k:Nat,x.nth=(k:Int):=⟨x.nth.toNat,by have:=(hk.nth n x hx).1;omega⟩
 have hk8:k≤1000000:=by have:=(hk.nth n x hx).2.1;omega
 have hk9:x.nth.toNat=k:=by omega
 rw[hk7] at u7
 have hmn:m < F.l.length:=(List.getElem?_eq_some_iff.1 hy).1
 obtain⟨RA,rc,SA,sc,q0,q1,q2,q3,q4,q5,q6,q7,hrs,hsub,hin,hin2⟩:=aS (hR.node m y hy)
 have m0:=hW.wk.ak (i:=0) rfl
 have t0:=hR.tab.ak (i:=0) rfl
 have g0:¬(m:Int) < 0:=by omega
 have g1:(n:Int) < (F.l.length:Int):=by omega
 have g2:(m:Int) < (F.l.length:Int):=by omega
 have hAl:Upd Nob w (w.alloc (.cells (aD y RA rc SA sc) 119)):=(Upd.refl Nob w).alloc _
 have HX:=ah (Cells.new w 119 (aD y RA rc SA sc))
 have HR:=ah (hR.upd hAl (fun _ _=>aj))
 have HN:=ah (Nx.aM hW hAl)
 have HC:=ah (hC.nx (Nx.aM hW hAl))
 have gU:=ah (hsub.upd hAl (fun _ _=>aj))
 have HU7:=ah ((hAl.cell (p:=⟨F.tg,n*8+7,none⟩) (hR.lt _ hR.stg) aj).trans u7)
 have HKD:=ah hkd
 obtain⟨k1,hk1⟩:∃k1,k+1=k1:=⟨_,rfl⟩
 have hwn:IntKind.i64.wrap ((k:Int)+1)=(k1:Int):=by rw[IntKind.wrap_i64];omega
 clear hR hW hC hsub hrs hkd hu hk7
 go_enter Try.func65,Try.ntmps65
 go_upto_region 7 with fail
 change Code.wp _ _ _ _ (w.alloc (.cells (aD y RA rc SA sc) 119))
 generalize w.alloc (.cells (aD y RA rc SA sc) 119)=wa at *
 clear m0 t0 q0 q1 q2 q3 q4 q5 q6 q7 u6 u7
 generalize w.heap.size=xb at *
 have m0:=HN.out.wk.wk.ak (i:=0) rfl
 have t0:=HR.out.tab.ak (i:=0) rfl
 have u7:=HU7.out
 have y0:=HX.out.ak (i:=0) (v:=.int .i64 103) (by rw[←HKD.out];rfl)
 go_wp2_with (go_at_call 65;refine(hcon hmn hp hc wa OA oc CA cc HR.out HN.out.wk HC.out).mono ?_;rintro e wb ⟨rfl,OA1,oc1,hX1⟩)
 first | (go_end0;exact⟨rfl,OA1,oc1,HN.out.trans hX1⟩) | (try simp only[Exit.inBlock,Exit.then];refine bodyPost_ret (results_none rfl _ _ _) rfl ?_;exact⟨rfl,OA1,oc1,HN.out.trans hX1⟩)
theorem behind_7 {F:Fx} {S:Nat→Prop} {cl n p m:Nat} {c:List Int} {s s':WSt} {x y:PN} (hk:Tk F S cl) (hx:F.l[n]?=some x) (hu:x.up=(m:Int)) (hy:F.l[m]?=some y) (hkd:y.kind=7) (hcon:Con F S cl 65 m p (c.set (2*y.ix+1).toNat p) s s'):Con F S cl 65 n p c s s':=by
 intro hn hp hc w OA oc CA cc hR hW hC
 obtain⟨RB,rb,SB,sb,-,-,-,-,-,-,u6,u7,-,-,-,-⟩:=aS (hR.node n x hx)
 rw[hu] at u6
 obtain⟨k,hk7⟩:∃k:Nat,x.nth=(k:Int):=⟨x.nth.toNat,by have:=(hk.nth n x hx).1;omega⟩
 have hk8:k≤1000000:=by have:=(hk.nth n x hx).2.1;omega
 have hk9:x.nth.toNat=k:=by omega
 rw[hk7] at u7
 have hmn:m < F.l.length:=(List.getElem?_eq_some_iff.1 hy).1
 obtain⟨RA,rc,SA,sc,q0,q1,q2,q3,q4,q5,q6,q7,hrs,hsub,hin,hin2⟩:=aS (hR.node m y hy)
 have m0:=hW.wk.ak (i:=0) rfl
 have t0:=hR.tab.ak (i:=0) rfl
 have g0:¬(m:Int) < 0:=by omega
 have g1:(n:Int) < (F.l.length:Int):=by omega
 have g2:(m:Int) < (F.l.length:Int):=by omega
 have hAl:Upd Nob w (w.alloc (.cells (aD y RA rc SA sc) 119)):=(Upd.refl Nob w).alloc _
 have HX:=ah (Cells.new w 119 (aD y RA rc SA sc))
 have HR:=ah (hR.upd hAl (fun _ _=>aj))
 have HN:=ah (Nx.aM hW hAl)
 have HC:=ah (hC.nx (Nx.aM hW hAl))
 have gU:=ah (hsub.upd hAl (fun _ _=>aj))
 have HU7:=ah ((hAl.cell (p:=⟨F.tg,n*8+7,none⟩) (hR.lt _ hR.stg) aj).trans u7)
 have HKD:=ah hkd
 obtain⟨k1,hk1⟩:∃k1,k+1=k1:=⟨_,rfl⟩
 have hwn:IntKind.i64.wrap ((k:Int)+1)=(k1:Int):=by rw[IntKind.wrap_i64];omega
 clear hR hW hC hsub hrs hkd hu hk7
 go_enter Try.func65,Try.ntmps65
 go_upto_region 7 with fail
 change Code.wp _ _ _ _ (w.alloc (.cells (aD y RA rc SA sc) 119))
 generalize w.alloc (.cells (aD y RA rc SA sc) 119)=wa at *
 clear m0 t0 q0 q1 q2 q3 q4 q5 q6 q7 u6 u7
 generalize w.heap.size=xb at *
 have m0:=HN.out.wk.wk.ak (i:=0) rfl
 have t0:=HR.out.tab.ak (i:=0) rfl
 have u7:=HU7.out
 have y0:=HX.out.ak (i:=0) (v:=.int .i64 7) (by rw[←HKD.out];rfl)
 have y2:=HX.out.ak (i:=0+2) (v:=.int .i64 y.ix) rfl
 have hxb:=HX.out.lt
 have hixx:=hk.ix m y hy HKD.out
 have hclm:=hk.clm
 obtain⟨kk,hkk⟩:∃kk:Nat,2*y.ix+1=(kk:Int):=Int.eq_ofNat_of_zero_le (by omega)
 have hwr:IntKind.i64.wrap (2*y.ix)=2*y.ix:=by rw[IntKind.wrap_i64];omega
 have hwr2:IntKind.i64.wrap (2*y.ix+1)=(kk:Int):=by rw[IntKind.wrap_i64];omega
 have hkt:(2*y.ix+1).toNat=kk:=by omega
 rw[hkt] at hcon
 have HK7:=ah (show kk < c.length by omega)
 have HCC:=ah hc
 have HC0:=ah (show Reads wa (fun b=>¬MutF F b∧¬OA.map (·.block)=some b) 1 CA c.length (bn c) from HC.out)
 clear hkk hkt hixx
 subst hc
 have HK2:=ah (fun(wq:World) (g cap:Nat) hU hg hO=>noted_hcon (wq:=wq) (g:=g) (cap:=cap) hk HR.out HN.out.wk hU hg hO hmn hp hcon)
 go_wp2_with (first | (go_at_call 66;refine(noted_any wa _ CA cc c kk (p:Int) HC0.out HK7.out hclm).mono ?_;rintro e wq ⟨g,cap,rfl,hg,hO,hU⟩;have HG:=ah hg;have HO:=ah hO;have HUQ:=ah hU;clear hg hO hU) | (go_at_call 65;refine(HK2.out wq g cap HUQ.out HG.out HO.out).mono ?_;rintro e wb ⟨rfl,OA1,oc1,hX1⟩))
 first | (go_end0;exact⟨rfl,OA1,oc1,(HN.out.trans (Nx.aM HN.out.wk HUQ.out)).trans hX1⟩) | (try simp only[Exit.inBlock,Exit.then];refine bodyPost_ret (results_none rfl _ _ _) rfl ?_;exact⟨rfl,OA1,oc1,(HN.out.trans (Nx.aM HN.out.wk HUQ.out)).trans hX1⟩)
theorem behind_met {F:Fx} {S:Nat→Prop} {cl n p:Nat} {c:List Int} {s:WSt} {x:PN} (hk:Tk F S cl) (hx:F.l[n]?=some x) (hu:x.up < 0) (he:s.en p=true):Con F S cl 65 n p c s s:=by
 intro hn hp hc w OA oc CA cc hR hW hC
 obtain⟨RB,rb,SB,sb,-,-,-,-,-,-,u6,-,-,-,-,-⟩:=aS (hR.node n x hx)
 have m0:=hW.wk.ak (i:=0) rfl
 have m5:=hW.wk.ak (i:=0+5) rfl
 have t0:=hR.tab.ak (i:=0) rfl
 have e5:w.cell? ⟨F.eb,p,none⟩=some (.bool true):=by rw[←he];exact hW.en.ak (dM _ (by omega))
 have g1:(n:Int) < (F.l.length:Int):=by omega
 obtain⟨M,hM⟩:∃M,F.xs.length+1=M:=⟨_,rfl⟩
 rw[hM] at m5
 have g2:(p:Int) < (M:Int):=by omega
 have HW:=ah hW
 clear hW hM hC hR
 go_enter Try.func65,Try.ntmps65
 go_wp2_with fail
 try simp only[Exit.inBlock,Exit.then]
 refine bodyPost_ret (results_none rfl _ _ _) rfl ?_
 exact⟨rfl,OA,oc,.aM HW.out (Upd.refl _ _)⟩
theorem behind_end {F:Fx} {S:Nat→Prop} {cl n p:Nat} {c:List Int} {s:WSt} {x:PN} (hk:Tk F S cl) (hx:F.l[n]?=some x) (hu:x.up < 0) (he:s.en p=false):Con F S cl 65 n p c s { s with en:=iq s.en p,out:=s.out++[(p,(c.set 0 (F.at_:Int)).set 1 (p:Int))] }:=by
 intro hn hp hc w OA oc CA cc hR hW hC
 obtain⟨RB,rb,SB,sb,-,-,-,-,-,-,u6,-,-,-,-,-⟩:=aS (hR.node n x hx)
 have m0:=hW.wk.ak (i:=0) rfl
 have m5:=hW.wk.ak (i:=0+5) rfl
 have t0:=hR.tab.ak (i:=0) rfl
 have e5:w.cell? ⟨F.eb,p,none⟩=some (.bool false):=by rw[←he];exact hW.en.ak (dM _ (by omega))
 have g1:(n:Int) < (F.l.length:Int):=by omega
 obtain⟨M,hM⟩:∃M,F.xs.length+1=M:=⟨_,rfl⟩
 rw[hM] at m5
 have g2:(p:Int) < (M:Int):=by omega
 have f5:=hW.en.frozen p
 have hwe:F.wb≠F.eb:=Cells.ne_ hW.wk hW.en (by decide)
 have hU1:=(Upd.refl (fun b=>b=F.eb) w).setCell ⟨F.eb,p,none⟩ (.bool true) (fun _=>rfl)
 have hE1:=hW.en.aW p (.bool true)
 rw[rowC_set (b:=s.en) (b':=iq s.en p) (by simp[iq]) (fun q hq=>by simp[iq,hq])] at hE1
 have hW1:=hW.wk.upd hU1 hwe
 have hC1:Reads (w.setCell ⟨F.eb,p,none⟩ (.bool true)) (fun b=>¬MutF F b∧¬OA.map (·.block)=some b) 1 CA c.length (bn c):=Reads.upd hC hU1 (fun b hb e=>hb.1 (.inr (.inl e)))
 obtain⟨gs,hgl,hO,hOc⟩:=hW.out
 have hebl:=hk.dis.lt F.eb (.inr (.inl rfl))
 have hO1:=aJ hO hU1 (fun b hb e=>by have:=ji hO hb;omega)
 have hcnt:=cntE_mark (e:=s.en) (p:=p) he (n:=F.xs.length+1) (by omega)
 have hcle:=cntE_le (F.xs.length+1) (iq s.en p)
 have hsh:=hR.short
 have hcn:=hW.cnt
 have hb0:=hR.base
 have hc2:=hk.cl2
 have hc4:=hk.clm
 have HE1:=ah hE1
 have HW0:=ah hW
 have HW1:=ah hW1
 have HO0:=ah hO
 have HOC:=ah hOc
 have HGL:=ah hgl
 have HO1:=ah hO1
 have HC1:=ah hC1
 have HU1:=ah hU1
 have HCN:=ah (show s.out.length+1=cntE (F.xs.length+1) (iq s.en p) by omega)
 have hlen:s.out.length≤100:=by omega
 clear hW hM hC hR hE1 hW1 hO hOc hgl hO1 hC1 hU1 he
 go_enter Try.func65,Try.ntmps65
 go_upto_region 4 with fail
 clear m0 t0 m5 e5 f5 u6
 generalize hw1:w.setCell ⟨F.eb,p,none⟩ (.bool true)=w1 at *
 have HH:=ah hw1
 have m2:=HW1.out.ak (i:=0+2) rfl
 clear hw1
 have h01:w.heap.size≤w1.heap.size:=HU1.out.size
 subst hc
 go_upto_region 5 with(go_at_call 66;refine(noted_any w1 _ CA cc c 0 (F.at_:Int) HC1.out (by omega) hc4).mono ?_;rintro e w2 ⟨g,cap,rfl,hg,hO2,hU2⟩)
 have hs2:=hU2.size
 refine behind_reg5 _ w2 (fun b=>(Value.slice (some ⟨g,0,none⟩) c.length cap).ownBlock=some b) F.wb p s.out.length oc cap c.length F.base OA (some ⟨g,0,none⟩) (c.set 0 (F.at_:Int)) _ (flatO s.out gs) _ _ _ _ _ _ _ _ _ _ _ _ _ _ _ _ _ _ _ _ _ _ _ _ _ _ _ _ _ _ _ _ _ _ _ _ _ _ _ _ _ _ _ _ _ _ _ _ _ _ _ _ _ _ _ _ _ _ _ _ _ _ _ _ _ _ _ _ _ _ _ _ _ _ _ _ _ _ _ _ _ _ _ _ _ _ _ _ _ _ _ _ _ _ _ _ _ _ _ _ _ _ _ _ _ _ _ _ _ _ _ _ _ _ _ _ _ _ _ _ _ _ _ _ _ _ (by rw[List.length_set]) rfl (HW1.out.upd hU2 aj) (aJ HO1.out hU2 (fun _ _=>aj)) (by rw[List.length_set];exact Reads.eU hO2) (by rw[List.length_set];omega) (by rw[List.length_set];exact hc4) (by omega) (by omega) ?_
 intro _ _ _ _ _ _ _ _ _ _ _ _ _ _ wq wN gN cN g2 cap2 hUq hg2 U9 P9 O9 gr hat hltN XN ON oN
 go_wp2_with fail
 try simp only[Exit.inBlock,Exit.then]
 refine bodyPost_ret (results_none rfl _ _ _) rfl ?_
 exact behind_done (by simp) hk hn hp HW0.out HU1.out HE1.out hU2 hUq U9 gr hat XN ON oN HGL.out HOC.out HO0.out hb0 HCN.out
end Go.Proofs.Ytnkefclbchpafaa

/-
  What heronref06's begin, behind, choose, decide do, along a run.
-/
namespace Go.Proofs.Ytnkefclbchpafaa
set_option linter.unusedVariables false
def ConCl (F:Fx) (S:Nat→Prop) (cl:Nat):Cl→WSt→WSt→Prop
 | .B n p c,s,s'=>Con F S cl 45 n p c s s'
 | .K n p c,s,s'=>∀s0:WSt,s0.bg n p=false→s={ s0 with bg:=bT s0.bg n p }→Con F S cl 45 n p c s0 s'
 | .A ms p c,s,s'=>ConA F S cl p c ms s s'
 | .C n p c,s,s'=>Con F S cl 67 n p c s s'
 | .D n p c,s,s'=>Con F S cl 68 n p c s s'
 | .H n p c,s,s'=>Con F S cl 65 n p c s s'
theorem run_con {F:Fx} {S:Nat→Prop} {cl:Nat} {E:Env} (hk:Tk F S cl) (hc:∀rs p,E.cls rs p=dI rs F.xs p) (ha:∀a p,E.asr a p=cZ a (kP F.xs (p:Int))) {at_:Nat} (hat:at_=F.at_) {k:Cl} {s s':WSt} (h:Run E F.l at_ k s s'):ConCl F S cl k s s':=by
 have hfl:∀rs p,dI rs F.xs p=true→p < F.xs.length:=fun rs p h=>by
  unfold dI at h
  cases hx:F.xs[p]? with
  | none=>rw[hx] at h;cases h
  | some c=>exact(List.getElem?_eq_some_iff.1 hx).1
 subst hat
 induction h with
 | Bmet n p c s hb=>exact begin_met hk hb
 | Bgo n p c s s' hb _ ih=>exact ih s hb rfl
 | K1 n p c s s' x hx hkd _ ih=>intro s0 hb e;subst e;exact begin_1 hk hb hx hkd ih
 | K2y n p c s s' x hx hkd he _ ih =>
  intro s0 hb e
  subst e
  rw[hc] at he
  exact begin_2y hk hb hx hkd (hfl _ _ he) he ih
 | K2n n p c s x hx hkd he =>
  intro s0 hb e
  subst e
  rw[hc] at he
  by_cases hlt:p < F.xs.length
  ·exact begin_2n hk hb hx hkd hlt he
  ·exact begin_2e hk hb hx hkd hlt
 | K3y n p c s s' x hx hkd he _ ih=>intro s0 hb e;subst e;exact begin_3y hk hb hx hkd (by rw[←ha];exact he) ih
 | K3n n p c s x hx hkd he=>intro s0 hb e;subst e;exact begin_3n hk hb hx hkd (by rw[←ha];exact he)
 | K4 n p c s s' x hx hkd h0 _ ih =>
  intro s0 hb e
  subst e
  rcases hkd with hkd | hkd
  ·exact begin_4 hk hb hx hkd h0 ih
  ·exact begin_102 hk hb hx hkd h0 ih
 | K5 n p c s s' x hx hkd _ ih=>intro s0 hb e;subst e;exact begin_5 hk hb hx hkd ih
 | K7 n p c s s' x hx hkd h0 _ ih=>intro s0 hb e;subst e;exact begin_7 hk hb hx hkd h0 ih
 | Kq n p c s s' x hx hkd _ ih=>intro s0 hb e;subst e;exact begin_103 hk hb hx hkd ih
 | Ks n p c s s' x hx hkd _ ih=>intro s0 hb e;subst e;exact begin_101 hk hb hx hkd ih
 | A0 p c s=>exact rfl
 | A1 m r p c s s1 s2 _ _ ih1 ih2=>exact⟨s1,ih1,ih2⟩
 | Cy n p c s s1 s2 x hx h0 hz _ _ ih1 ih2=>exact choose_y hk hx h0 hz ih1 ih2
 | Cn n p c s s1 s2 x hx h0 hz _ _ ih1 ih2=>exact choose_n hk hx h0 hz ih1 ih2
 | Dmet n p c s hb=>exact decide_met hk hb
 | Dgo n p c s s' hb _ ih=>exact decide_go hk hb ih
 | Hmet n p c s x hx hu he=>exact behind_met hk hx hu he
 | Hend n p c s x hx hu he=>exact behind_end hk hx hu he
 | H4 n p c s s' x m y hx hu hy hkd hlt _ ih=>exact behind_4 hk hx hu hy hkd hlt ih
 | H4e n p c s s' x m y hx hu hy hkd hlt _ ih=>exact behind_4e hk hx hu hy hkd hlt ih
 | H7 n p c s s' x m y hx hu hy hkd _ ih=>exact behind_7 hk hx hu hy hkd ih
 | Hl n p c s s' x m y hx hu hy hkd _ ih =>
  rcases hkd with hkd | hkd
  ·exact behind_101 hk hx hu hy hkd ih
  ·exact behind_102 hk hx hu hy hkd ih
 | Ho n p c s s' x m y hx hu hy hkd _ ih =>
  rcases hkd with hkd | hkd
  ·exact behind_5 hk hx hu hy hkd ih
  ·exact behind_103 hk hx hu hy hkd ih
end Go.Proofs.Ytnkefclbchpafaa

/-
  gY.Parses' walker as it stands ahead of begin.
-/
namespace Go.Proofs.Ytnkefclbchpafaa
open Go.RowKit
set_option linter.unusedVariables false
theorem own_head {w:World} {base e size n c:Nat} {A:Option Addr} {xs:List Value} (h:w.ownsRow base e size (.slice A n c) n xs) (hn:0 < n):∃g,A=some ⟨g,0,none⟩:=by
 rcases h.2 with⟨hv,h0⟩ | ⟨g,cap,cur,hv,-⟩
 ·omega
 ·injection hv with hv
  exact⟨g,hv⟩
theorem NodeAt.weaken {w:World} {S S':Nat→Prop} {tg i:Nat} {x:PN} (h:NodeAt w S tg i x) (hS:∀b,S b→S' b):NodeAt w S' tg i x:=by
 obtain⟨RA,rc,SA,sc,h1,h2,h3,h4⟩:=h
 exact⟨RA,rc,SA,sc,h1,h2.weaken_ hS,h3.weaken hS,h4⟩
theorem cntE_none (n:Nat):cntE n (fun _=>false)=0:=by simp[cntE]
theorem par_ready {t:Tree} {xs:List Int} {an:Nat} {w4 w5 w6 w8:World} {base0 tb tg lc eb wb tc bc dc:Nat} {S0 D:Nat→Prop} {TA BA DA:Option Addr} {bgb dcb:Nat→Nat}
  (hT:dZ w4 base0 tb S0 D (bJ t []).1 (some ⟨tg,0,none⟩) lc) (hok:kL t) (hx:dB w4 (fun b=>b < w4.heap.size) TA xs.length xs) (h64:xs.length≤64)
  (hE:Cells w5 eb 4 (dQ noMark (xs.length+1))) (heb:w4.heap.size≤eb) (hwb:w4.heap.size≤wb) (hew:eb≠wb) (hU45:Upd Nob w4 w5)
  (hM:Mks w5 w6 wb xs.length (bJ t []).1.length (bJ t []).1.length (.pointer (some ⟨tb,0,none⟩)) (.slice TA xs.length tc) (.int .i64 (an:Nat)) (.slice (some ⟨eb,0,none⟩) (xs.length+1) (xs.length+1)) (.slice none 0 0) BA DA bc dc bgb dcb)
  (hU68:Upd Nob w6 w8) :
  ∃(F:Fx) (S:Nat→Prop),F.wb=wb∧F.base=w8.heap.size∧F.l=(bJ t []).1∧F.xs=xs∧F.at_=an∧Rd F S w8∧WkR F w8 st0 none 0∧Tk F S (2*dF t+2).toNat∧(∀b,w6.heap.size≤b→¬MutF F b)∧∀b,MutF F b→w4.heap.size≤b:=by
 have hlp:=hok.lt
 obtain⟨bo,rfl⟩:=own_head hM.bo (by omega)
 obtain⟨dk,rfl⟩:=own_head hM.dk (by omega)
 have s45:=hU45.size
 have s56:=hM.upd.size
 have s68:=hU68.size
 have ub:=aJ hM.bo hU68 (fun _ _=>aj)
 have ud:=aJ hM.dk hU68 (fun _ _=>aj)
 obtain⟨curB,cB,-⟩:=aK ub (g:=bo) rfl
 obtain⟨curD,cD,-⟩:=aK ud (g:=dk) rfl
 have cW:=hM.wk.upd hU68 aj
 have htb:tb < w4.heap.size:=hT.size
 have htw:tb≠wb:=by omega
 have U46:Upd Nob w4 w6:=(hU45.mono (fun _ _ h=>absurd h aj)).trans hM.upd (fun b hb e=>by omega)
 have U48:Upd Nob w4 w8:=U46.trans hU68 (fun _ _ h=>h)
 have cE:=(hE.upd hM.upd hew).upd hU68 aj
 have ebl:eb < w5.heap.size:=hE.lt
 have hwl:=hM.lo
 let F:Fx:={ wb:=wb,tb:=tb,tg:=tg,lc:=lc,TA:=TA,tc:=tc,bo:=bo,bc:=bc,dk:=dk,dkc:=dc,bgb:=bgb,dcb:=dcb,eb:=eb,ec:=xs.length+1,l:=(bJ t []).1,xs:=xs,at_:=an,base:=w8.heap.size }
 let S:Nat→Prop:=fun b=>b < w4.heap.size∨b=bo∨b=dk
 have cG:∀i,i < (bJ t []).1.length→Cells w8 (bgb i) 4 (dQ noMark (xs.length+1)):=fun i hi=>(hM.bg i hi).1.upd hU68 aj
 have cH:∀i,i < (bJ t []).1.length→Cells w8 (dcb i) 4 (dQ noMark (xs.length+1)):=fun i hi=>(hM.dg i hi).1.upd hU68 aj
 have hlo:∀b,MutF F b→w4.heap.size≤b:=fun b hb=>by
  rcases hb with e | e | ⟨n,hn,rfl⟩ | ⟨n,hn,rfl⟩
  ·rw[e];exact hwb
  ·rw[e];exact heb
  ·have:=(hM.bg n hn).2;show w4.heap.size≤bgb n;omega
  ·have:=(hM.dg n hn).2;show w4.heap.size≤dcb n;omega
 have hlt:∀b,MutF F b→b < w6.heap.size:=fun b hb=>by
  rcases hb with e | e | ⟨n,hn,rfl⟩ | ⟨n,hn,rfl⟩
  ·rw[e];show wb < w6.heap.size;omega
  ·rw[e];show eb < w6.heap.size;omega
  ·exact(hM.bg n hn).1.lt
  ·exact(hM.dg n hn).1.lt
 have hrow:∀(g:Nat) (cur:Array Value),Cells w8 g 77 cur→¬MutF F g:=fun g cur hc hb=>by
  rcases hb with e | e | ⟨n,hn,e⟩ | ⟨n,hn,e⟩
  ·exact Cells.ne_ hc cW (by decide) e
  ·exact Cells.ne_ hc cE (by decide) e
  ·exact Cells.ne_ hc (cG n hn) (by decide) e
  ·exact Cells.ne_ hc (cH n hn) (by decide) e
 have hSlt:∀b,S b→b < w8.heap.size:=fun b hb=>by
  rcases hb with hb | rfl | rfl
  ·have:=U48.size;omega
  ·exact cB.lt
  ·exact cD.lt
 have hdis:Dis F S:=⟨fun b hb=>by have:=hlt b hb;show b < w8.heap.size;omega,fun b hb=>⟨hSlt b hb,by
   rcases hb with hb | rfl | rfl
   ·intro hm;have:=hlo b hm;omega
   ·exact hrow _ _ cB
   ·exact hrow _ _ cD⟩,hM.bb,hM.dd,hM.bd,fun i hi=>by have:=(hM.bg i hi).2;show bgb i≠eb;omega,fun i hi=>by have:=(hM.dg i hi).2;show dcb i≠eb;omega⟩
 have hg0:=hok.g0
 have hg1:=hok.g1
 have hll:=hok.len
 refine⟨F,S,rfl,rfl,rfl,rfl,rfl,?_,?_,?_,fun b hb hm=>by have:=hlt b hm;omega,hlo⟩
 ·exact⟨hT.tab.upd U48 aj,fun i x hxi=>((hT.node hxi).upd U48 (fun _ _=>aj) (hT.gQ tg rfl).2 (hT.gQ tg rfl).2).weaken (fun b hb=>.inl hb),
   fun n hn=>(ub.cellAt n (by show n < (bJ t []).1.length*1;have:n < (bJ t []).1.length:=hn;omega)).trans (rowsV_at bgb xs.length hn),
   fun n hn=>(ud.cellAt n (by show n < (bJ t []).1.length*1;have:n < (bJ t []).1.length:=hn;omega)).trans (rowsV_at dcb xs.length hn),
   ⟨(hx.upd U48 (fun _ _=>aj)).r.weaken (fun b hb=>.inl hb),hx.i,hx.n⟩,.inl htb,.inl (hT.gQ tg rfl).2,.inr (.inl rfl),.inr (.inr rfl),hSlt,Nat.le_refl _,by show(bJ t []).1.length≤100000;omega,h64⟩
 ·exact⟨cW,fun n hn=>cG n hn,fun n hn=>cH n hn,cE,⟨[],rfl,World.ownsRow_nil _ _ _ _,fun i p c g k hi=>by simp[st0] at hi⟩,(cntE_none _).symm⟩
 ·refine⟨hdis,fun i x hxi h7=>?_,fun i x hxi=>(hok.all i x hxi).sub,fun i x hxi=>?_,by omega,by omega⟩
  ·obtain⟨a,b⟩:=(hok.all i x hxi).ix h7
   exact⟨a,by omega⟩
  ·have h:=hok.all i x hxi
   exact⟨h.n0,h.n1,h.up,h.few⟩
end Go.Proofs.Ytnkefclbchpafaa
