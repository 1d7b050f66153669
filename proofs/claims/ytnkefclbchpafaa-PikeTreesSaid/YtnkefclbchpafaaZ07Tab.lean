/-
  RefHas, Wk, Tab, put together.
-/
import Derived.Test.YtnkefclbchpafaaZ06RefRight
import Derived.StillTailTactics
import Derived.Test.YtnkefclbchpafaaZ03RunP

/-
  The walks of heronref01.in, Has.
-/
namespace Go.Proofs.Ytnkefclbchpafaa
set_option maxHeartbeats 16000000
open Go.RowKit
set_option linter.unusedVariables false
theorem inB_drop {rs:List (Int × Int)} {k:Nat} {x:Int × Int} {c:Int} (h:rs[k]?=some x):inB (rs.drop k) c=(decide (x.1≤c∧c≤x.2) || inB (rs.drop (k+1)) c):=by
 have hl:=(List.getElem?_eq_some_iff.1 h).1
 rw[List.drop_eq_getElem_cons hl]
 rw[List.getElem?_eq_getElem hl] at h
 injection h with h
 rw[h]
 rfl
theorem ref_in (w:World) (S:Nat→Prop) (A:Option Addr) (n cc:Nat) (rs:List (Int × Int)) (h:bO w S A n rs) (c:Int) (hc:In64 c) :
  Calls Try.prog 75 #[.slice A n cc,.int .i64 c] w fun e w'=>e=.returned (.bool (inB rs c))∧∃q,w'=w.drewN q:=by
 have hn:=h.n
 obtain rfl:rs.length=n:=h.len
 have H:=ah h
 have h1:=hc.1
 have h2:=hc.2
 clear h
 go_enter Try.func75,Try.ntmps75
 go_wp2_with fail
 go_loopg [5] rs.length (fun gk v5 wr=>∃k q:Nat,k+gk=rs.length∧v5=.int .i64 (k:Int)∧wr=w.drewN q∧inB rs c=inB (rs.drop k) c)
 case atStart=>exact⟨0,0,by omega,rfl,rfl,rfl⟩
 case round =>
  obtain⟨k,q,hk,rfl,rfl,hq⟩:=hrel
  have HQ:=ah hq
  clear hq
  by_cases hlt:k < rs.length
  ·obtain⟨ad,x,g,o,rfl,hx,i1,i2,hadd,c0,c1,-⟩:=H.out.at1 hlt
   have hstep:=inB_drop (c:=c) hx
   obtain⟨lo,hi⟩:=x
   simp only at c0 c1 hstep
   have kl:(k:Int) < (rs.length:Int):=by omega
   by_cases hlo:lo≤c
   ·by_cases hhi:c≤hi
    ·have HV:=ah (show inB rs c=true by rw[HQ.out,hstep,decide_eq_true ⟨hlo,hhi⟩];rfl)
     clear hx hstep
     go_wp2_with fail
     go_ret
     exact⟨congrArg Ending.returned (congrArg Value.bool HV.out.symm),q,rfl⟩
    ·have hhb:decide (c≤hi)=false:=decide_eq_false hhi
     have HV:=ah (show inB rs c=inB (rs.drop (k+1)) c by rw[HQ.out,hstep,decide_eq_false (fun h=>hhi h.2)];rfl)
     clear hx hstep
     go_wp2_with fail
     go_roundg (rs.length - (k+1))
     case measure=>omega
     case rel=>exact⟨k+1,q,by omega,by go_num,rfl,HV.out⟩
   ·have hlb:decide (lo≤c)=false:=decide_eq_false hlo
    have HV:=ah (show inB rs c=inB (rs.drop (k+1)) c by rw[HQ.out,hstep,decide_eq_false (fun h=>hlo h.1)];rfl)
    clear hx hstep
    go_wp2_with fail
    go_roundg (rs.length - (k+1))
    case measure=>omega
    case rel=>exact⟨k+1,q,by omega,by go_num,rfl,HV.out⟩
  ·have hkn:k=rs.length:=by omega
   have HV:=ah (show inB rs c=false by rw[HQ.out,hkn,List.drop_length];rfl)
   have kl:¬(k:Int) < (rs.length:Int):=by omega
   go_wp2_with fail
   go_ret
   exact⟨congrArg Ending.returned (congrArg Value.bool HV.out.symm),q,rfl⟩
theorem ref_has (w:World) (S:Nat→Prop) (A:Option Addr) (n cc:Nat) (rs:List (Int × Int)) (h:bO w S A n rs) (c:Int) (hc:In64 c) :
  Calls Try.prog 57 #[.slice A n cc,.int .i64 c] w fun e w'=>e=.returned (.bool (hasB rs c))∧∃q,w'=w.drewN q:=by
 rcases hr:bq rs with _ | _
 ·have HV:=ah (show hasB rs c=false by unfold hasB;rw[hr];rfl)
  go_enter Try.func57,Try.ntmps57
  go_wp2_with fail
  refine(ref_right w S A n cc rs h).mono ?_
  rintro e w1 ⟨he,q,rfl⟩
  rw[hr] at he
  subst he
  go_wp2_with fail
  go_ret
  exact⟨congrArg Ending.returned (congrArg Value.bool HV.out.symm),q,rfl⟩
 ·have HV:=ah (show hasB rs c=inB rs c by unfold hasB;rw[hr];rfl)
  go_enter Try.func57,Try.ntmps57
  go_wp2_with fail
  refine(ref_right w S A n cc rs h).mono ?_
  rintro e w1 ⟨he,q,rfl⟩
  rw[hr] at he
  subst he
  go_wp2_with fail
  refine(ref_in (w.drewN q) S A n cc rs (h.upd ((Upd.refl Nob w).drewN q) (fun _ _=>aj)) c hc).mono ?_
  rintro e w2 ⟨rfl,q2,rfl⟩
  go_wp2_with fail
  go_ret
  exact⟨congrArg Ending.returned (congrArg Value.bool HV.out.symm),by first | exact⟨_,rfl⟩ | exact fV _ _ _⟩
end Go.Proofs.Ytnkefclbchpafaa

/-
  heronref06's walker in memory: its row of nodes, what was begun, decided, ended, what was found.
-/
namespace Go.Proofs.Ytnkefclbchpafaa
open Go.RowKit
set_option linter.unusedVariables false
theorem ji {w:World} {base e size n:Nat} {v:Value} {xs:List Value} (h:w.ownsRow base e size v n xs) {b:Nat} (hb:v.ownBlock=some b):base≤b:=by
 rcases h.2 with⟨rfl,_⟩ | ⟨g,cap,cur,rfl,hg,_⟩
 ·simp[Value.ownBlock] at hb
 ·have:g=b:=by simpa [Value.ownBlock] using hb
  omega
structure Fx where
 wb:Nat
 tb:Nat
 tg:Nat
 lc:Nat
 TA:Option Addr
 tc:Nat
 bo:Nat
 bc:Nat
 dk:Nat
 dkc:Nat
 bgb:Nat→Nat
 dcb:Nat→Nat
 eb:Nat
 ec:Nat
 l:List PN
 xs:List Int
 at_:Nat
 base:Nat
def aD (x:PN) (RA:Option Addr) (rc:Nat) (SA:Option Addr) (sc:Nat):Array Value :=
 #[.int .i64 x.kind,.int .i64 x.asr,.int .i64 x.ix,.slice RA x.rs.length rc,.slice SA x.subs.length sc,.bool x.lz,.int .i64 x.up,.int .i64 x.nth]
def NodeAt (w:World) (S:Nat→Prop) (tg i:Nat) (x:PN):Prop :=
 ∃RA rc SA sc,(∀j v,(aD x RA rc SA sc)[j]?=some v→w.cell? ⟨tg,i*8+j,none⟩=some v)∧bO w S RA x.rs.length x.rs∧Reads w S 1 SA x.subs.length (bn (x.subs.map fun(s:Nat)=>(s:Int)))∧In64 x.asr∧In64 x.ix
structure Rd (F:Fx) (S:Nat→Prop) (w:World):Prop where
 tab:Cells w F.tb 96 #[.slice (some ⟨F.tg,0,none⟩) F.l.length F.lc]
 node:∀(i:Nat) (x:PN),F.l[i]?=some x→NodeAt w S F.tg i x
 bo:∀n,n < F.l.length→w.cell? ⟨F.bo,n,none⟩=some (.slice (some ⟨F.bgb n,0,none⟩) (F.xs.length+1) (F.xs.length+1))
 dk:∀n,n < F.l.length→w.cell? ⟨F.dk,n,none⟩=some (.slice (some ⟨F.dcb n,0,none⟩) (F.xs.length+1) (F.xs.length+1))
 text:dB w S F.TA F.xs.length F.xs
 stb:S F.tb
 stg:S F.tg
 sbo:S F.bo
 sdk:S F.dk
 lt:∀b,S b→b < w.heap.size
 base:F.base≤w.heap.size
 few:F.l.length≤100000
 short:F.xs.length≤64
theorem NodeAt.upd {G:Nat→Prop} {w w':World} {S:Nat→Prop} {tg i:Nat} {x:PN} (h:NodeAt w S tg i x) (hU:Upd G w w') (hG:∀b,S b→¬G b) (ht:S tg) (hl:tg < w.heap.size):NodeAt w' S tg i x:=by
 obtain⟨RA,rc,SA,sc,h1,h2,h3,h4⟩:=h
 exact⟨RA,rc,SA,sc,fun j v hv=>(hU.cell (p:=⟨tg,i*8+j,none⟩) hl (hG _ ht)).trans (h1 j v hv),h2.upd hU hG,h3.upd hU hG,h4⟩
theorem Rd.upd {F:Fx} {G S:Nat→Prop} {w w':World} (h:Rd F S w) (hU:Upd G w w') (hG:∀b,S b→¬G b):Rd F S w' :=
 ⟨h.tab.upd hU (hG _ h.stb),fun i x hx=>(h.node i x hx).upd hU hG h.stg (h.lt _ h.stg),fun n hn=>(hU.cell (p:=⟨F.bo,n,none⟩) (h.lt _ h.sbo) (hG _ h.sbo)).trans (h.bo n hn),
  fun n hn=>(hU.cell (p:=⟨F.dk,n,none⟩) (h.lt _ h.sdk) (hG _ h.sdk)).trans (h.dk n hn),h.text.upd hU hG,h.stb,h.stg,h.sbo,h.sdk,fun b hb=>Nat.lt_of_lt_of_le (h.lt b hb) hU.size,Nat.le_trans h.base hU.size,h.few,h.short⟩
def dQ (b:Nat→Bool) (n:Nat):Array Value:=((List.range n).map fun p=>Value.bool (b p)).toArray
theorem dM (b:Nat→Bool) {n p:Nat} (h:p < n):(dQ b n)[p]?=some (.bool (b p)):=by simp[dQ,h]
theorem rowC_set {b b':Nat→Bool} {n p:Nat} (hp:b' p=true) (h:∀q,q≠p→b' q=b q):(dQ b n).setIfInBounds p (.bool true)=dQ b' n:=by
 apply Array.ext_getElem?
 intro i
 rw[Array.getElem?_setIfInBounds]
 by_cases e:p=i
 ·subst e
  by_cases hn:p < n
  ·rw[dM b' hn,hp,if_pos rfl,if_pos (by simpa [dQ] using hn)]
  ·rw[if_pos rfl,if_neg (by simpa [dQ] using hn)]
   symm
   simp[dQ,hn]
 ·rw[if_neg e]
  by_cases hn:i < n
  ·rw[dM b hn,dM b' hn,h i (fun k=>e k.symm)]
  ·simp[dQ,hn]
def flatO:List (Nat × List Int)→List (Nat × Nat)→List Value
 | (p,c)::out,(g,k)::gs=>.int .i64 (p:Int)::.slice (some ⟨g,0,none⟩) c.length k::flatO out gs
 | _,_=>[]
theorem flatO_append:∀(out:List (Nat × List Int)) (gs:List (Nat × Nat)) (p:Nat) (c:List Int) (g k:Nat),gs.length=out.length→flatO (out++[(p,c)]) (gs++[(g,k)])=flatO out gs++[.int .i64 (p:Int),.slice (some ⟨g,0,none⟩) c.length k]
 | [],[],p,c,g,k,_=>rfl
 | (q,d)::out,(g',k')::gs,p,c,g,k,h=>by
  simp only[List.cons_append,flatO]
  rw[flatO_append out gs p c g k (by simpa using h)]
 | [],_::_,_,_,_,_,h=>by simp at h
 | _::_,[],_,_,_,_,h=>by simp at h
def OutR (w:World) (base:Nat) (OA:Option Addr) (oc:Nat) (out:List (Nat × List Int)):Prop :=
 ∃gs:List (Nat × Nat),gs.length=out.length∧w.ownsRow base 58 2 (.slice OA out.length oc) out.length (flatO out gs) ∧
  ∀(i p:Nat) (c:List Int) (g k:Nat),out[i]?=some (p,c)→gs[i]?=some (g,k)→w.ownsRow base 3 1 (.slice (some ⟨g,0,none⟩) c.length k) c.length (bn c)
def cntE (n:Nat) (e:Nat→Bool):Nat:=(List.range n).countP e
theorem cntE_mark {e:Nat→Bool} {p:Nat} (h:e p=false):∀ {n:Nat},p < n→cntE n (iq e p)=cntE n e+1
 | 0,hp=>by omega
 | n+1,hp=>by
  unfold cntE
  rw[List.range_succ,List.countP_append,List.countP_append]
  by_cases hn:p=n
  ·subst hn
   have e1:(List.range p).countP (iq e p)=(List.range p).countP e:=by
    refine List.countP_congr (fun q hq=>?_)
    have:¬q=p:=by have:=List.mem_range.1 hq;omega
    simp[iq,this]
   rw[e1]
   simp[iq,h]
  ·have:=cntE_mark h (n:=n) (by omega)
   unfold cntE at this
   rw[this]
   have:iq e p n=e n:=by simp[iq,show ¬n=p by omega]
   simp[this]
   omega
theorem cntE_le (n:Nat) (e:Nat→Bool):cntE n e≤n:=by
 unfold cntE
 have:=List.countP_le_length (p:=e) (l:=List.range n)
 simpa using this
structure WkR (F:Fx) (w:World) (s:WSt) (OA:Option Addr) (oc:Nat):Prop where
 wk:Cells w F.wb 100 #[.pointer (some ⟨F.tb,0,none⟩),.slice F.TA F.xs.length F.tc,.int .i64 (F.at_:Nat),.slice (some ⟨F.bo,0,none⟩) F.l.length F.bc,.slice (some ⟨F.dk,0,none⟩) F.l.length F.dkc,.slice (some ⟨F.eb,0,none⟩) (F.xs.length+1) F.ec,.slice OA s.out.length oc]
 bg:∀n,n < F.l.length→Cells w (F.bgb n) 4 (dQ (s.bg n) (F.xs.length+1))
 dc:∀n,n < F.l.length→Cells w (F.dcb n) 4 (dQ (s.dc n) (F.xs.length+1))
 en:Cells w F.eb 4 (dQ s.en (F.xs.length+1))
 out:OutR w F.base OA oc s.out
 cnt:s.out.length=cntE (F.xs.length+1) s.en
def MutF (F:Fx) (b:Nat):Prop:=b=F.wb∨b=F.eb∨(∃n,n < F.l.length∧b=F.bgb n)∨(∃n,n < F.l.length∧b=F.dcb n)
def Mut (F:Fx) (OA:Option Addr) (b:Nat):Prop:=MutF F b∨OA.map (·.block)=some b
structure Dis (F:Fx) (S:Nat→Prop):Prop where
 lt:∀b,MutF F b→b < F.base
 s:∀b,S b→b < F.base∧¬MutF F b
 bb:∀i j,i < F.l.length→j < F.l.length→F.bgb i=F.bgb j→i=j
 dd:∀i j,i < F.l.length→j < F.l.length→F.dcb i=F.dcb j→i=j
 bd:∀i j,i < F.l.length→j < F.l.length→F.bgb i≠F.dcb j
 be:∀i,i < F.l.length→F.bgb i≠F.eb
 de:∀i,i < F.l.length→F.dcb i≠F.eb
theorem OutR.lo {w:World} {base:Nat} {OA:Option Addr} {oc:Nat} {out:List (Nat × List Int)} (h:OutR w base OA oc out) {b:Nat} (hb:OA.map (·.block)=some b):base≤b∧b < w.heap.size:=by
 obtain⟨gs,-,ho,-⟩:=h
 have hb2:(Value.slice OA out.length oc).ownBlock=some b:=by cases OA <;> simp_all[Value.ownBlock]
 obtain⟨cur,hc,-⟩:=aK ho hb2
 exact⟨ji ho hb2,hc.lt⟩
theorem OutR.ne_ {w:World} {base:Nat} {OA:Option Addr} {oc:Nat} {out:List (Nat × List Int)} (h:OutR w base OA oc out) {b:Nat} {t:TypeId} {cs:Array Value} (hc:Cells w b t cs) (ht : 58≠t):¬OA.map (·.block)=some b:=fun hb=>by
 obtain⟨gs,-,ho,-⟩:=h
 have hb2:(Value.slice OA out.length oc).ownBlock=some b:=by cases OA <;> simp_all[Value.ownBlock]
 exact own_ne ho hc ht hb2
theorem OutR.upd {G:Nat→Prop} {w w':World} {base:Nat} {OA:Option Addr} {oc:Nat} {out:List (Nat × List Int)} (h:OutR w base OA oc out) (hU:Upd G w w') (hG:∀b,base≤b→¬G b):OutR w' base OA oc out:=by
 obtain⟨gs,h1,h2,h3⟩:=h
 exact⟨gs,h1,aJ h2 hU (fun b hb=>hG b (ji h2 hb)),fun i p c g k hi hg=>aJ (h3 i p c g k hi hg) hU (fun b hb=>hG b (ji (h3 i p c g k hi hg) hb))⟩
theorem Rd.mut {F:Fx} {S:Nat→Prop} {w w':World} {OA:Option Addr} (h:Rd F S w) (hd:Dis F S) (hlo:∀b,OA.map (·.block)=some b→F.base≤b) (hU:Upd (Mut F OA) w w'):Rd F S w' :=
 h.upd hU (fun b hb hm=>by
  have:=hd.s b hb
  rcases hm with hm | hm
  ·exact this.2 hm
  ·have:=hlo b hm;omega)
def CapW (w:World) (F:Fx) (OA CA:Option Addr) (c:List Int):Prop:=Reads w (fun b=>¬MutF F b∧¬OA.map (·.block)=some b) 1 CA c.length (bn c)
structure Nx (F:Fx) (w:World) (s':WSt) (OA:Option Addr) (w':World) (OA':Option Addr) (oc':Nat):Prop where
 wk:WkR F w' s' OA' oc'
 upd:Upd (Mut F OA) w w'
 new:OA'.map (·.block)=OA.map (·.block)∨∀b,OA'.map (·.block)=some b→w.heap.size≤b
def Ans (F:Fx) (w:World) (s':WSt) (OA:Option Addr) (e:Ending) (w':World):Prop:=e=.returned (.tuple #[])∧∃OA' oc',Nx F w s' OA w' OA' oc'
theorem CapW.nx {F:Fx} {w w':World} {s':WSt} {OA OA' CA:Option Addr} {oc':Nat} {c:List Int} (h:CapW w F OA CA c) (hn:Nx F w s' OA w' OA' oc'):CapW w' F OA' CA c:=by
 have h2:=Reads.upd h hn.upd (fun b hb hm=>by rcases hm with hm | hm;exact hb.1 hm;exact hb.2 hm)
 refine⟨h2.1,fun hl=>?_⟩
 obtain⟨ad,e,hb,hs,-⟩:=h.2 hl
 obtain⟨ad',e',hb',hs',hc'⟩:=h2.2 hl
 rw[e] at e'
 injection e' with e'
 subst e'
 refine⟨ad,e,hb',⟨hs.1,fun ho=>?_⟩,hc'⟩
 rcases hn.new with h3 | h3
 ·exact hs.2 (by rw[←h3];exact ho)
 ·have:=h3 _ ho;omega
theorem Nx.trans {F:Fx} {w w1 w2:World} {s1 s2:WSt} {OA O1 O2:Option Addr} {c1 c2:Nat} (h:Nx F w s1 OA w1 O1 c1) (g:Nx F w1 s2 O1 w2 O2 c2):Nx F w s2 OA w2 O2 c2:=by
 refine⟨g.wk,h.upd.trans g.upd (fun k hk hm=>?_),?_⟩
 ·rcases hm with hm | hm
  ·exact .inl hm
  ·rcases h.new with h3 | h3
   ·exact .inr (by rw[←h3];exact hm)
   ·have:=h3 k hm;omega
 ·rcases g.new with g3 | g3
  ·rcases h.new with h3 | h3
   ·exact .inl (g3.trans h3)
   ·exact .inr (fun b hb=>h3 b (by rw[←g3];exact hb))
  ·exact .inr (fun b hb=>Nat.le_trans h.upd.size (g3 b hb))
theorem WkR.upd {F:Fx} {w w':World} {s:WSt} {OA:Option Addr} {oc:Nat} (h:WkR F w s OA oc) (hU:Upd Nob w w'):WkR F w' s OA oc :=
 ⟨h.wk.upd hU aj,fun n hn=>(h.bg n hn).upd hU aj,fun n hn=>(h.dc n hn).upd hU aj,h.en.upd hU aj,h.out.upd hU (fun _ _=>aj),h.cnt⟩
theorem Nx.aM {F:Fx} {w w':World} {s:WSt} {OA:Option Addr} {oc:Nat} (h:WkR F w s OA oc) (hU:Upd Nob w w'):Nx F w s OA w' OA oc:=⟨h.upd hU,hU.mono (fun _ _ h=>absurd h aj),.inl rfl⟩
end Go.Proofs.Ytnkefclbchpafaa

/-
  heronref06's row of nodes while it grows, in memory.
-/
namespace Go.Proofs.Ytnkefclbchpafaa
open Go.RowKit
set_option linter.unusedVariables false
abbrev Q4:=(Option Addr × Nat) × (Option Addr × Nat)
def ndL (x:PN) (q:Q4):List Value:=[.int .i64 x.kind,.int .i64 x.asr,.int .i64 x.ix,.slice q.1.1 x.rs.length q.1.2,.slice q.2.1 x.subs.length q.2.2,.bool x.lz,.int .i64 x.up,.int .i64 x.nth]
def iN:List PN→List Q4→List Value
 | x::l,q::qs=>ndL x q++iN l qs
 | _,_=>[]
theorem ndL_len (x:PN) (q:Q4):(ndL x q).length=8:=rfl
theorem flatN_len:∀(l:List PN) (qs:List Q4),qs.length=l.length→(iN l qs).length=l.length*8
 | [],[],_=>rfl
 | x::l,q::qs,h=>by
  simp only[iN,List.length_append,ndL_len,List.length_cons]
  rw[flatN_len l qs (by simpa using h)]
  omega
 | [],_::_,h=>by simp at h
 | _::_,[],h=>by simp at h
theorem flatN_append:∀(l:List PN) (qs:List Q4) (x:PN) (q:Q4),qs.length=l.length→iN (l++[x]) (qs++[q])=iN l qs++ndL x q
 | [],[],x,q,_=>by simp[iN]
 | y::l,r::qs,x,q,h=>by
  simp only[List.cons_append,iN]
  rw[flatN_append l qs x q (by simpa using h),List.append_assoc]
 | [],_::_,_,_,h=>by simp at h
 | _::_,[],_,_,h=>by simp at h
theorem flatN_at:∀(l:List PN) (qs:List Q4) (i:Nat) (x:PN) (q:Q4),l[i]?=some x→qs[i]?=some q→∀j,j < 8→(iN l qs)[i*8+j]?=(ndL x q)[j]?
 | x::l,q::qs,0,y,r,hx,hq,j,hj=>by
  simp at hx hq
  subst hx hq
  simp only[iN,Nat.zero_mul,Nat.zero_add]
  rw[List.getElem?_append_left (by rw[ndL_len];exact hj)]
 | x::l,q::qs,i+1,y,r,hx,hq,j,hj=>by
  simp only[List.getElem?_cons_succ] at hx hq
  simp only[iN]
  rw[List.getElem?_append_right (by rw[ndL_len];omega),ndL_len,←flatN_at l qs i y r hx hq j hj]
  congr 1
  omega
 | [],_,_,_,_,h,_,_,_=>by simp at h
 | _::_,[],_,_,_,_,h,_,_=>by simp at h
theorem flatN_link:∀(l:List PN) (qs:List Q4) (s n k:Nat),qs.length=l.length→s < l.length→iN (fK l s n k) qs=((iN l qs).set (s*8+6) (.int .i64 (n:Int))).set (s*8+7) (.int .i64 (k:Int))
 | x::l,q::qs,0,n,k,h,_=>rfl
 | x::l,q::qs,s+1,n,k,h,hs=>by
  have e:fK (x::l) (s+1) n k=x::fK l s n k:=rfl
  rw[e]
  simp only[iN]
  rw[flatN_link l qs s n k (by simpa using h) (by simpa using hs)]
  rw[List.set_append_right _ _ (by rw[ndL_len];omega),List.set_append_right _ _ (by rw[ndL_len];omega),ndL_len]
  congr 2
  ·congr 1
   omega
  ·omega
 | [],_,_,_,_,_,h=>by simp at h
 | _::_,[],_,_,_,h,_=>by simp at h
theorem own_set {w:World} {base e size g n c:Nat} {xs:List Value} (h:w.ownsRow base e size (.slice (some ⟨g,0,none⟩) n c) n xs) (i:Nat) (v:Value) (hi:i < n*size):(w.setCell ⟨g,i,none⟩ v).ownsRow base e size (.slice (some ⟨g,0,none⟩) n c) n (xs.set i v):=by
 refine⟨by rw[List.length_set];exact h.1,?_⟩
 rcases h.2 with⟨hv,h0⟩ | ⟨g',cap,cur,hv,hb,hg,hnc,hcm,hcs,ht⟩
 ·subst h0;omega
 ·injection hv with a b cc
  injection a with a
  injection a with a1 a2 a3
  subst a1 cc
  have hc:Cells w g e cur:=hg
  refine .inr ⟨g,c,cur.setIfInBounds i v,rfl,hb,hc.aW i v,hnc,hcm,by simp[hcs],?_⟩
  rw[←ht]
  apply List.ext_getElem?
  intro j
  simp only[List.getElem?_take,Array.getElem?_toList,Array.getElem?_setIfInBounds,List.getElem?_set,List.length_take,Array.length_toList]
  by_cases hj:j < n*size
  ·simp only[if_pos hj]
   by_cases e:i=j
   ·subst e
    have:i < cur.size:=by
     have:=Nat.mul_le_mul_right size hnc
     omega
    simp[this]
    omega
   ·simp[e]
  ·simp only[if_neg hj]
   have e:¬i=j:=by omega
   simp[e]
def jk (w:World) (base:Nat) (S:Nat→Prop) (x:PN) (q:Q4):Prop :=
 bO w S q.1.1 x.rs.length x.rs∧w.ownsRow base 3 1 (.slice q.2.1 x.subs.length q.2.2) x.subs.length (bn (x.subs.map fun(s:Nat)=>(s:Int)))∧In64 x.asr∧In64 x.ix
structure dZ (w:World) (base tb:Nat) (S D:Nat→Prop) (l:List PN) (TA:Option Addr) (tc:Nat):Prop where
 tab:Cells w tb 96 #[.slice TA l.length tc]
 lo:base≤tb
 s:∀b,S b→b < base
 row:∃qs:List Q4,qs.length=l.length∧w.ownsRow base 119 8 (.slice TA l.length tc) l.length (iN l qs)∧∀(i:Nat) (x:PN) (q:Q4),l[i]?=some x→qs[i]?=some q→jk w base S x q∧∀b,(Value.slice q.2.1 x.subs.length q.2.2).ownBlock=some b→¬D b
 d:∀b,D b→b < w.heap.size
def TabF (tb:Nat) (TA:Option Addr) (b:Nat):Prop:=b=tb∨TA.map (·.block)=some b
theorem aN {TA:Option Addr} {n c b:Nat}:(Value.slice TA n c).ownBlock=some b↔TA.map (·.block)=some b:=by cases TA <;> simp[Value.ownBlock]
theorem jk.upd {F:Nat→Prop} {w w':World} {base:Nat} {S:Nat→Prop} {x:PN} {q:Q4} (h:jk w base S x q) (hU:Upd F w w') (hS:∀b,S b→¬F b) (hF:∀b,(Value.slice q.2.1 x.subs.length q.2.2).ownBlock=some b→¬F b):jk w' base S x q :=
 ⟨h.1.upd hU hS,aJ h.2.1 hU hF,h.2.2⟩
theorem dZ.size {w:World} {base tb:Nat} {S D:Nat→Prop} {l:List PN} {TA:Option Addr} {tc:Nat} (h:dZ w base tb S D l TA tc):tb < w.heap.size:=h.tab.lt
theorem dZ.ints {w:World} {base tb:Nat} {S D:Nat→Prop} {l:List PN} {TA:Option Addr} {tc:Nat} (h:dZ w base tb S D l TA tc) {b0 n:Nat} {v:Value} {xs:List Value} (hv:w.ownsRow b0 3 1 v n xs):∀b,v.ownBlock=some b→¬TabF tb TA b:=fun b hb hf=>by
 rcases hf with rfl | hf
 ·exact own_ne hv h.tab (by decide) hb
 ·obtain⟨qs,-,ho,-⟩:=h.row
  obtain⟨cur,hc,-⟩:=aK ho (aN.2 hf)
  exact own_ne hv hc (by decide) hb
theorem dZ.gQ {w:World} {base tb:Nat} {S D:Nat→Prop} {l:List PN} {TA:Option Addr} {tc:Nat} (h:dZ w base tb S D l TA tc):∀b,TA.map (·.block)=some b→base≤b∧b < w.heap.size:=fun b hb=>by
 obtain⟨qs,-,ho,-⟩:=h.row
 obtain⟨cur,hc,-⟩:=aK ho (aN.2 hb)
 exact⟨ji ho (aN.2 hb),hc.lt⟩
theorem dZ.notF {w:World} {base tb:Nat} {S D:Nat→Prop} {l:List PN} {TA:Option Addr} {tc:Nat} (h:dZ w base tb S D l TA tc):∀b,S b→¬TabF tb TA b:=fun b hb hf=>by
 have:=h.s b hb
 have:=h.lo
 rcases hf with rfl | hf
 ·omega
 ·have:=h.gQ b hf;omega
theorem dZ.upd {w w':World} {base tb:Nat} {S D:Nat→Prop} {l:List PN} {TA:Option Addr} {tc:Nat} (h:dZ w base tb S D l TA tc) (hU:Upd Nob w w'):dZ w' base tb S D l TA tc:=by
 obtain⟨qs,h1,h2,h3⟩:=h.row
 exact⟨h.tab.upd hU aj,h.lo,h.s,⟨qs,h1,aJ h2 hU (fun _ _=>aj),fun i x q hx hq=>⟨(h3 i x q hx hq).1.upd hU (fun _ _=>aj) (fun _ _=>aj),(h3 i x q hx hq).2⟩⟩,fun b hb=>Nat.lt_of_lt_of_le (h.d b hb) hU.size⟩
structure TNx (base tb:Nat) (S D:Nat→Prop) (w:World) (TA:Option Addr) (l':List PN) (w':World) (TA':Option Addr) (tc':Nat):Prop where
 tab:dZ w' base tb S D l' TA' tc'
 upd:Upd (TabF tb TA) w w'
 new:TA'.map (·.block)=TA.map (·.block)∨∀b,TA'.map (·.block)=some b→w.heap.size≤b
def TAns (base tb:Nat) (S D:Nat→Prop) (w:World) (TA:Option Addr) (r:List PN × Nat) (e:Ending) (w':World):Prop:=e=.returned (.int .i64 (r.2:Int))∧∃TA' tc',TNx base tb S D w TA r.1 w' TA' tc'
theorem TNx.trans {base tb:Nat} {S D1 D:Nat→Prop} {w w1 w2:World} {TA T1 T2:Option Addr} {c1 c2:Nat} {l1 l2:List PN} (h:TNx base tb S D1 w TA l1 w1 T1 c1) (g:TNx base tb S D w1 T1 l2 w2 T2 c2) (htb:tb < w.heap.size):TNx base tb S D w TA l2 w2 T2 c2:=by
 refine⟨g.tab,h.upd.trans g.upd (fun k hk hm=>?_),?_⟩
 ·rcases hm with hm | hm
  ·exact .inl hm
  ·rcases h.new with h3 | h3
   ·exact .inr (by rw[←h3];exact hm)
   ·have:=h3 k hm;omega
 ·rcases g.new with g3 | g3
  ·rcases h.new with h3 | h3
   ·exact .inl (g3.trans h3)
   ·exact .inr (fun b hb=>h3 b (by rw[←g3];exact hb))
  ·exact .inr (fun b hb=>Nat.le_trans h.upd.size (g3 b hb))
theorem TNx.aM {base tb:Nat} {S D:Nat→Prop} {w w':World} {l:List PN} {TA:Option Addr} {tc:Nat} (h:dZ w base tb S D l TA tc) (hU:Upd Nob w w'):TNx base tb S D w TA l w' TA tc:=⟨h.upd hU,hU.mono (fun _ _ h=>absurd h aj),.inl rfl⟩
theorem dZ.weakD {w:World} {base tb:Nat} {S D D':Nat→Prop} {l:List PN} {TA:Option Addr} {tc:Nat} (h:dZ w base tb S D l TA tc) (hd:∀b,D' b→D b):dZ w base tb S D' l TA tc:=by
 obtain⟨qs,h1,h2,h3⟩:=h.row
 exact⟨h.tab,h.lo,h.s,⟨qs,h1,h2,fun i x q hx hq=>⟨(h3 i x q hx hq).1,fun b hb hd'=>(h3 i x q hx hq).2 b hb (hd b hd')⟩⟩,fun b hb=>h.d b (hd b hb)⟩
theorem TNx.weakD {base tb:Nat} {S D D':Nat→Prop} {w w':World} {TA TA':Option Addr} {tc':Nat} {l':List PN} (h:TNx base tb S D w TA l' w' TA' tc') (hd:∀b,D' b→D b):TNx base tb S D' w TA l' w' TA' tc':=⟨h.tab.weakD hd,h.upd,h.new⟩
theorem dZ.grow {w w':World} {base tb:Nat} {S D D':Nat→Prop} {l:List PN} {TA:Option Addr} {tc n:Nat} {v:Value} {xs:List Value} (h:dZ w base tb S D l TA tc) (hv:w.ownsRow base 3 1 v n xs) (hD:∀b,v.ownBlock=some b→D b) (hU:Upd (fun b=>v.ownBlock=some b) w w') (hd:∀b,D' b→(D b∨w.heap.size≤b)∧b < w'.heap.size):dZ w' base tb S D' l TA tc:=by
 obtain⟨qs,h1,h2,h3⟩:=h.row
 refine⟨h.tab.upd hU (fun e=>own_ne hv h.tab (by decide) e),h.lo,h.s,⟨qs,h1,aJ h2 hU (fun b hb hv2=>?_),fun i x q hx hq=>?_⟩,fun b hb=>(hd b hb).2⟩
 ·obtain⟨cur,hc,-⟩:=aK h2 hb
  exact own_ne hv hc (by decide) hv2
 ·obtain⟨k1,k2⟩:=h3 i x q hx hq
  refine⟨k1.upd hU (fun b hs hv2=>?_) (fun b hb hv2=>k2 b hb (hD b hv2)),fun b hb hd'=>?_⟩
  ·have:=h.s b hs
   have:=ji hv hv2
   omega
  ·rcases(hd b hd').1 with e | e
   ·exact k2 b hb e
   ·obtain⟨cur,hc,-⟩:=aK k1.2.1 hb
    have:=hc.lt
    omega
theorem dZ.fresh {w w':World} {base tb:Nat} {S D D':Nat→Prop} {l:List PN} {TA:Option Addr} {tc:Nat} (h:dZ w base tb S D l TA tc) (hU:Upd Nob w w') (hd:∀b,D' b→(D b∨w.heap.size≤b)∧b < w'.heap.size):dZ w' base tb S D' l TA tc :=
 h.grow (v:=.slice none 0 0) (n:=0) (xs:=[]) (World.ownsRow_nil _ _ _ _) (fun b hb=>by cases hb) (hU.mono (fun _ _ h=>absurd h aj)) hd
theorem TNx.grow {base tb:Nat} {S D1 D:Nat→Prop} {w w1 w2:World} {l:List PN} {TA T1:Option Addr} {c1:Nat} {g1:Nat} (h:TNx base tb S D1 w TA l w1 T1 c1) (ht:dZ w2 base tb S D l T1 c1) (hg:w.heap.size≤g1) (hU:Upd (fun b=>b=g1) w1 w2):TNx base tb S D w TA l w2 T1 c1 :=
 ⟨ht,h.upd.trans hU (fun b hb e=>by omega),h.new⟩
theorem TNx.own {base tb:Nat} {S D0 D:Nat→Prop} {w w':World} {l l':List PN} {TA TA':Option Addr} {tc tc' b0 n:Nat} {v:Value} {xs:List Value} (ht:dZ w base tb S D0 l TA tc) (h:TNx base tb S D w TA l' w' TA' tc') (hv:w.ownsRow b0 3 1 v n xs):w'.ownsRow b0 3 1 v n xs:=aJ hv h.upd (ht.ints hv)
end Go.Proofs.Ytnkefclbchpafaa
