/-
  PlD, PlE, Ly, put together.
-/
import Derived.Test.YtnkefclbchpafaaZ12Plc

/-
  A row of nodes laid into a program: it stands for it. Plain.
-/
namespace Go.Proofs.Ytnkefclbchpafaa
set_option linter.unusedVariables false
section
variable {S : Sm} {l : List PN} {is : List av}
theorem Rep.kind_alt {us:List UT} {n:Nat} (h:Rep l (.alt us) n):∃x,l[n]?=some x∧x.kind=5∧dW l us n 0 x.subs:=by
 cases h with
 | alt _ x _ h1 h2 h3=>exact⟨x,h1,h2,h3⟩
structure LdOk (S:Sm) (l:List PN) (is:List av) (u:UT) (s n:Nat) (ws:List UT):Prop where
 rep:Rep l (.alt ws) n
 des:Des l s n
 fr:∀p,∃h,FR l (.B s p) (.B n p,id) h
 cf:∀e,CF S l is (.H s) e→CF S l is (.H n) e
 low:∀i,Des l s i→Des l n i∨∃x,l[i]?=some x∧(x.kind=1∨x.kind=4)
 size:SizeOf.sizeOf ws < SizeOf.sizeOf u
theorem ld_ok {u:UT} {s n:Nat} {ws:List UT} (h:Ld l u s n ws):Rep l u s→LdOk S l is u s n ws:=by
 induction h with
 | here us s =>
  intro hr
  obtain⟨x,h1,h2,h3⟩:=hr.kind_alt
  exact⟨hr,.here s,fun p=>⟨1,FR.now (st_x h1 (.inr (.inr (.inl h2))))⟩,fun e h=>h,fun i h=>.inl h,by simp⟩
 | cat us s x k u v n ws h1 h2 h3 h4 _ ih =>
  intro hr
  cases hr with
  | cat _ x' _ g1 g2 g0 g3 =>
  rw[h1] at g1
  injection g1 with g1
  subst g1
  obtain⟨w,y,e1,e2,e3,e4,e5⟩:=jO g3 h3
  rw[h2] at e1
  injection e1 with e1
  subst e1
  have o:=ih e2
  have hul:=List.mem_of_getElem? h2
  have pass:∀(p:Nat) (v':AS × CpF) (i s':Nat),i≠k→x.subs[i]?=some s'→∀h,FR l (.H s' p) v' h→∃h',FR l (.B s' p) v' h':=fun p v' i s' hik hs' h hh=>by
   obtain⟨w',x',f1,f2,-⟩:=jO g3 hs'
   exact eps_pass p _ w' s' (Nat.le_refl _) f2 (h4 i w' hik f1) v' h hh
  have hkl:=(List.getElem?_eq_some_iff.1 h3).1
  obtain⟨s0,r,e0⟩:=List.exists_cons_of_ne_nil g0
  have hs0:x.subs[0]?=some s0:=by rw[e0];rfl
  have es:aR x=s0:=by simp[aR,e0]
  refine⟨o.rep,.sub s x v n h1 (by omega) (List.mem_of_getElem? h3) o.des,fun p=>?_,fun e hc=>o.cf e (fun p=>?_),fun i hi=>?_,?_⟩
  ·obtain⟨h5,g5⟩:=o.fr p
   obtain⟨h6,g6⟩:=ahead_ h1 g2 g3 h3 g5 k 0 s0 (by omega) hs0 (fun i s' hi=>pass p _ i s' (by omega))
   exact⟨h6+1,fr_to (st_4 h1 (.inl g2)) (by rw[es];exact g6)⟩
  ·obtain⟨z,f,hh,g,j,q1,q2⟩:=hc p
   have q1:FR l (.H s p) (z,f) hh:=q1
   obtain⟨h6,g6⟩:=suffix h1 g2 g3 q1 (x.subs.length - 1 - k) k v (by omega) h3 (fun i s' hi=>pass p _ i s' (by omega))
   exact⟨z,f,h6,g,j,g6,q2⟩
  ·cases hi with
   | here=>exact .inr ⟨x,h1,.inr g2⟩
   | sub _ x' s' _ q1 q0 q2 q3 =>
    rw[h1] at q1
    injection q1 with q1
    subst q1
    obtain⟨j,hj⟩:=List.mem_iff_getElem?.1 q2
    by_cases ejk:j=k
    ·subst ejk
     rw[h3] at hj
     injection hj with hj
     subst hj
     exact o.low i q3
    ·obtain⟨w',x',f1,f2,-⟩:=jO g3 hj
     exact .inr (eps_des _ w' s' (Nat.le_refl _) f2 (h4 j w' ejk f1) i q3)
  ·have:=o.size
   have:=mem_size hul
   omega
structure Fct (S:Sm) (l:List PN) (is:List av) (n:Nat):Prop where
 k2:∀x,l[n]?=some x→x.kind=2→S.own (S.kb n)=some (.nB n)∧S.hd n=n∧∃y:av,is[S.kb n]?=some y∧((y.op=1∧y.rs=x.rs∧CF S l is (.H n) y.x.toNat)∨(y.op=6∧x.rs=[]))
 k3:∀x,l[n]?=some x→x.kind=3→S.own (S.kb n)=some (.nB n)∧S.hd n=n∧∃y:av,is[S.kb n]?=some y∧y.op=4∧y.arg=x.asr∧CF S l is (.H n) y.x.toNat
 kq:∀x,l[n]?=some x→x.kind=103→S.own (S.kb n)=some (.nB n)∧S.hd n=n∧Lp S l is n x (S.kb n)
 kl:∀x,l[n]?=some x→x.kind=101∨x.kind=102→S.own (S.kd n)=some (.nD n)∧Lp S l is n x (S.kd n)
 k5:∀x,l[n]?=some x→x.kind=5→S.hd n=n→S.own (S.kb n)=some (.ch n)∧Ch S l is n n x.subs (S.kb n) none∧2≤x.subs.length
theorem Fct.other {n:Nat} {x:PN} (hx:l[n]?=some x) (hk:x.kind=1∨x.kind=4∨x.kind=7):Fct S l is n:=by
 refine⟨fun y h=>?_,fun y h=>?_,fun y h=>?_,fun y h=>?_,fun y h=>?_⟩ <;> (rw[hx] at h;injection h with h;subst h;omega)
structure Rt0 (S:Sm) (l:List PN) (root:Nat):Prop where
 va:∀i x,Des l root i→l[i]?=some x→x.kind=2∨x.kind=3∨x.kind=5∨x.kind=103→S.va i
 vd:∀i x,Des l root i→l[i]?=some x→x.kind=101∨x.kind=102→S.vd i
theorem cf_core {n b:Nat} (hk:∀p h,frF l (h+1) (.B n p)=some (.B n p,id)) (hv:S.va n) (hh:S.hd n=n) (hb:S.kb n=b) (ho:S.own b≠none):CF S l is (.B n) b:=fun p =>
 ⟨.B n p,id,1,fun _=>id,0,FR.now (hk p),hv,fun h=>h hh,rfl,by subst hb;exact .nil _ ho,rfl⟩
theorem one_sub {u:UT} {n:Nat} {x:PN} (h:dW l [u] n 0 x.subs):x.subs=[aR x]∧Rep l u (aR x)∧∃y,l[aR x]?=some y∧y.up=(n:Int):=by
 obtain⟨s,y,e,g1,g2,g3,g4⟩:=h.one
 have es:aR x=s:=by simp[aR,e]
 rw[es]
 exact⟨e,g1,y,g2,g3⟩
section
variable {root : Nat} (r0 : Rt0 S l root)
include r0
mutual
theorem pl_cf:∀(u:UT) (n b e:Nat),Pl S l is u n b e→Rep l u n→Des l root n→CF S l is (.H n) e→CF S l is (.B n) b
 | .eps,n,b,e,h,hr,hd,hc=>by
  cases h
  cases hr with
  | eps _ x h1 h2=>exact jf (k:=.B n) (k':=.H n) (fun p=>st_1 h1 h2) hc
 | .cls rs,n,b,e,h,hr,hd,hc=>by
  cases h with
  | cls _ _ _ y h1 h2 h3 =>
  cases hr with
  | cls _ x g1 g2=>exact cf_core (fun p=>st_x g1 (.inl g2)) (r0.va n x hd g1 (.inl g2)) h3 h2 (by rw[h1];simp)
 | .asr a,n,b,e,h,hr,hd,hc=>by
  cases h with
  | asr _ _ _ y h1 h2 h3 =>
  cases hr with
  | asr _ x g1 g2=>exact cf_core (fun p=>st_x g1 (.inr (.inl g2))) (r0.va n x hd g1 (.inr (.inl g2))) h3 h2 (by rw[h1];simp)
 | .cat us,n,b,e,h,hr,hd,hc=>by
  cases h with
  | cat _ _ _ _ x h1 h2 =>
  cases hr with
  | cat _ x' _ g1 g2 g0 g3 =>
  rw[h1] at g1
  injection g1 with g1
  subst g1
  obtain⟨s0,r,e0⟩:=List.exists_cons_of_ne_nil g0
  have es:aR x=s0:=by simp[aR,e0]
  have:=plC_cf us n x 0 x.subs b e h2 h1 g2 rfl g3 hd hc s0 (by rw[e0];rfl)
  refine jf (k:=.B n) (k':=.B s0) (fun p=>?_) this
  have:=st_4 (p:=p) h1 (.inl g2)
  rw[es] at this
  exact this
 | .alt us,n,b,e,h,hr,hd,hc=>by
  cases h with
  | alt _ _ _ _ x h1 h2 h3 h4 =>
  obtain⟨x',g1,g2,g3⟩:=hr.kind_alt
  exact cf_core (fun p=>st_x g1 (.inr (.inr (.inl g2)))) (r0.va n x' hd g1 (.inr (.inr (.inl g2)))) h4 h3 (by rw[h2];simp)
 | .grp ix u,n,b,e,h,hr,hd,hc=>by
  cases h with
  | grp _ _ m _ _ x y z h1 h2 h3 h4 h5 h6 h7 h8 h9 h10 h11 h12 =>
  cases hr with
  | grp _ x' _ g1 g2 g3 =>
  rw[h1] at g1
  injection g1 with g1
  subst g1
  obtain⟨q1,q2,w,q3,q4⟩:=one_sub g3
  have hce:CF S l is (.H (aR x)) m:=cf_cap (k:=.H (aR x)) (k':=.H n) (fun p=>st_h7 q3 q4 h1 g2) h8 h9 h10 h11 h12 hc
  have hcb:=pl_cf u (aR x) (b+1) m h7 q2 (hd.trans (.sub n x _ _ h1 (by omega) (by rw[q1];simp) (.here _))) hce
  exact cf_cap (k:=.B n) (k':=.B (aR x)) (fun p=>st_7 h1 g2) h2 h3 h4 h5 h6 hcb
 | .star u lz,n,b,e,h,hr,hd,hc=>by
  cases h with
  | star _ _ m _ _ x y z h1 h2 h3 =>
  cases hr with
  | star _ x' _ g1 g2 g3 =>
   exact fun p=>⟨.D n p,id,1,fun _=>id,0,FR.now (st_s g1 g2),r0.vd n x' hd g1 (.inl g2),fun h=>h,rfl,by
    have:pcA S (.D n p)=b:=h3
    rw[this]
    exact .nil b (by rw[h2];simp),rfl⟩
 | .plus u lz,n,b,e,h,hr,hd,hc=>by
  cases h with
  | plus _ _ m _ _ x y h1 h2 h3 h4 h5 h6 h7 h8 =>
  cases hr with
  | plus _ x' _ g1 g2 g3 =>
  rw[h1] at g1
  injection g1 with g1
  subst g1
  obtain⟨q1,q2,w,q3,q4⟩:=one_sub g3
  have hce:CF S l is (.H (aR x)) m:=fun p=>⟨.D n p,id,1,fun _=>id,0,FR.now (st_hl q3 q4 h1 (.inr g2)),r0.vd n x hd h1 (.inr g2),fun h=>h,rfl,by
   have:pcA S (.D n p)=m:=h4
   rw[this]
   exact .nil m (by rw[h3];simp),rfl⟩
  have hcb:=pl_cf u (aR x) b m h2 q2 (hd.trans (.sub n x _ _ h1 (by omega) (by rw[q1];simp) (.here _))) hce
  exact jf (k:=.B n) (k':=.B (aR x)) (fun p=>st_4 h1 (.inr g2)) hcb
 | .quest u lz,n,b,e,h,hr,hd,hc=>by
  cases h with
  | quest _ _ _ _ _ x y h1 h2 h3 h4 =>
  cases hr with
  | quest _ x' _ g1 g2 g3=>exact cf_core (fun p=>st_x g1 (.inr (.inr (.inr g2)))) (r0.va n x' hd g1 (.inr (.inr (.inr g2)))) h4 h3 (by rw[h2];simp)
theorem plC_cf:∀(us:List UT) (m:Nat) (y:PN) (k:Nat) (ss:List Nat) (b e:Nat),PlC S l is us ss b e→l[m]?=some y→y.kind=4→y.subs.drop k=ss→dW l us m k ss→Des l root m→CF S l is (.H m) e→∀s,ss[0]?=some s→CF S l is (.B s) b
 | [],m,y,k,ss,b,e,h,_,_,_,hr,_,_,s,hs=>by
  have _r:=r0
  rw[hr.none] at hs
  simp at hs
 | u::us,m,y,k,ss,b,e,h,hm,h4,hdr,hr,hd,hc,s,hs=>by
  cases hr with
  | cons _ _ _ _ s' ss' x h1 h2 h3 h5 h6 =>
  cases h with
  | cons _ _ _ _ _ q _ k1 k2 =>
  simp at hs
  subst hs
  have en:x.nth.toNat=k:=by omega
  have hmem:s'∈y.subs:=by
   have:s'∈y.subs.drop k:=by rw[hdr];simp
   exact List.mem_of_mem_drop this
  have hd1:y.subs.drop (k+1)=ss':=by rw[show k+1=1+k by omega,Nat.add_comm,←List.drop_drop,hdr];rfl
  refine pl_cf u s' b q k1 h1 (hd.trans (.sub m y _ _ hm (by omega) hmem (.here _))) ?_
  by_cases hlt:k+1 < y.subs.length
  ·have hg:ss'[0]?=some (y.subs.getD (k+1) 0):=by
    rw[←hd1,List.getElem?_drop]
    simp[List.getD_eq_getElem?_getD,List.getElem?_eq_getElem hlt]
   have:=plC_cf us m y (k+1) ss' q e k2 hm h4 hd1 h6 hd hc _ hg
   refine jf (k:=.H s') (k':=.B (y.subs.getD (k+1) 0)) (fun p=>?_) this
   have:=st_h4 (p:=p) h2 h3 hm h4 (by rw[en];exact hlt)
   rw[en] at this
   exact this
  ·have e1:ss'=[]:=by rw[←hd1];exact List.drop_eq_nil_of_le (by omega)
   subst e1
   have e2:us=[]:=by have:=h6.len;simpa using this
   subst e2
   cases k2
   exact jf (k:=.H s') (k':=.H m) (fun p=>st_h4e h2 h3 hm h4 (by rw[en];exact hlt)) hc
end
end
end
end Go.Proofs.Ytnkefclbchpafaa

/-
  A row of nodes laid into a program: the facts of every core below. Plain.
-/
namespace Go.Proofs.Ytnkefclbchpafaa
set_option linter.unusedVariables false
section
variable {S : Sm} {l : List PN} {is : List av} {root : Nat} (r0 : Rt0 S l root)
theorem des_leaf {n:Nat} {x:PN} (hx:l[n]?=some x) (hk:x.kind≤3) {i:Nat} (hd:Des l n i):i=n:=by
 cases hd with
 | here=>rfl
 | sub _ x' s _ g1 g0 g2 g3 =>
  rw[hx] at g1
  injection g1 with g1
  subst g1
  omega
theorem des_one {n:Nat} {x:PN} (hx:l[n]?=some x) {i:Nat} (hd:Des l n i):i=n∨∃s∈x.subs,Des l s i:=by
 cases hd with
 | here=>exact .inl rfl
 | sub _ x' s _ g1 g0 g2 g3 =>
  rw[hx] at g1
  injection g1 with g1
  subst g1
  exact .inr ⟨s,g2,g3⟩
theorem Fct.mk5 {n:Nat} {x:PN} (hx:l[n]?=some x) (hk:x.kind=5) (h:S.hd n=n→S.own (S.kb n)=some (.ch n)∧Ch S l is n n x.subs (S.kb n) none∧2≤x.subs.length):Fct S l is n:=by
 refine⟨fun y g=>?_,fun y g=>?_,fun y g=>?_,fun y g=>?_,fun y g _=>?_⟩ <;> (rw[hx] at g;injection g with g;subst g)
 ·omega
 ·omega
 ·omega
 ·omega
 ·exact h
include r0
mutual
theorem pl_ok:∀(u:UT) (n b e:Nat),Pl S l is u n b e→Rep l u n→Des l root n→CF S l is (.H n) e→∀i,Des l n i→Fct S l is i
 | .eps,n,b,e,h,hr,hd,hc,i,hi=>by
  cases hr with
  | eps _ x h1 h2 =>
   obtain rfl:=des_leaf h1 (by omega) hi
   exact Fct.other h1 (.inl h2)
 | .cls rs,n,b,e,h,hr,hd,hc,i,hi=>by
  cases h with
  | cls _ _ _ y h1 h2 h3 h4 h5 =>
  cases hr with
  | cls _ x g1 g2 =>
   obtain rfl:=des_leaf g1 (by omega) hi
   refine⟨fun y' g _=>?_,fun y g=>?_,fun y g=>?_,fun y g=>?_,fun y g=>?_⟩ <;> (rw[g1] at g;injection g with g;subst g)
   ·subst h2
    refine⟨h1,h3,y,h4,?_⟩
    rcases h5 with h5 | h5
    ·exact .inl ⟨h5.1,h5.2.1,by rw[h5.2.2];exact hc⟩
    ·exact .inr h5
   all_goals omega
 | .asr a,n,b,e,h,hr,hd,hc,i,hi=>by
  cases h with
  | asr _ _ _ y h1 h2 h3 h4 h5 h6 h7 =>
  cases hr with
  | asr _ x g1 g2 =>
   obtain rfl:=des_leaf g1 (by omega) hi
   refine⟨fun y' g=>?_,fun y' g _=>?_,fun y g=>?_,fun y g=>?_,fun y g=>?_⟩ <;> (rw[g1] at g;injection g with g;subst g)
   ·omega
   ·subst h2
    exact⟨h1,h3,y,h4,h5,h6,by rw[h7];exact hc⟩
   all_goals omega
 | .cat us,n,b,e,h,hr,hd,hc,i,hi=>by
  cases h with
  | cat _ _ _ _ x h1 h2 =>
  cases hr with
  | cat _ x' _ g1 g2 g0 g3 =>
  rw[h1] at g1
  injection g1 with g1
  subst g1
  rcases des_one h1 hi with rfl | ⟨s,hs,hi⟩
  ·exact Fct.other h1 (.inr (.inl g2))
  ·exact plC_ok us n x 0 x.subs b e h2 h1 g2 rfl g3 hd hc s hs i hi
 | .alt us,n,b,e,h,hr,hd,hc,i,hi=>by
  cases h with
  | alt _ _ _ _ x h1 h2 h3 h4 h5 h6 =>
  cases hr with
  | alt _ x' _ g1 g2 g3 =>
  rw[h1] at g1
  injection g1 with g1
  subst g1
  obtain⟨f,c⟩:=plA_ok us n n x 0 x.subs b e h6 h1 g2 g3 (fun s h=>h) hd hc
  rcases des_one h1 hi with rfl | ⟨s,hs,hi⟩
  ·refine Fct.mk5 h1 g2 fun _=>?_
   subst h3
   exact⟨h2,c,by rw[←g3.len];exact h5⟩
  ·exact f s hs i hi
 | .grp ix u,n,b,e,h,hr,hd,hc,i,hi=>by
  cases h with
  | grp _ _ m _ _ x y z h1 h2 h3 h4 h5 h6 h7 h8 h9 h10 h11 h12 =>
  cases hr with
  | grp _ x' _ g1 g2 g3 =>
  rw[h1] at g1
  injection g1 with g1
  subst g1
  obtain⟨q1,q2,w,q3,q4⟩:=one_sub g3
  have hce:CF S l is (.H (aR x)) m:=cf_cap (k:=.H (aR x)) (k':=.H n) (fun p=>st_h7 q3 q4 h1 g2) h8 h9 h10 h11 h12 hc
  rcases des_one h1 hi with rfl | ⟨s,hs,hi⟩
  ·exact Fct.other h1 (.inr (.inr g2))
  ·rw[q1] at hs
   obtain rfl:s=aR x:=by simpa using hs
   exact pl_ok u (aR x) (b+1) m h7 q2 (hd.trans (.sub n x _ _ h1 (by omega) (by rw[q1];simp) (.here _))) hce i hi
 | .star u lz,n,b,e,h,hr,hd,hc,i,hi=>by
  cases h with
  | star _ _ m _ _ x y z h1 h2 h3 h4 h5 h6 h7 h8 h9 h10 h11 h12 =>
  cases hr with
  | star _ x' _ g1 g2 g3 =>
  rw[h1] at g1
  injection g1 with g1
  subst g1
  obtain⟨q1,q2,w,q3,q4⟩:=one_sub g3
  have hd1:=hd.trans (.sub n x _ _ h1 (by omega) (by rw[q1];simp) (.here (aR x)))
  have hD:CF S l is (.H (aR x)) b:=fun p=>⟨.D n p,id,1,fun _=>id,0,FR.now (st_hl q3 q4 h1 (.inl g2)),r0.vd n x hd h1 (.inl g2),fun h=>h,rfl,by
   have:pcA S (.D n p)=b:=h3
   rw[this]
   exact .nil b (by rw[h2];simp),rfl⟩
  have hce:CF S l is (.H (aR x)) m:=cf_nop h9 h10 h11 h12 hD
  rcases des_one h1 hi with rfl | ⟨s,hs,hi⟩
  ·refine⟨fun y' g=>?_,fun y' g=>?_,fun y' g=>?_,fun y' g _=>?_,fun y' g=>?_⟩ <;> (rw[h1] at g;injection g with g;subst g)
   ·omega
   ·omega
   ·omega
   ·rw[h3]
    refine⟨h2,y,h4,h5,?_,?_⟩
    ·rw[h6]
     exact pl_cf r0 u (aR x) (b+1) m h8 q2 hd1 hce
    ·rw[h7]
     exact hc
   ·omega
  ·rw[q1] at hs
   obtain rfl:s=aR x:=by simpa using hs
   exact pl_ok u (aR x) (b+1) m h8 q2 hd1 hce i hi
 | .plus u lz,n,b,e,h,hr,hd,hc,i,hi=>by
  cases h with
  | plus _ _ m _ _ x y h1 h2 h3 h4 h5 h6 h7 h8 =>
  cases hr with
  | plus _ x' _ g1 g2 g3 =>
  rw[h1] at g1
  injection g1 with g1
  subst g1
  obtain⟨q1,q2,w,q3,q4⟩:=one_sub g3
  have hd1:=hd.trans (.sub n x _ _ h1 (by omega) (by rw[q1];simp) (.here (aR x)))
  have hce:CF S l is (.H (aR x)) m:=fun p=>⟨.D n p,id,1,fun _=>id,0,FR.now (st_hl q3 q4 h1 (.inr g2)),r0.vd n x hd h1 (.inr g2),fun h=>h,rfl,by
   have:pcA S (.D n p)=m:=h4
   rw[this]
   exact .nil m (by rw[h3];simp),rfl⟩
  rcases des_one h1 hi with rfl | ⟨s,hs,hi⟩
  ·refine⟨fun y' g=>?_,fun y' g=>?_,fun y' g=>?_,fun y' g _=>?_,fun y' g=>?_⟩ <;> (rw[h1] at g;injection g with g;subst g)
   ·omega
   ·omega
   ·omega
   ·rw[h4]
    refine⟨h3,y,h5,h6,?_,?_⟩
    ·rw[h7]
     exact pl_cf r0 u (aR x) b m h2 q2 hd1 hce
    ·rw[h8]
     exact hc
   ·omega
  ·rw[q1] at hs
   obtain rfl:s=aR x:=by simpa using hs
   exact pl_ok u (aR x) b m h2 q2 hd1 hce i hi
 | .quest u lz,n,b,e,h,hr,hd,hc,i,hi=>by
  cases h with
  | quest _ _ _ _ _ x y h1 h2 h3 h4 h5 h6 h7 h8 h9 =>
  cases hr with
  | quest _ x' _ g1 g2 g3 =>
  rw[h1] at g1
  injection g1 with g1
  subst g1
  obtain⟨q1,q2,w,q3,q4⟩:=one_sub g3
  have hd1:=hd.trans (.sub n x _ _ h1 (by omega) (by rw[q1];simp) (.here (aR x)))
  have hce:CF S l is (.H (aR x)) e:=jf (k:=.H (aR x)) (k':=.H n) (fun p=>st_ho q3 q4 h1 (.inr g2)) hc
  rcases des_one h1 hi with rfl | ⟨s,hs,hi⟩
  ·refine⟨fun y' g=>?_,fun y' g=>?_,fun y' g _=>?_,fun y' g=>?_,fun y' g=>?_⟩ <;> (rw[h1] at g;injection g with g;subst g)
   ·omega
   ·omega
   ·rw[h3]
    refine⟨h2,h4,y,h5,h6,?_,?_⟩
    ·rw[h7]
     exact pl_cf r0 u (aR x) (b+1) e h9 q2 hd1 hce
    ·rw[h8]
     exact hc
   ·omega
   ·omega
  ·rw[q1] at hs
   obtain rfl:s=aR x:=by simpa using hs
   exact pl_ok u (aR x) (b+1) e h9 q2 hd1 hce i hi
termination_by u=>(SizeOf.sizeOf u,0)
decreasing_by all_goals (simp_wf;first | (apply Prod.Lex.left;simp;omega) | (apply Prod.Lex.left;simp;done) | (apply Prod.Lex.left;omega) | trace_state)
theorem plC_ok:∀(us:List UT) (m:Nat) (y:PN) (k:Nat) (ss:List Nat) (b e:Nat),PlC S l is us ss b e→l[m]?=some y→y.kind=4→y.subs.drop k=ss→dW l us m k ss→Des l root m→CF S l is (.H m) e→∀s∈ss,∀i,Des l s i→Fct S l is i
 | [],m,y,k,ss,b,e,h,_,_,_,hr,_,_,s,hs,i,hi=>by
  rw[hr.none] at hs
  simp at hs
 | u::us,m,y,k,ss,b,e,h,hm,h4,hdr,hr,hd,hc,s,hs,i,hi=>by
  cases hr with
  | cons _ _ _ _ s' ss' x h1 h2 h3 h5 h6 =>
  cases h with
  | cons _ _ _ _ _ q _ k1 k2 =>
  have en:x.nth.toNat=k:=by omega
  have hmem:s'∈y.subs:=by
   have:s'∈y.subs.drop k:=by rw[hdr];simp
   exact List.mem_of_mem_drop this
  have hd1:y.subs.drop (k+1)=ss':=by rw[show k+1=1+k by omega,Nat.add_comm,←List.drop_drop,hdr];rfl
  rcases List.mem_cons.1 hs with rfl | hs
  ·refine pl_ok u s b q k1 h1 (hd.trans (.sub m y _ _ hm (by omega) hmem (.here _))) ?_ i hi
   by_cases hlt:k+1 < y.subs.length
   ·have hg:ss'[0]?=some (y.subs.getD (k+1) 0):=by
     rw[←hd1,List.getElem?_drop]
     simp[List.getD_eq_getElem?_getD,List.getElem?_eq_getElem hlt]
    have:=plC_cf r0 us m y (k+1) ss' q e k2 hm h4 hd1 h6 hd hc _ hg
    refine jf (k:=.H s) (k':=.B (y.subs.getD (k+1) 0)) (fun p=>?_) this
    have:=st_h4 (p:=p) h2 h3 hm h4 (by rw[en];exact hlt)
    rw[en] at this
    exact this
   ·have e1:ss'=[]:=by rw[←hd1];exact List.drop_eq_nil_of_le (by omega)
    subst e1
    have e2:us=[]:=by have:=h6.len;simpa using this
    subst e2
    cases k2
    exact jf (k:=.H s) (k':=.H m) (fun p=>st_h4e h2 h3 hm h4 (by rw[en];exact hlt)) hc
  ·exact plC_ok us m y (k+1) ss' q e k2 hm h4 hd1 h6 hd hc s hs i hi
termination_by us=>(SizeOf.sizeOf us,0)
decreasing_by all_goals (simp_wf;first | (apply Prod.Lex.left;simp;omega) | (apply Prod.Lex.left;simp;done) | (apply Prod.Lex.left;omega) | trace_state)
theorem plA_ok:∀(us:List UT) (m n:Nat) (y:PN) (k:Nat) (ss:List Nat) (b e:Nat),PlA S l is m n us ss b e→l[n]?=some y→y.kind=5→dW l us n k ss→(∀s∈ss,s∈y.subs)→Des l root n→CF S l is (.H n) e→(∀s∈ss,∀i,Des l s i→Fct S l is i)∧Ch S l is m n ss b none
 | [],m,n,y,k,ss,b,e,h,hm,h5,hr,hss,hd,hc=>by cases h
 | u::us,m,n,y,k,ss,b,e,h,hm,h5,hr,hss,hd,hc=>by
  cases hr with
  | cons _ _ _ _ s ss' x h1 h2 h3 h4 h6 =>
  have hds:Des l root s:=hd.trans (.sub n y _ _ hm (by omega) (hss s (by simp)) (.here _))
  have hcs:CF S l is (.H s) e:=jf (k:=.H s) (k':=.H n) (fun p=>st_ho h2 h3 hm (.inl h5)) hc
  cases h with
  | last _ _ _ _ _ _ k1 =>
   refine⟨fun s' hs' i hi=>?_,.last _ _ _ (pl_cf r0 u s b e k1 h1 hds hcs)⟩
   obtain rfl:s'=s:=by simpa using hs'
   exact pl_ok u s' b e k1 h1 hds hcs i hi
  | cons _ _ _ _ _ _ _ t _ k1 k2 =>
   obtain⟨f1,c1⟩:=plO_ok u m n s b t e k1 h1 hds hcs
   obtain⟨f2,c2⟩:=plA_ok us m n y (k+1) ss' t e k2 hm h5 h6 (fun s hs=>hss s (by simp[hs])) hd hc
   refine⟨fun s' hs' i hi=>?_,c1 _ _ c2⟩
   rcases List.mem_cons.1 hs' with rfl | hs'
   ·exact f1 i hi
   ·exact f2 s' hs' i hi
termination_by us=>(SizeOf.sizeOf us,0)
decreasing_by all_goals (simp_wf;first | (apply Prod.Lex.left;simp;omega) | (apply Prod.Lex.left;simp;done) | (apply Prod.Lex.left;omega) | trace_state)
theorem plO_ok:∀(u:UT) (m i s b t e:Nat),PlO S l is m i u s b t e→Rep l u s→Des l root s→CF S l is (.H s) e→(∀j,Des l s j→Fct S l is j)∧∀r tt,Ch S l is m i r t tt→Ch S l is m i (s::r) b tt
 | u,m,i,s,b,t,e,h,hr,hd,hc=>by
  cases h with
  | plain _ _ _ _ _ q _ y z h1 h2 h3 h4 h5 h6 h7 h8 h9 h10 h11 =>
   have hcq:CF S l is (.H s) q:=cf_nop h8 h9 h10 h11 hc
   refine⟨pl_ok u s (b+1) q h7 hr hd hcq,fun r tt hch=>?_⟩
   refine .plain i s r b y tt h3 h4 (by omega) h2 (by rw[h5];exact pl_cf r0 u s (b+1) q h7 hr hd hcq) (by rw[h6];exact hch)
  | nested _ _ _ _ n ws x _ _ _ h1 h2 h3 h4 h5 h6 h7 =>
   have o:=ld_ok (S:=S) (is:=is) h1 hr
   obtain⟨x',g1,g2,g3⟩:=o.rep.kind_alt
   rw[h2] at g1
   injection g1 with g1
   subst g1
   have hsz:=o.size
   obtain⟨f,c⟩:=plOs_ok ws m n x 0 x.subs b t e h7 h2 g2 g3 (fun s h=>h) (hd.trans o.des) (o.cf e hc)
   refine⟨fun j hj=>?_,fun r tt hch=>?_⟩
   ·rcases o.low j hj with hj | ⟨y,hy,hk⟩
    ·rcases des_one h2 hj with rfl | ⟨s',hs',hj⟩
     ·exact Fct.mk5 h2 g2 fun e=>absurd (h3.symm.trans e).symm h4
     ·exact f s' hs' j hj
    ·exact Fct.other hy (by omega)
   ·exact .nested i s n x r b t tt o.fr h2 g2 h3 h4 h5 (r0.va n x (hd.trans o.des) h2 (.inr (.inr (.inl g2)))) h6 c hch
termination_by u=>(SizeOf.sizeOf u,1)
decreasing_by all_goals (simp_wf;first | (apply Prod.Lex.left;omega) | (apply Prod.Lex.right;omega))
theorem plOs_ok:∀(us:List UT) (m i:Nat) (y:PN) (k:Nat) (ss:List Nat) (b t e:Nat),PlOs S l is m i us ss b t e→l[i]?=some y→y.kind=5→dW l us i k ss→(∀s∈ss,s∈y.subs)→Des l root i→CF S l is (.H i) e→(∀s∈ss,∀j,Des l s j→Fct S l is j)∧Ch S l is m i ss b (some t)
 | [],m,i,y,k,ss,b,t,e,h,hm,h5,hr,hss,hd,hc=>by
  have _r:=r0
  cases h
  exact⟨fun s hs=>by simp at hs,.nil _ _⟩
 | u::us,m,i,y,k,ss,b,t,e,h,hm,h5,hr,hss,hd,hc=>by
  cases hr with
  | cons _ _ _ _ s ss' x h1 h2 h3 h4 h6 =>
  have hds:Des l root s:=hd.trans (.sub i y _ _ hm (by omega) (hss s (by simp)) (.here _))
  have hcs:CF S l is (.H s) e:=jf (k:=.H s) (k':=.H i) (fun p=>st_ho h2 h3 hm (.inl h5)) hc
  cases h with
  | cons _ _ _ _ _ _ _ t1 _ _ k1 k2 =>
   obtain⟨f1,c1⟩:=plO_ok u m i s b t1 e k1 h1 hds hcs
   obtain⟨f2,c2⟩:=plOs_ok us m i y (k+1) ss' t1 t e k2 hm h5 h6 (fun s hs=>hss s (by simp[hs])) hd hc
   refine⟨fun s' hs' j hj=>?_,c1 _ _ c2⟩
   rcases List.mem_cons.1 hs' with rfl | hs'
   ·exact f1 j hj
   ·exact f2 s' hs' j hj
termination_by us=>(SizeOf.sizeOf us,0)
decreasing_by all_goals (simp_wf;first | (apply Prod.Lex.left;simp;omega) | (apply Prod.Lex.left;simp;done) | (apply Prod.Lex.left;omega) | trace_state)
end
end
end Go.Proofs.Ytnkefclbchpafaa

/-
  An unfolded tree laid into instructions: and so a row of nodes that stands for the tree is laid. Plain.
-/
namespace Go.Proofs.Ytnkefclbchpafaa
set_option linter.unusedVariables false
inductive LdU:UT→List UT→Prop
 | here (us:List UT):LdU (.alt us) us
 | cat (us:List UT) (k:Nat) (u:UT) (ws:List UT):us[k]?=some u→(∀(j:Nat) w,j≠k→us[j]?=some w→kE w=true)→LdU u ws→LdU (.cat us) ws
section
variable (is : List av)
mutual
inductive Ly:UT→Nat→Nat→Prop
 | eps (b:Nat):Ly .eps b b
 | cls (b:Nat) (rs:List (Int × Int)) (y:av):is[b]?=some y→(y.op=1∧y.rs=rs∧y.x.toNat=b+1)∨(y.op=6∧rs=[])→Ly (.cls rs) b (b+1)
 | asr (b:Nat) (a:Int) (y:av):is[b]?=some y→y.op=4→y.arg=a→y.x.toNat=b+1→Ly (.asr a) b (b+1)
 | cat (b e:Nat) (us:List UT):LyC us b e→Ly (.cat us) b e
 | alt (b e:Nat) (us:List UT):2≤us.length→LyA us b e→Ly (.alt us) b e
 | grp (b m:Nat) (ix:Int) (u:UT) (y z:av):is[b]?=some y→y.op=3→y.arg=2*ix→y.x.toNat=b+1→b+1≤m→Ly u (b+1) m→is[m]?=some z→z.op=3→z.arg=2*ix+1→z.x.toNat=m+1→Ly (.grp ix u) b (m+1)
 | star (b m:Nat) (u:UT) (lz:Bool) (y z:av):is[b]?=some y→y.op=2→(if lz=true then y.y.toNat else y.x.toNat)=b+1→(if lz=true then y.x.toNat else y.y.toNat)=m+1→b+1≤m→Ly u (b+1) m→is[m]?=some z→z.op=7→z.x.toNat=b→Ly (.star u lz) b (m+1)
 | plus (b m:Nat) (u:UT) (lz:Bool) (y:av):b≤m→Ly u b m→is[m]?=some y→y.op=2→(if lz=true then y.y.toNat else y.x.toNat)=b→(if lz=true then y.x.toNat else y.y.toNat)=m+1→Ly (.plus u lz) b (m+1)
 | quest (b e:Nat) (u:UT) (lz:Bool) (y:av):is[b]?=some y→y.op=2→(if lz=true then y.y.toNat else y.x.toNat)=b+1→(if lz=true then y.x.toNat else y.y.toNat)=e→b+1≤e→Ly u (b+1) e→Ly (.quest u lz) b e
inductive LyC:List UT→Nat→Nat→Prop
 | nil (b:Nat):LyC [] b b
 | cons (u:UT) (us:List UT) (b m e:Nat):b≤m→m≤e→Ly u b m→LyC us m e→LyC (u::us) b e
inductive LyA:List UT→Nat→Nat→Prop
 | last (u:UT) (b e:Nat):Ly u b e→LyA [u] b e
 | cons (u:UT) (us:List UT) (b t e:Nat):b < t→t≤e→LyO u b t e→LyA us t e→LyA (u::us) b e
inductive LyO:UT→Nat→Nat→Nat→Prop
 | plain (u:UT) (b q e:Nat) (y z:av):b+1≤q→is[b]?=some y→y.op=2→y.x.toNat=b+1→y.y.toNat=q+1→Ly u (b+1) q→is[q]?=some z→z.op=7→z.x.toNat=e→LyO u b (q+1) e
 | nested (u:UT) (us:List UT) (b t e:Nat):LdU u us→b < t→LyOs us b t e→LyO u b t e
inductive LyOs:List UT→Nat→Nat→Nat→Prop
 | nil (b e:Nat):LyOs [] b b e
 | cons (u:UT) (us:List UT) (b t t' e:Nat):b < t→t≤t'→LyO u b t e→LyOs us t t' e→LyOs (u::us) b t' e
end
end
theorem rep_des {l:List PN} {n i:Nat} (h:Des l n i):∀ {u:UT},Rep l u n→∃v,Rep l v i:=by
 induction h with
 | here n=>exact fun h=>⟨_,h⟩
 | sub n x s i h1 h0 h2 _ ih =>
  intro u hr
  have key:∀ {us:List UT},dW l us n 0 x.subs→∃v,Rep l v i:=fun hs=>by
   obtain⟨j,hj⟩:=List.mem_iff_getElem?.1 h2
   obtain⟨w,x',e1,e2,-⟩:=jO hs hj
   exact ih e2
  cases hr with
  | eps _ y g1 g2=>rw[h1] at g1;injection g1 with g1;subst g1;omega
  | cls _ y g1 g2=>rw[h1] at g1;injection g1 with g1;subst g1;omega
  | asr _ y g1 g2=>rw[h1] at g1;injection g1 with g1;subst g1;omega
  | cat _ y us g1 g2 g0 g3=>rw[h1] at g1;injection g1 with g1;subst g1;exact key g3
  | alt _ y us g1 g2 g3=>rw[h1] at g1;injection g1 with g1;subst g1;exact key g3
  | grp _ y us g1 g2 g3=>rw[h1] at g1;injection g1 with g1;subst g1;exact key g3
  | star _ y us g1 g2 g3=>rw[h1] at g1;injection g1 with g1;subst g1;exact key g3
  | plus _ y us g1 g2 g3=>rw[h1] at g1;injection g1 with g1;subst g1;exact key g3
  | quest _ y us g1 g2 g3=>rw[h1] at g1;injection g1 with g1;subst g1;exact key g3
theorem rep_up {l:List PN} {u:UT} {n s:Nat} {x:PN} (hr:Rep l u n) (h1:l[n]?=some x) (h0:3 < x.kind) (h2:s∈x.subs):∃y,l[s]?=some y∧y.up=(n:Int):=by
 have key:∀ {us:List UT},dW l us n 0 x.subs→∃y,l[s]?=some y∧y.up=(n:Int):=fun hs=>by
  obtain⟨j,hj⟩:=List.mem_iff_getElem?.1 h2
  obtain⟨w,x',e1,e2,e3,e4,-⟩:=jO hs hj
  exact⟨x',e3,e4⟩
 cases hr with
 | eps _ y g1 g2=>rw[h1] at g1;injection g1 with g1;subst g1;omega
 | cls _ y g1 g2=>rw[h1] at g1;injection g1 with g1;subst g1;omega
 | asr _ y g1 g2=>rw[h1] at g1;injection g1 with g1;subst g1;omega
 | cat _ y us g1 g2 g0 g3=>rw[h1] at g1;injection g1 with g1;subst g1;exact key g3
 | alt _ y us g1 g2 g3=>rw[h1] at g1;injection g1 with g1;subst g1;exact key g3
 | grp _ y us g1 g2 g3=>rw[h1] at g1;injection g1 with g1;subst g1;exact key g3
 | star _ y us g1 g2 g3=>rw[h1] at g1;injection g1 with g1;subst g1;exact key g3
 | plus _ y us g1 g2 g3=>rw[h1] at g1;injection g1 with g1;subst g1;exact key g3
 | quest _ y us g1 g2 g3=>rw[h1] at g1;injection g1 with g1;subst g1;exact key g3
def LowS (l:List PN):Prop:=∀(i:Nat) (x:PN),l[i]?=some x→∀s∈x.subs,s < i
theorem Des.le {l:List PN} (hl:LowS l) {n i:Nat} (h:Des l n i):i≤n:=by
 induction h with
 | here=>exact Nat.le_refl _
 | sub n x s i h1 h0 h2 _ ih =>
  have:=hl n x h1 s h2
  omega
theorem Des.snoc {l:List PN} {n i:Nat} (h:Des l n i):i=n∨∃m x,Des l n m∧l[m]?=some x∧3 < x.kind∧i∈x.subs:=by
 induction h with
 | here=>exact .inl rfl
 | sub n x s i h1 h0 h2 _ ih =>
  rcases ih with rfl | ⟨m,y,g1,g2,g3,g4⟩
  ·exact .inr ⟨n,x,.here n,h1,h0,h2⟩
  ·exact .inr ⟨m,y,.sub n x s m h1 h0 h2 g1,g2,g3,g4⟩
theorem des_two {l:List PN} (hl:LowS l) {s s':Nat} {u u':UT} (h:Rep l u s) (h':Rep l u' s'):∀(N i:Nat),s≤N+i→Des l s i→Des l s' i→Des l s s'∨Des l s' s
 | N,i,hN,a,b=>by
  rcases a.snoc with rfl | ⟨m,x,a1,a2,a3,a4⟩
  ·exact .inr b
  rcases b.snoc with rfl | ⟨m',x',b1,b2,b3,b4⟩
  ·exact .inl a
  obtain⟨v,hv⟩:=rep_des a1 h
  obtain⟨v',hv'⟩:=rep_des b1 h'
  obtain⟨y,y1,y2⟩:=rep_up hv a2 a3 a4
  obtain⟨z,z1,z2⟩:=rep_up hv' b2 b3 b4
  rw[y1] at z1
  injection z1 with z1
  subst z1
  have e:m=m':=by omega
  subst e
  have h1:=hl m x a2 i a4
  have h2:=a1.le hl
  match N with
  | 0=>omega
  | N+1=>exact des_two hl h h' N m (by omega) a1 b1
theorem des_apart {l:List PN} (hl:LowS l) {s s' m:Nat} {u u':UT} {x x' y:PN} (h:Rep l u s) (h':Rep l u' s') (hx:l[s]?=some x) (hx':l[s']?=some x') (hu:x.up=(m:Int)) (hu':x'.up=(m:Int)) (hy:l[m]?=some y) (hs:s∈y.subs) (hs':s'∈y.subs) (hne:s≠s') {i:Nat} (a:Des l s i) (b:Des l s' i):False:=by
 have key:∀ {s s':Nat} {u:UT} {x':PN},Rep l u s→l[s']?=some x'→x'.up=(m:Int)→s∈y.subs→s≠s'→Des l s s'→False:=fun {s s' u x'} h hx' hu' hs hne hd=>by
  rcases hd.snoc with rfl | ⟨p,z,g1,g2,g3,g4⟩
  ·exact hne rfl
  ·obtain⟨v,hv⟩:=rep_des g1 h
   obtain⟨w,w1,w2⟩:=rep_up hv g2 g3 g4
   rw[hx'] at w1
   injection w1 with w1
   subst w1
   have e:p=m:=by omega
   subst e
   have:=g1.le hl
   have:=hl p y hy s hs
   omega
 rcases des_two hl h h' s i (by omega) a b with c | c
 ·exact key h hx' hu' hs hne c
 ·exact key h' hx hu hs' (fun e=>hne e.symm) c
structure kT (S0 S:Sm) (A:Nat→Prop) (b e:Nat):Prop where
 nd:∀i,¬A i→S.kb i=S0.kb i∧S.kd i=S0.kd i∧S.hd i=S0.hd i
 pc:∀q,q < b∨e≤q→S.own q=S0.own q
structure AgS (S S':Sm) (A:Nat→Prop) (b e:Nat):Prop where
 nd:∀i,A i→S'.kb i=S.kb i∧S'.kd i=S.kd i∧S'.hd i=S.hd i
 pc:∀q,b≤q→q < e→S'.own q=S.own q
theorem AgS.rfl_ (S:Sm) (A:Nat→Prop) (b e:Nat):AgS S S A b e:=⟨fun _ _=>⟨rfl,rfl,rfl⟩,fun _ _ _=>rfl⟩
theorem kT.rfl_ (S:Sm) (A:Nat→Prop) (b e:Nat):kT S S A b e:=⟨fun _ _=>⟨rfl,rfl,rfl⟩,fun _ _=>rfl⟩
theorem AgS.less {S S':Sm} {A A':Nat→Prop} {b e b' e':Nat} (h:AgS S S' A b e) (ha:∀i,A' i→A i) (hb:b≤b') (he:e'≤e):AgS S S' A' b' e' :=
 ⟨fun i hi=>h.nd i (ha i hi),fun q h1 h2=>h.pc q (by omega) (by omega)⟩
theorem kT.more {S S':Sm} {A A':Nat→Prop} {b e b' e':Nat} (h:kT S S' A b e) (ha:∀i,A i→A' i) (hb:b'≤b) (he:e≤e'):kT S S' A' b' e' :=
 ⟨fun i hi=>h.nd i (fun c=>hi (ha i c)),fun q hq=>h.pc q (by omega)⟩
theorem kT.trans {S S' S'':Sm} {A:Nat→Prop} {b e:Nat} (h:kT S S' A b e) (g:kT S' S'' A b e):kT S S'' A b e :=
 ⟨fun i hi=>⟨(g.nd i hi).1.trans (h.nd i hi).1,(g.nd i hi).2.1.trans (h.nd i hi).2.1,(g.nd i hi).2.2.trans (h.nd i hi).2.2⟩,fun q hq=>(g.pc q hq).trans (h.pc q hq)⟩
theorem AgS.later {S S1 S':Sm} {A1 B:Nat→Prop} {b m b1 e1:Nat} (h:kT S S1 A1 b1 e1) (g:AgS S1 S' B b m) (hd:∀i,B i→¬A1 i) (hp:m≤b1∨e1≤b):AgS S S' B b m :=
 ⟨fun i hi=>⟨(g.nd i hi).1.trans (h.nd i (hd i hi)).1,(g.nd i hi).2.1.trans (h.nd i (hd i hi)).2.1,(g.nd i hi).2.2.trans (h.nd i (hd i hi)).2.2⟩,fun q h1 h2=>(g.pc q h1 h2).trans (h.pc q (by omega))⟩
def ups {α:Type} (f:Nat→α) (n:Nat) (v:α):Nat→α:=fun i=>if i=n then v else f i
theorem bQ {α:Type} (f:Nat→α) (n:Nat) (v:α):ups f n v n=v:=by simp[ups]
theorem kN {α:Type} (f:Nat→α) {n i:Nat} (v:α) (h:i≠n):ups f n v i=f i:=by simp[ups,h]
def setB (S:Sm) (n b:Nat) (o:OT):Sm:={ S with kb:=ups S.kb n b,hd:=ups S.hd n n,own:=ups S.own b (some o) }
def setD (S:Sm) (n b:Nat):Sm:={ S with kd:=ups S.kd n b,own:=ups S.own b (some (.nD n)) }
def setO (S:Sm) (b:Nat) (o:Option OT):Sm:={ S with own:=ups S.own b o }
def setH (S:Sm) (n m:Nat):Sm:={ S with hd:=ups S.hd n m }
theorem setB_out (S:Sm) {n b:Nat} (o:OT) {A:Nat→Prop} {b0 e:Nat} (ha:A n) (h1:b0≤b) (h2:b < e):kT S (setB S n b o) A b0 e :=
 ⟨fun i hi=>by
  have:i≠n:=fun e=>hi (e ▸ ha)
  exact⟨kN _ _ this,rfl,kN _ _ this⟩,fun q hq=>kN _ _ (by omega)⟩
theorem setD_out (S:Sm) {n b:Nat} {A:Nat→Prop} {b0 e:Nat} (ha:A n) (h1:b0≤b) (h2:b < e):kT S (setD S n b) A b0 e :=
 ⟨fun i hi=>by
  have:i≠n:=fun e=>hi (e ▸ ha)
  exact⟨rfl,kN _ _ this,rfl⟩,fun q hq=>kN _ _ (by omega)⟩
theorem setO_out (S:Sm) {b:Nat} (o:Option OT) {A:Nat→Prop} {b0 e:Nat} (h1:b0≤b) (h2:b < e):kT S (setO S b o) A b0 e :=
 ⟨fun i hi=>⟨rfl,rfl,rfl⟩,fun q hq=>kN _ _ (by omega)⟩
theorem setH_out (S:Sm) {n m:Nat} {A:Nat→Prop} {b0 e:Nat} (ha:A n):kT S (setH S n m) A b0 e :=
 ⟨fun i hi=>by
  have:i≠n:=fun e=>hi (e ▸ ha)
  exact⟨rfl,rfl,kN _ _ this⟩,fun q hq=>rfl⟩
structure OwS (S:Sm) (A:Nat→Prop) (b e:Nat):Prop where
 nB:∀q n,b≤q→q < e→S.own q=some (.nB n)→A n∧S.kb n=q
 nD:∀q n,b≤q→q < e→S.own q=some (.nD n)→A n∧S.kd n=q
 en:∀q,b≤q→q < e→S.own q≠some .en
theorem OwS.nil (S:Sm) (A:Nat→Prop) (b:Nat):OwS S A b b:=⟨fun q n h1 h2=>by omega,fun q n h1 h2=>by omega,fun q h1 h2=>by omega⟩
theorem OwS.cell {S:Sm} {A:Nat→Prop} {b:Nat} (hB:∀n,S.own b=some (.nB n)→A n∧S.kb n=b) (hD:∀n,S.own b=some (.nD n)→A n∧S.kd n=b) (hE:S.own b≠some .en):OwS S A b (b+1):=by
 refine⟨fun q n h1 h2 h3=>?_,fun q n h1 h2 h3=>?_,fun q h1 h2=>?_⟩ <;> obtain rfl:q=b:=by omega
 ·exact hB n h3
 ·exact hD n h3
 ·exact hE
theorem OwS.cellB {S:Sm} {A:Nat→Prop} {b n:Nat} (h:S.own b=some (.nB n)) (hk:S.kb n=b) (ha:A n):OwS S A b (b+1):=by
 refine .cell (fun n' h3=>?_) (fun n' h3=>?_) (fun h3=>?_) <;> (rw[h] at h3;injection h3 with h3;injection h3)
 rename_i h3
 subst h3
 exact⟨ha,hk⟩
theorem OwS.cellD {S:Sm} {A:Nat→Prop} {b n:Nat} (h:S.own b=some (.nD n)) (hk:S.kd n=b) (ha:A n):OwS S A b (b+1):=by
 refine .cell (fun n' h3=>?_) (fun n' h3=>?_) (fun h3=>?_) <;> (rw[h] at h3;injection h3 with h3;injection h3)
 rename_i h3
 subst h3
 exact⟨ha,hk⟩
theorem OwS.cellC {S:Sm} {A:Nat→Prop} {b m:Nat} (h:S.own b=some (.ch m)):OwS S A b (b+1):=by
 refine .cell (fun n' h3=>?_) (fun n' h3=>?_) (fun h3=>?_) <;> (rw[h] at h3;injection h3 with h3;injection h3)
theorem OwS.cellN {S:Sm} {A:Nat→Prop} {b:Nat} (h:S.own b=none):OwS S A b (b+1):=by
 refine .cell (fun n' h3=>?_) (fun n' h3=>?_) (fun h3=>?_) <;> (rw[h] at h3;cases h3)
theorem OwS.app {S:Sm} {A:Nat→Prop} {b m e:Nat} (h:OwS S A b m) (g:OwS S A m e):OwS S A b e :=
 ⟨fun q n h1 h2 h3=>if hq:q < m then h.nB q n h1 hq h3 else g.nB q n (by omega) h2 h3,fun q n h1 h2 h3=>if hq:q < m then h.nD q n h1 hq h3 else g.nD q n (by omega) h2 h3,fun q h1 h2 h3=>if hq:q < m then h.en q h1 hq h3 else g.en q (by omega) h2 h3⟩
theorem OwS.more {S:Sm} {A A':Nat→Prop} {b e:Nat} (h:OwS S A b e) (ha:∀i,A i→A' i):OwS S A' b e :=
 ⟨fun q n h1 h2 h3=>⟨ha n (h.nB q n h1 h2 h3).1,(h.nB q n h1 h2 h3).2⟩,fun q n h1 h2 h3=>⟨ha n (h.nD q n h1 h2 h3).1,(h.nD q n h1 h2 h3).2⟩,h.en⟩
theorem OwS.later {S S1:Sm} {A1 B:Nat→Prop} {b m b1 e1:Nat} (h:kT S S1 A1 b1 e1) (g:OwS S B b m) (hd:∀i,B i→¬A1 i) (hp:m≤b1∨e1≤b):OwS S1 B b m:=by
 refine⟨fun q n h1 h2 h3=>?_,fun q n h1 h2 h3=>?_,fun q h1 h2 h3=>?_⟩ <;> rw[h.pc q (by omega)] at h3
 ·obtain⟨x,y⟩:=g.nB q n h1 h2 h3
  exact⟨x,(h.nd n (hd n x)).1.trans y⟩
 ·obtain⟨x,y⟩:=g.nD q n h1 h2 h3
  exact⟨x,(h.nd n (hd n x)).2.1.trans y⟩
 ·exact g.en q h1 h2 h3
end Go.Proofs.Ytnkefclbchpafaa
