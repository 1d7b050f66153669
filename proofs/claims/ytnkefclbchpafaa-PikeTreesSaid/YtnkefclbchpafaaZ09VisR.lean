/-
  Core, CoreR, VisR, put together.
-/
import Derived.Test.YtnkefclbchpafaaZ03RunP
import Derived.Test.YtnkefclbchpafaaZ08Graph
import Derived.Test.YtnkefclbchpafaaZ07Tab

/-
  The walk depth first through a row of nodes: the first that it finds is the first walk through the graph of the nodes at which something is decided. Plain.
-/
namespace Go.Proofs.Ytnkefclbchpafaa
set_option linter.unusedVariables false
inductive AS where
 | B (n p:Nat) | D (n p:Nat) | E (p:Nat)
inductive FK where
 | B (n p:Nat) | H (n p:Nat)
abbrev CpF:=List Int→List Int
def jy (i:Int) (p:Nat):CpF:=fun c=>c.set i.toNat (p:Int)
def frF (l:List PN):Nat→FK→Option (AS × CpF)
 | 0,_=>none
 | f+1,.B n p=>match l[n]? with
  | none=>none
  | some x=>if x.kind=1 then frF l f (.H n p)
   else if x.kind=4∨x.kind=102 then frF l f (.B (aR x) p)
   else if x.kind=7 then (frF l f (.B (aR x) p)).map (fun v=>(v.1,v.2 ∘ jy (2*x.ix) p))
   else if x.kind=101 then some (.D n p,id)
   else some (.B n p,id)
 | f+1,.H n p=>match l[n]? with
  | none=>none
  | some x=>if x.up < 0 then some (.E p,id) else match l[x.up.toNat]? with
   | none=>none
   | some y=>if y.kind=4 then (if x.nth.toNat+1 < y.subs.length then frF l f (.B (y.subs.getD (x.nth.toNat+1) 0) p) else frF l f (.H x.up.toNat p))
    else if y.kind=7 then (frF l f (.H x.up.toNat p)).map (fun v=>(v.1,v.2 ∘ jy (2*y.ix+1) p))
    else if y.kind=101∨y.kind=102 then some (.D x.up.toNat p,id)
    else frF l f (.H x.up.toNat p)
def FR (l:List PN) (k:FK) (v:AS × CpF) (h:Nat):Prop:=frF l h k=some v∧∀h',h' < h→frF l h' k=none
theorem FR.det {l:List PN} {k:FK} {v v':AS × CpF} {h h':Nat} (a:FR l k v h) (b:FR l k v' h'):v=v'∧h=h':=by
 have hh:h=h':=by
  rcases Nat.lt_trichotomy h h' with e | e | e
  ·have:=b.2 h e;rw[a.1] at this;cases this
  ·exact e
  ·have:=a.2 h' e;rw[b.1] at this;cases this
 subst hh
 have:=a.1.symm.trans b.1
 injection this with this
 exact⟨this,rfl⟩
theorem FR.pos {l:List PN} {k:FK} {v:AS × CpF} {h:Nat} (a:FR l k v h):∃h0,h=h0+1:=by
 cases h with
 | zero=>have:=a.1;simp[frF] at this
 | succ h=>exact⟨h,rfl⟩
theorem FR.step {l:List PN} {k k':FK} {g:AS × CpF→AS × CpF} (hk:∀h,frF l (h+1) k=(frF l h k').map g) {v:AS × CpF} {h:Nat}:FR l k v (h+1)↔∃v',v=g v'∧FR l k' v' h:=by
 constructor
 ·rintro⟨a,b⟩
  rw[hk] at a
  cases hq:frF l h k' with
  | none=>rw[hq] at a;cases a
  | some q =>
   rw[hq] at a
   injection a with a
   refine⟨q,a.symm,hq,fun h' hl=>?_⟩
   have:=b (h'+1) (by omega)
   rw[hk] at this
   cases hz:frF l h' k' with
   | none=>rfl
   | some z=>rw[hz] at this;cases this
 ·rintro⟨v',rfl,a,b⟩
  refine⟨by rw[hk,a];rfl,fun h' hl=>?_⟩
  cases h' with
  | zero=>rfl
  | succ h'=>rw[hk,b h' (by omega)];rfl
theorem FR.now {l:List PN} {k:FK} {v:AS × CpF} (hk:∀h,frF l (h+1) k=some v):FR l k v 1:=⟨hk 0,fun h' hl=>by
 obtain rfl:h'=0:=by omega
 rfl⟩
section
variable {l : List PN} {n p m : Nat} {x y : PN}
theorem st_1 (hx:l[n]?=some x) (hk:x.kind=1):∀h,frF l (h+1) (.B n p)=(frF l h (.H n p)).map id:=fun h=>by
 rw[frF,hx];simp[hk]
theorem st_4 (hx:l[n]?=some x) (hk:x.kind=4∨x.kind=102):∀h,frF l (h+1) (.B n p)=(frF l h (.B (aR x) p)).map id:=fun h=>by
 rw[frF,hx]
 simp only
 rw[if_neg (by omega),if_pos hk]
 simp
theorem st_7 (hx:l[n]?=some x) (hk:x.kind=7):∀h,frF l (h+1) (.B n p)=(frF l h (.B (aR x) p)).map (fun v=>(v.1,v.2 ∘ jy (2*x.ix) p)):=fun h=>by
 rw[frF,hx]
 simp only
 rw[if_neg (by omega),if_neg (by omega),if_pos hk]
theorem st_s (hx:l[n]?=some x) (hk:x.kind=101):∀h,frF l (h+1) (.B n p)=some (.D n p,id):=fun h=>by
 rw[frF,hx]
 simp only
 rw[if_neg (by omega),if_neg (by omega),if_neg (by omega),if_pos hk]
theorem st_x (hx:l[n]?=some x) (hk:x.kind=2∨x.kind=3∨x.kind=5∨x.kind=103):∀h,frF l (h+1) (.B n p)=some (.B n p,id):=fun h=>by
 rw[frF,hx]
 simp only
 rw[if_neg (by omega),if_neg (by omega),if_neg (by omega),if_neg (by omega)]
theorem st_h0 (hx:l[n]?=some x) (hu:x.up < 0):∀h,frF l (h+1) (.H n p)=some (.E p,id):=fun h=>by
 rw[frF,hx];simp[hu]
theorem st_h (hx:l[n]?=some x) (hu:x.up=(m:Int)) (hy:l[m]?=some y) (h:Nat):frF l (h+1) (.H n p)=if y.kind=4 then (if x.nth.toNat+1 < y.subs.length then frF l h (.B (y.subs.getD (x.nth.toNat+1) 0) p) else frF l h (.H m p))
    else if y.kind=7 then (frF l h (.H m p)).map (fun v=>(v.1,v.2 ∘ jy (2*y.ix+1) p))
    else if y.kind=101∨y.kind=102 then some (.D m p,id)
    else frF l h (.H m p):=by
 have e:x.up.toNat=m:=by omega
 rw[frF,hx]
 simp only
 rw[if_neg (by omega),e,hy]
theorem st_h4 (hx:l[n]?=some x) (hu:x.up=(m:Int)) (hy:l[m]?=some y) (hk:y.kind=4) (hl:x.nth.toNat+1 < y.subs.length):∀h,frF l (h+1) (.H n p)=(frF l h (.B (y.subs.getD (x.nth.toNat+1) 0) p)).map id:=fun h=>by
 rw[st_h hx hu hy,if_pos hk,if_pos hl];simp
theorem st_h4e (hx:l[n]?=some x) (hu:x.up=(m:Int)) (hy:l[m]?=some y) (hk:y.kind=4) (hl:¬x.nth.toNat+1 < y.subs.length):∀h,frF l (h+1) (.H n p)=(frF l h (.H m p)).map id:=fun h=>by
 rw[st_h hx hu hy,if_pos hk,if_neg hl];simp
theorem st_h7 (hx:l[n]?=some x) (hu:x.up=(m:Int)) (hy:l[m]?=some y) (hk:y.kind=7):∀h,frF l (h+1) (.H n p)=(frF l h (.H m p)).map (fun v=>(v.1,v.2 ∘ jy (2*y.ix+1) p)):=fun h=>by
 rw[st_h hx hu hy,if_neg (by omega),if_pos hk]
theorem st_hl (hx:l[n]?=some x) (hu:x.up=(m:Int)) (hy:l[m]?=some y) (hk:y.kind=101∨y.kind=102):∀h,frF l (h+1) (.H n p)=some (.D m p,id):=fun h=>by
 rw[st_h hx hu hy,if_neg (by omega),if_neg (by omega),if_pos hk]
theorem st_ho (hx:l[n]?=some x) (hu:x.up=(m:Int)) (hy:l[m]?=some y) (hk:y.kind=5∨y.kind=103):∀h,frF l (h+1) (.H n p)=(frF l h (.H m p)).map id:=fun h=>by
 rw[st_h hx hu hy,if_neg (by omega),if_neg (by omega),if_neg (by omega)];simp
end
def Has (l:List PN) (k:FK):Prop:=∃v h,FR l k v h
theorem Has.back {l:List PN} {k k':FK} {g:AS × CpF→AS × CpF} (hk:∀h,frF l (h+1) k=(frF l h k').map g) (h:Has l k'):Has l k:=by
 obtain⟨v,h,a⟩:=h
 exact⟨g v,h+1,(FR.step hk).2 ⟨v,rfl,a⟩⟩
theorem Has.now {l:List PN} {k:FK} {v:AS × CpF} (hk:∀h,frF l (h+1) k=some v):Has l k:=⟨v,1,FR.now hk⟩
mutual
theorem has_B {l:List PN} {p:Nat}:∀(u:UT) (n:Nat),Rep l u n→Has l (.H n p)→Has l (.B n p)
 | .eps,n,h,hh=>by
  cases h with
  | eps _ x h1 h2=>exact hh.back (st_1 h1 h2)
 | .cls rs,n,h,hh=>by
  cases h with
  | cls _ x h1 h2=>exact .now (st_x h1 (.inl h2))
 | .asr a,n,h,hh=>by
  cases h with
  | asr _ x h1 h2=>exact .now (st_x h1 (.inr (.inl h2)))
 | .cat us,n,h,hh=>by
  cases h with
  | cat _ x _ h1 h2 h0 h3 =>
   refine Has.back (st_4 h1 (.inl h2)) ?_
   obtain⟨s,r,e⟩:=List.exists_cons_of_ne_nil h0
   have es:aR x=s:=by simp[aR,e]
   rw[es]
   exact has_S us n x 0 x.subs h1 h2 rfl h3 hh s (by simp[e])
 | .alt us,n,h,hh=>by
  cases h with
  | alt _ x _ h1 h2 h3=>exact .now (st_x h1 (.inr (.inr (.inl h2))))
 | .grp ix u,n,h,hh=>by
  cases h with
  | grp _ x _ h1 h2 h3 =>
   obtain⟨s,y,e,g1,g2,g3,g4⟩:=h3.one
   refine Has.back (st_7 h1 h2) ?_
   have es:aR x=s:=by simp[aR,e]
   rw[es]
   exact has_B u s g1 (hh.back (st_h7 g2 g3 h1 h2))
 | .star u lz,n,h,hh=>by
  cases h with
  | star _ x _ h1 h2 h3=>exact .now (st_s h1 h2)
 | .plus u lz,n,h,hh=>by
  cases h with
  | plus _ x _ h1 h2 h3 =>
   obtain⟨s,y,e,g1,g2,g3,g4⟩:=h3.one
   refine Has.back (st_4 h1 (.inr h2)) ?_
   have es:aR x=s:=by simp[aR,e]
   rw[es]
   exact has_B u s g1 (.now (st_hl g2 g3 h1 (.inr h2)))
 | .quest u lz,n,h,hh=>by
  cases h with
  | quest _ x _ h1 h2 h3=>exact .now (st_x h1 (.inr (.inr (.inr h2))))
theorem has_S {l:List PN} {p:Nat}:∀(us:List UT) (m:Nat) (y:PN) (k:Nat) (ss:List Nat),l[m]?=some y→y.kind=4→y.subs.drop k=ss→dW l us m k ss→Has l (.H m p)→∀s,ss[0]?=some s→Has l (.B s p)
 | [],m,y,k,ss,_,_,_,h,_,s,hs=>by
  rw[h.none] at hs
  simp at hs
 | u::us,m,y,k,ss,hm,h4,hd,h,hh,s,hs=>by
  cases h with
  | cons _ _ _ _ s' ss' x h1 h2 h3 h5 h6 =>
   simp at hs
   subst hs
   refine has_B u _ h1 ?_
   have en:x.nth.toNat=k:=by omega
   have hd1:y.subs.drop (k+1)=ss':=by rw[show k+1=1+k by omega,Nat.add_comm,←List.drop_drop,hd];rfl
   by_cases hlt:k+1 < y.subs.length
   ·refine Has.back (st_h4 h2 h3 hm h4 (by rw[en];exact hlt)) ?_
    rw[en]
    have hg:ss'[0]?=some (y.subs.getD (k+1) 0):=by
     rw[←hd1,List.getElem?_drop]
     simp[List.getD_eq_getElem?_getD,List.getElem?_eq_getElem hlt]
    exact has_S us m y (k+1) ss' hm h4 hd1 h6 hh _ hg
   ·exact Has.back (st_h4e h2 h3 hm h4 (by rw[en];exact hlt)) hh
end
theorem has_H {l:List PN} {p:Nat} {c:Ctx} {n:Nat} (h:RepC l c n):Has l (.H n p):=by
 induction h with
 | top n x hx hu=>exact .now (st_h0 hx hu)
 | seq n x m y us ss c k hx hu hn hm hk hd hr hc ih =>
  have en:x.nth.toNat=k:=by omega
  by_cases hlt:k+1 < y.subs.length
  ·refine Has.back (st_h4 hx hu hm hk (by rw[en];exact hlt)) ?_
   rw[en]
   refine has_S us m y (k+1) ss hm hk hd hr ih _ ?_
   rw[←hd,List.getElem?_drop]
   simp[List.getD_eq_getElem?_getD,List.getElem?_eq_getElem hlt]
  ·exact Has.back (st_h4e hx hu hm hk (by rw[en];exact hlt)) ih
 | one n x m y c hx hu hm hk hc ih =>
  rcases hk with hk | hk | hk
  ·exact Has.back (st_ho hx hu hm (.inl hk)) ih
  ·exact Has.back (st_h7 hx hu hm hk) ih
  ·exact Has.back (st_ho hx hu hm (.inr hk)) ih
 | loop n x m y u c hx hu hm hk hs hr hc ih=>exact .now (st_hl hx hu hm hk)
abbrev Ok (E:Env) (l:List PN):=Inv E l (fun _=>True)
theorem Ok.hasB {E:Env} {l:List PN} {n p:Nat} (h:Ok E l (.B n p)):Has l (.B n p):=by
 obtain⟨u,c,hr,hc,-⟩:=h
 exact has_B u n hr (has_H hc)
theorem Ok.hasH {E:Env} {l:List PN} {n p:Nat} (h:Ok E l (.H n p)):Has l (.H n p):=by
 obtain⟨c,hc,-⟩:=h
 exact has_H hc
noncomputable def frO (l:List PN) (k:FK):List (AS × CpF):=by
 classical exact if h:∃v h,FR l k v h then [Classical.choose h] else []
theorem frO_eq {l:List PN} {k:FK} {v:AS × CpF} {h:Nat} (a:FR l k v h):frO l k=[v]:=by
 have hex:∃v h,FR l k v h:=⟨v,h,a⟩
 unfold frO
 rw[dif_pos hex]
 obtain⟨h',b⟩:=Classical.choose_spec hex
 rw[(a.det b).1]
noncomputable def chA (l:List PN) (n p:Nat) (x:PN):List (AS × CpF):=if x.lz=true then frO l (.H n p)++frO l (.B (aR x) p) else frO l (.B (aR x) p)++frO l (.H n p)
noncomputable def mvA (E:Env) (l:List PN):AS→List (AS × CpF)
 | .B n p=>match l[n]? with
  | none=>[]
  | some x=>if x.kind=2 then (if E.cls x.rs p=true then frO l (.H n (p+1)) else [])
   else if x.kind=3 then (if E.asr x.asr p=true then frO l (.H n p) else [])
   else if x.kind=5 then x.subs.flatMap (fun s=>frO l (.B s p))
   else if x.kind=103 then chA l n p x
   else []
 | .D n p=>match l[n]? with
  | none=>[]
  | some x=>chA l n p x
 | .E _=>[]
def finA:AS→Prop
 | .E _=>True
 | _=>False
end Go.Proofs.Ytnkefclbchpafaa

/-
  The first that a run of the walker finds: the first walk through the graph of cores. Plain.
-/
namespace Go.Proofs.Ytnkefclbchpafaa
set_option linter.unusedVariables false
section
variable {E : Env} {l : List PN} {at_ : Nat}
abbrev HtA (E:Env) (l:List PN):=Ht (mvA E l) finA
abbrev GdA (E:Env) (l:List PN):=Gd (mvA E l) finA
structure JX (E:Env) (l:List PN) (s:WSt) (Bb:AS→Prop) (z:AS) (h:Nat):Prop where
 bB:∀n p,Bb (.B n p)→s.bg n p=true
 bD:∀n p,Bb (.D n p)→s.dc n p=true
 bE:∀p,¬Bb (.E p)
 bg:∀n p,s.bg n p=true→∀z' f' h',FR l (.B n p) (z',f') h'→¬HtA E l Bb z'∨(z'=z∧h < h')
 dc:∀n p,s.dc n p=true→¬HtA E l Bb (.D n p)
 en:∀p,s.en p=false
 out:s.out=[]
structure J (E:Env) (l:List PN) (s:WSt) (Bb:AS→Prop):Prop where
 bB:∀n p,Bb (.B n p)→s.bg n p=true
 bD:∀n p,Bb (.D n p)→s.dc n p=true
 bE:∀p,¬Bb (.E p)
 bg:∀n p,s.bg n p=true→∀z' f' h',FR l (.B n p) (z',f') h'→¬HtA E l Bb z'
 dc:∀n p,s.dc n p=true→¬HtA E l Bb (.D n p)
 en:∀p,s.en p=false
 out:s.out=[]
theorem J.jx {s:WSt} {Bb:AS→Prop} (h:J E l s Bb) (z:AS) (k:Nat):JX E l s Bb z k:=⟨h.bB,h.bD,h.bE,fun n p a z' f' h' b=>.inl (h.bg n p a z' f' h' b),h.dc,h.en,h.out⟩
theorem JX.j {s:WSt} {Bb:AS→Prop} {z:AS} {k:Nat} (h:JX E l s Bb z k) (hz:¬HtA E l Bb z):J E l s Bb:=⟨h.bB,h.bD,h.bE,fun n p a z' f' h' b=>by
 rcases h.bg n p a z' f' h' b with c | ⟨rfl,_⟩
 ·exact c
 ·exact hz,h.dc,h.en,h.out⟩
structure Res (E:Env) (l:List PN) (at_:Nat) (Bb:AS→Prop) (F:List (AS × CpF)) (c:List Int) (s':WSt):Prop where
 no:(∀z∈F,¬HtA E l Bb z.1)→J E l s' Bb
 yes:∀l1 r f l2,F=l1++(r,f)::l2→(∀z∈l1,¬HtA E l Bb z.1)→HtA E l Bb r→∃p' c' rest,s'.out=(p',(c'.set 0 (at_:Int)).set 1 (p':Int))::rest∧GdA E l Bb r (f c) (.E p',c')
theorem run_out {k:Cl} {s s':WSt} (h:Run E l at_ k s s'):∃e,s'.out=s.out++e:=by
 induction h with
 | Bmet=>exact⟨[],by simp⟩
 | Bgo _ _ _ _ _ _ _ ih=>exact ih
 | K1 _ _ _ _ _ _ _ _ _ ih=>exact ih
 | K2y _ _ _ _ _ _ _ _ _ _ ih=>exact ih
 | K2n=>exact⟨[],by simp⟩
 | K3y _ _ _ _ _ _ _ _ _ _ ih=>exact ih
 | K3n=>exact⟨[],by simp⟩
 | K4 _ _ _ _ _ _ _ _ _ _ ih=>exact ih
 | K5 _ _ _ _ _ _ _ _ _ ih=>exact ih
 | K7 _ _ _ _ _ _ _ _ _ _ ih=>exact ih
 | Kq _ _ _ _ _ _ _ _ _ ih=>exact ih
 | Ks _ _ _ _ _ _ _ _ _ ih=>exact ih
 | A0=>exact⟨[],by simp⟩
 | A1 _ _ _ _ _ _ _ _ _ ih1 ih2=>obtain⟨a,ha⟩:=ih1;obtain⟨b,hb⟩:=ih2;exact⟨a++b,by rw[hb,ha,List.append_assoc]⟩
 | Cy _ _ _ _ _ _ _ _ _ _ _ _ ih1 ih2=>obtain⟨a,ha⟩:=ih1;obtain⟨b,hb⟩:=ih2;exact⟨a++b,by rw[hb,ha,List.append_assoc]⟩
 | Cn _ _ _ _ _ _ _ _ _ _ _ _ ih1 ih2=>obtain⟨a,ha⟩:=ih1;obtain⟨b,hb⟩:=ih2;exact⟨a++b,by rw[hb,ha,List.append_assoc]⟩
 | Dmet=>exact⟨[],by simp⟩
 | Dgo _ _ _ _ _ _ _ ih=>exact ih
 | Hmet=>exact⟨[],by simp⟩
 | Hend=>exact⟨_,rfl⟩
 | H4 _ _ _ _ _ _ _ _ _ _ _ _ _ _ ih=>exact ih
 | H4e _ _ _ _ _ _ _ _ _ _ _ _ _ _ ih=>exact ih
 | H7 _ _ _ _ _ _ _ _ _ _ _ _ _ ih=>exact ih
 | Hl _ _ _ _ _ _ _ _ _ _ _ _ _ ih=>exact ih
 | Ho _ _ _ _ _ _ _ _ _ _ _ _ _ ih=>exact ih
theorem split_app {α:Type}:∀ {F1 F2 l1 l2:List α} {a:α},F1++F2=l1++a::l2→(∃q,F1=l1++a::q)∨∃q,l1=F1++q∧F2=q++a::l2
 | [],F2,l1,l2,a,h=>.inr ⟨l1,rfl,h⟩
 | x::F1,F2,[],l2,a,h=>by
  simp at h
  exact .inl ⟨F1,by rw[h.1];rfl⟩
 | x::F1,F2,y::l1,l2,a,h=>by
  simp at h
  obtain⟨rfl,h⟩:=h
  rcases split_app h with⟨q,e⟩ | ⟨q,e1,e2⟩
  ·exact .inl ⟨q,by rw[e];rfl⟩
  ·exact .inr ⟨q,by rw[e1];rfl,e2⟩
theorem Res.seq {Bb:AS→Prop} {F1 F2:List (AS × CpF)} {c:List Int} {s1 s2:WSt} (h1:Res E l at_ Bb F1 c s1) (h2:J E l s1 Bb→Res E l at_ Bb F2 c s2) (ho:∃e,s2.out=s1.out++e):Res E l at_ Bb (F1++F2) c s2:=by
 refine⟨fun hd=>(h2 (h1.no (fun z hz=>hd z (by simp[hz])))).no (fun z hz=>hd z (by simp[hz])),fun l1 r f l2 e hd hh=>?_⟩
 rcases split_app e with⟨q,e1⟩ | ⟨q,e1,e2⟩
 ·obtain⟨p',c',rest,a,b⟩:=h1.yes l1 r f q e1 hd hh
  obtain⟨x,hx⟩:=ho
  exact⟨p',c',rest++x,by rw[hx,a];rfl,b⟩
 ·exact(h2 (h1.no (fun z hz=>hd z (by rw[e1];simp[hz])))).yes q r f l2 e2 (fun z hz=>hd z (by rw[e1];simp[hz])) hh
theorem Res.nil {Bb:AS→Prop} {c:List Int} {s:WSt} (h:J E l s Bb):Res E l at_ Bb [] c s:=⟨fun _=>h,fun l1 r f l2 e=>by simp at e⟩
theorem Res.core {Bb:AS→Prop} {z:AS} {c:List Int} {s':WSt} (hz:¬Bb z) (hf:¬finA z) (h:Res E l at_ (ins Bb z) (mvA E l z) c s'):Res E l at_ Bb [(z,id)] c s':=by
 refine⟨fun hd=>?_,fun l1 r f l2 e hd hh=>?_⟩
 ·have hn:¬HtA E l Bb z:=hd (z,id) (by simp)
  have hm:∀v∈mvA E l z,¬HtA E l (ins Bb z) v.1:=fun v hv hh=>hn (Ht.of_last hz (.inr ⟨v.1,v.2,hv,hh⟩))
  have hj:=h.no hm
  exact⟨fun n p hb=>hj.bB n p (.inr hb),fun n p hb=>hj.bD n p (.inr hb),fun p hb=>hj.bE p (.inr hb),fun n p a z' f' h' b hh=>hj.bg n p a z' f' h' b (hh.bar hn),fun n p a hh=>hj.dc n p a (hh.bar hn),hj.en,hj.out⟩
 ·have e1:l1=[]∧r=z∧f=id:=by
   cases l1 with
   | nil=>simp at e;exact⟨rfl,e.1.1.symm,e.1.2.symm⟩
   | cons a l1=>simp at e
  obtain⟨rfl,rfl,rfl⟩:=e1
  have key:∀(L:List (AS × CpF)),(∃v∈L,HtA E l (ins Bb r) v.1)→∃m1 v m2,L=m1++v::m2∧(∀w∈m1,¬HtA E l (ins Bb r) w.1)∧HtA E l (ins Bb r) v.1:=by
   intro L
   induction L with
   | nil=>rintro⟨v,hv,-⟩;simp at hv
   | cons a L ih =>
    intro hL
    by_cases ha:HtA E l (ins Bb r) a.1
    ·exact⟨[],a,L,rfl,fun w hw=>by simp at hw,ha⟩
    ·obtain⟨v,hv,hh⟩:=hL
     rcases List.mem_cons.1 hv with rfl | hv
     ·exact absurd hh ha
     ·obtain⟨m1,w,m2,x,y,g⟩:=ih ⟨v,hv,hh⟩
      exact⟨a::m1,w,m2,by rw[x];rfl,fun q hq=>by
       rcases List.mem_cons.1 hq with rfl | hq
       ·exact ha
       ·exact y q hq,g⟩
  rcases hh.last with hq | ⟨r',f',h1,h2⟩
  ·exact absurd hq hf
  ·obtain⟨m1,v,m2,x,y,g⟩:=key _ ⟨(r',f'),h1,h2⟩
   obtain⟨p',c',rest,a,b⟩:=h.yes m1 v.1 v.2 m2 x y g
   exact⟨p',c',rest,a,.go Bb r c m1 v.1 v.2 m2 _ hz x y b⟩
theorem Res.via {Bb:AS→Prop} {z:AS} {f g:CpF} {c:List Int} {s':WSt} (h:Res E l at_ Bb [(z,f)] (g c) s'):Res E l at_ Bb [(z,f ∘ g)] c s':=by
 refine⟨fun hd=>h.no (fun w hw=>by simp at hw;subst hw;exact hd (z,f ∘ g) (by simp)),fun l1 r f' l2 e hd hh=>?_⟩
 have e1:l1=[]∧r=z∧f'=f ∘ g:=by
  cases l1 with
  | nil=>simp at e;exact⟨rfl,e.1.1.symm,e.1.2.symm⟩
  | cons a l1=>simp at e
 obtain⟨rfl,rfl,rfl⟩:=e1
 exact h.yes [] r f [] rfl (fun w hw=>by simp at hw) hh
theorem JX.bar {s:WSt} {Bb:AS→Prop} {z:AS} {k:Nat} (h:JX E l s Bb z k) (hB:∀n p,z=.B n p→s.bg n p=true) (hD:∀n p,z=.D n p→s.dc n p=true) (hE:∀p,z≠.E p):J E l s (ins Bb z):=by
 refine⟨fun n p hb=>?_,fun n p hb=>?_,fun p hb=>?_,fun n p a z' f' h' b hh=>?_,fun n p a hh=>h.dc n p a hh.out,h.en,h.out⟩
 ·rcases hb with hb | hb
  ·exact hB n p hb.symm
  ·exact h.bB n p hb
 ·rcases hb with hb | hb
  ·exact hD n p hb.symm
  ·exact h.bD n p hb
 ·rcases hb with hb | hb
  ·exact hE p hb.symm
  ·exact h.bE p hb
 ·rcases h.bg n p a z' f' h' b with c | ⟨rfl,_⟩
  ·exact c hh.out
  ·exact hh.notB (.inl rfl)
def TC (E:Env) (l:List PN) (at_:Nat):Cl→WSt→WSt→Prop
 | .B n p c,s,s'=>Ok E l (.B n p)→∀(Bb:AS→Prop) z f h,FR l (.B n p) (z,f) h→JX E l s Bb z h→Res E l at_ Bb [(z,f)] c s'
 | .K n p c,s,s'=>Ok E l (.B n p)→∀(Bb:AS→Prop) z f h,FR l (.B n p) (z,f) (h+1)→s.bg n p=true→(z=.B n p→¬Bb z)→JX E l s Bb z h→Res E l at_ Bb [(z,f)] c s'
 | .A ms p c,s,s'=>(∀m∈ms,Ok E l (.B m p))→∀(Bb:AS→Prop),J E l s Bb→Res E l at_ Bb (ms.flatMap (fun m=>frO l (.B m p))) c s'
 | .C n p c,s,s'=>∀x,l[n]?=some x→Ok E l (.B (aR x) p)→Ok E l (.H n p)→∀(Bb:AS→Prop),J E l s Bb→Res E l at_ Bb (chA l n p x) c s'
 | .D n p c,s,s'=>Ok E l (.D n p)→∀(Bb:AS→Prop),JX E l s Bb (.D n p) 0→Res E l at_ Bb [(.D n p,id)] c s'
 | .H n p c,s,s'=>Ok E l (.H n p)→∀(Bb:AS→Prop) z f h,FR l (.H n p) (z,f) h→JX E l s Bb z h→Res E l at_ Bb [(z,f)] c s'
theorem TC.hasB {n p:Nat} {c:List Int} {s s':WSt} (h:TC E l at_ (.B n p c) s s') (hv:Ok E l (.B n p)) {Bb:AS→Prop} (hj:J E l s Bb):Res E l at_ Bb (frO l (.B n p)) c s':=by
 obtain⟨⟨z,f⟩,k,hf⟩:=hv.hasB
 rw[frO_eq hf]
 exact h hv Bb z f k hf (hj.jx _ _)
theorem TC.hasH {n p:Nat} {c:List Int} {s s':WSt} (h:TC E l at_ (.H n p c) s s') (hv:Ok E l (.H n p)) {Bb:AS→Prop} (hj:J E l s Bb):Res E l at_ Bb (frO l (.H n p)) c s':=by
 obtain⟨⟨z,f⟩,k,hf⟩:=hv.hasH
 rw[frO_eq hf]
 exact h hv Bb z f k hf (hj.jx _ _)
theorem mark_jx {s:WSt} {Bb:AS→Prop} {n p h:Nat} {z:AS} {f:CpF} (hf:FR l (.B n p) (z,f) (h+1)) (hj:JX E l s Bb z (h+1)):JX E l { s with bg:=bT s.bg n p } Bb z h:=by
 refine⟨fun i q hb=>mark2_le (hj.bB i q hb),hj.bD,hj.bE,fun i q a z' f' h' b=>?_,hj.dc,hj.en,hj.out⟩
 rcases jK a with⟨rfl,rfl⟩ | a
 ·obtain⟨e1,e2⟩:=hf.det b
  injection e1 with e1 e3
  exact .inr ⟨e1.symm,by omega⟩
 ·rcases hj.bg i q a z' f' h' b with c | ⟨c,d⟩
  ·exact .inl c
  ·exact .inr ⟨c,by omega⟩
theorem run_tc {k:Cl} {s s':WSt} (h:Run E l at_ k s s'):TC E l at_ k s s':=by
 induction h with
 | Bmet n p c s hb =>
  intro hv Bb z f h hf hj
  have hd:¬HtA E l Bb z:=by
   rcases hj.bg n p hb z f h hf with c | ⟨_,c⟩
   ·exact c
   ·omega
  refine⟨fun _=>hj.j hd,fun l1 r f' l2 e hd1 hh=>?_⟩
  have e1:r=z:=by
   cases l1 with
   | nil=>simp at e;exact e.1.1.symm
   | cons a l1=>simp at e
  subst e1
  exact absurd hh hd
 | Bgo n p c s s' hb _ ih =>
  intro hv Bb z f h hf hj
  obtain⟨h0,rfl⟩:=hf.pos
  exact ih hv Bb z f h0 hf (iV _ _ _) (fun e hbb=>by subst e;have:=hj.bB n p hbb;rw[hb] at this;cases this) (mark_jx hf hj)
 | K1 n p c s s' x hx hk _ ih =>
  intro hv Bb z f h hf hm hz hj
  obtain⟨v,e,hf2⟩:=(FR.step (st_1 hx hk)).1 hf
  subst e
  exact ih (bL hv (by simp[succs,hx,hk])) Bb z f h hf2 hj
 | K2y n p c s s' x hx hk he _ ih =>
  intro hv Bb z f h hf hm hz hj
  obtain⟨e1,e2⟩:=hf.det (FR.now (st_x hx (.inl hk)))
  injection e1 with e1 e3
  subst e1 e3
  have hv2:Ok E l (.H n (p+1)):=bL hv (by simp[succs,hx,hk,he])
  have hb:J E l s (ins Bb (.B n p)):=hj.bar (fun i q e=>by injection e with e1 e2;subst e1 e2;exact hm) (fun i q e=>by cases e) (fun q e=>by cases e)
  refine Res.core (hz rfl) (fun h=>h.elim) ?_
  have hmv:mvA E l (.B n p)=frO l (.H n (p+1)):=by simp only[mvA,hx];rw[if_pos hk,if_pos he]
  rw[hmv]
  exact TC.hasH ih hv2 hb
 | K2n n p c s x hx hk he =>
  intro hv Bb z f h hf hm hz hj
  obtain⟨e1,e2⟩:=hf.det (FR.now (st_x hx (.inl hk)))
  injection e1 with e1 e3
  subst e1 e3
  have hb:J E l s (ins Bb (.B n p)):=hj.bar (fun i q e=>by injection e with e1 e2;subst e1 e2;exact hm) (fun i q e=>by cases e) (fun q e=>by cases e)
  refine Res.core (hz rfl) (fun h=>h.elim) ?_
  have hmv:mvA E l (.B n p)=[]:=by simp only[mvA,hx];rw[if_pos hk,if_neg (by rw[he];simp)]
  rw[hmv]
  exact Res.nil hb
 | K3y n p c s s' x hx hk he _ ih =>
  intro hv Bb z f h hf hm hz hj
  obtain⟨e1,e2⟩:=hf.det (FR.now (st_x hx (.inr (.inl hk))))
  injection e1 with e1 e3
  subst e1 e3
  have hv2:Ok E l (.H n p):=bL hv (by simp[succs,hx,hk,he])
  have hb:J E l s (ins Bb (.B n p)):=hj.bar (fun i q e=>by injection e with e1 e2;subst e1 e2;exact hm) (fun i q e=>by cases e) (fun q e=>by cases e)
  refine Res.core (hz rfl) (fun h=>h.elim) ?_
  have hmv:mvA E l (.B n p)=frO l (.H n p):=by simp only[mvA,hx];rw[if_neg (by omega),if_pos hk,if_pos he]
  rw[hmv]
  exact TC.hasH ih hv2 hb
 | K3n n p c s x hx hk he =>
  intro hv Bb z f h hf hm hz hj
  obtain⟨e1,e2⟩:=hf.det (FR.now (st_x hx (.inr (.inl hk))))
  injection e1 with e1 e3
  subst e1 e3
  have hb:J E l s (ins Bb (.B n p)):=hj.bar (fun i q e=>by injection e with e1 e2;subst e1 e2;exact hm) (fun i q e=>by cases e) (fun q e=>by cases e)
  refine Res.core (hz rfl) (fun h=>h.elim) ?_
  have hmv:mvA E l (.B n p)=[]:=by simp only[mvA,hx];rw[if_neg (by omega),if_pos hk,if_neg (by rw[he];simp)]
  rw[hmv]
  exact Res.nil hb
 | K4 n p c s s' x hx hk h0 _ ih =>
  intro hv Bb z f h hf hm hz hj
  obtain⟨v,e,hf2⟩:=(FR.step (st_4 hx hk)).1 hf
  subst e
  exact ih (bL hv (by rcases hk with hk | hk <;> simp[succs,hx,hk])) Bb z f h hf2 hj
 | K5 n p c s s' x hx hk _ ih =>
  intro hv Bb z f h hf hm hz hj
  obtain⟨e1,e2⟩:=hf.det (FR.now (st_x hx (.inr (.inr (.inl hk)))))
  injection e1 with e1 e3
  subst e1 e3
  have hb:J E l s (ins Bb (.B n p)):=hj.bar (fun i q e=>by injection e with e1 e2;subst e1 e2;exact hm) (fun i q e=>by cases e) (fun q e=>by cases e)
  refine Res.core (hz rfl) (fun h=>h.elim) ?_
  have hmv:mvA E l (.B n p)=x.subs.flatMap (fun s=>frO l (.B s p)):=by simp only[mvA,hx];rw[if_neg (by omega),if_neg (by omega),if_pos hk]
  rw[hmv]
  exact ih (fun m hm=>bL hv (by simp[succs,hx,hk,hm])) _ hb
 | K7 n p c s s' x hx hk h0 _ ih =>
  intro hv Bb z f h hf hm hz hj
  obtain⟨⟨z',f'⟩,e,hf2⟩:=(FR.step (st_7 hx hk)).1 hf
  injection e with e1 e2
  subst e1 e2
  exact Res.via (ih (bL hv (by simp[succs,hx,hk])) Bb z f' h hf2 hj)
 | Kq n p c s s' x hx hk _ ih =>
  intro hv Bb z f h hf hm hz hj
  obtain⟨e1,e2⟩:=hf.det (FR.now (st_x hx (.inr (.inr (.inr hk)))))
  injection e1 with e1 e3
  subst e1 e3
  have hb:J E l s (ins Bb (.B n p)):=hj.bar (fun i q e=>by injection e with e1 e2;subst e1 e2;exact hm) (fun i q e=>by cases e) (fun q e=>by cases e)
  refine Res.core (hz rfl) (fun h=>h.elim) ?_
  have hmv:mvA E l (.B n p)=chA l n p x:=by simp only[mvA,hx];rw[if_neg (by omega),if_neg (by omega),if_neg (by omega),if_pos hk]
  rw[hmv]
  exact ih x hx (bL hv (by simp[succs,hx,hk])) (bL hv (by simp[succs,hx,hk])) _ hb
 | Ks n p c s s' x hx hk _ ih =>
  intro hv Bb z f h hf hm hz hj
  obtain⟨e1,e2⟩:=hf.det (FR.now (st_s hx hk))
  injection e1 with e1 e3
  subst e1 e3
  obtain rfl:h=0:=by omega
  exact ih (bL hv (by simp[succs,hx,hk])) Bb hj
 | A0 p c s =>
  intro _ Bb hj
  exact Res.nil hj
 | A1 m r p c s s1 s2 h1 h2 ih1 ih2 =>
  intro hv Bb hj
  rw[List.flatMap_cons]
  exact Res.seq (TC.hasB ih1 (hv m (by simp)) hj) (fun hj1=>ih2 (fun q hq=>hv q (by simp[hq])) Bb hj1) (run_out h2)
 | Cy n p c s s1 s2 x hx h0 hz h1 h2 ih1 ih2 =>
  intro y hy hv1 hv2 Bb hj
  rw[hx] at hy
  injection hy with hy
  subst hy
  unfold chA
  rw[if_pos hz]
  exact Res.seq (TC.hasH ih1 hv2 hj) (fun hj1=>TC.hasB ih2 hv1 hj1) (run_out h2)
 | Cn n p c s s1 s2 x hx h0 hz h1 h2 ih1 ih2 =>
  intro y hy hv1 hv2 Bb hj
  rw[hx] at hy
  injection hy with hy
  subst hy
  unfold chA
  rw[if_neg (by rw[hz];simp)]
  exact Res.seq (TC.hasB ih1 hv1 hj) (fun hj1=>TC.hasH ih2 hv2 hj1) (run_out h2)
 | Dmet n p c s hb =>
  intro hv Bb hj
  have hd:=hj.dc n p hb
  refine⟨fun _=>hj.j hd,fun l1 r f' l2 e hd1 hh=>?_⟩
  have e1:r=.D n p:=by
   cases l1 with
   | nil=>simp at e;exact e.1.1.symm
   | cons a l1=>simp at e
  subst e1
  exact absurd hh hd
 | Dgo n p c s s' hb _ ih =>
  intro hv Bb hj
  have hv':=hv
  obtain⟨u,s0,c0,x,hx,hk,hs,hr,hcl,hc,-⟩:=hv
  have hz:¬Bb (.D n p):=fun h=>by have:=hj.bD n p h;rw[hb] at this;cases this
  refine Res.core hz (fun h=>h.elim) ?_
  have hmv:mvA E l (.D n p)=chA l n p x:=by simp only[mvA,hx]
  rw[hmv]
  refine ih x hx (bL hv' (by simp[succs,hx])) (bL hv' (by simp[succs,hx])) _ ?_
  refine⟨fun i q h=>?_,fun i q h=>?_,fun q h=>?_,fun i q a z' f' h' b hh=>?_,fun i q a hh=>?_,hj.en,hj.out⟩
  ·rcases h with h | h
   ·cases h
   ·exact hj.bB i q h
  ·rcases h with h | h
   ·injection h with e1 e2
    subst e1 e2
    exact iV _ _ _
   ·exact mark2_le (hj.bD i q h)
  ·rcases h with h | h
   ·cases h
   ·exact hj.bE q h
  ·rcases hj.bg i q a z' f' h' b with c | ⟨rfl,_⟩
   ·exact c hh.out
   ·exact hh.notB (.inl rfl)
  ·rcases jK a with⟨rfl,rfl⟩ | a
   ·exact hh.notB (.inl rfl)
   ·exact hj.dc i q a hh.out
 | Hmet n p c s x hx hu he =>
  intro hv Bb z f h hf hj
  have:=hj.en p
  rw[he] at this
  cases this
 | Hend n p c s x hx hu he =>
  intro hv Bb z f h hf hj
  obtain⟨e1,e2⟩:=hf.det (FR.now (st_h0 hx hu))
  injection e1 with e1 e3
  subst e1 e3
  have hht:HtA E l Bb (.E p):=.fin _ (hj.bE p) trivial
  refine⟨fun hd=>absurd hht (hd (.E p,id) (by simp)),fun l1 r f' l2 e hd1 hh=>?_⟩
  have e1:r=.E p∧f'=id:=by
   cases l1 with
   | nil=>simp at e;exact⟨e.1.1.symm,e.1.2.symm⟩
   | cons a l1=>simp at e
  obtain⟨rfl,rfl⟩:=e1
  exact⟨p,c,[],by show s.out++_=_;rw[hj.out];rfl,.fin Bb _ _ (hj.bE p) trivial⟩
 | H4 n p c s s' x m y hx hu hy hk hlt _ ih =>
  intro hv Bb z f h hf hj
  obtain⟨h0,rfl⟩:=hf.pos
  obtain⟨v,e,hf2⟩:=(FR.step (st_h4 hx hu hy hk hlt)).1 hf
  subst e
  refine ih (bL hv ?_) Bb z f h0 hf2 ⟨hj.bB,hj.bD,hj.bE,fun i q a z' f' h' b=>?_,hj.dc,hj.en,hj.out⟩
  ·rw[fQ hx hu hy,if_pos hk,if_pos hlt]
   simp
  ·rcases hj.bg i q a z' f' h' b with c | ⟨c,d⟩
   ·exact .inl c
   ·exact .inr ⟨c,by omega⟩
 | H4e n p c s s' x m y hx hu hy hk hlt _ ih =>
  intro hv Bb z f h hf hj
  obtain⟨h0,rfl⟩:=hf.pos
  obtain⟨v,e,hf2⟩:=(FR.step (st_h4e hx hu hy hk hlt)).1 hf
  subst e
  refine ih (bL hv ?_) Bb z f h0 hf2 ⟨hj.bB,hj.bD,hj.bE,fun i q a z' f' h' b=>?_,hj.dc,hj.en,hj.out⟩
  ·rw[fQ hx hu hy,if_pos hk,if_neg hlt]
   simp
  ·rcases hj.bg i q a z' f' h' b with c | ⟨c,d⟩
   ·exact .inl c
   ·exact .inr ⟨c,by omega⟩
 | H7 n p c s s' x m y hx hu hy hk _ ih =>
  intro hv Bb z f h hf hj
  obtain⟨h0,rfl⟩:=hf.pos
  obtain⟨⟨z',f'⟩,e,hf2⟩:=(FR.step (st_h7 hx hu hy hk)).1 hf
  injection e with e1 e2
  subst e1 e2
  refine Res.via (ih (bL hv ?_) Bb z f' h0 hf2 ⟨hj.bB,hj.bD,hj.bE,fun i q a z' f' h' b=>?_,hj.dc,hj.en,hj.out⟩)
  ·rw[fQ hx hu hy,if_neg (by omega),if_pos hk]
   simp
  ·rcases hj.bg i q a z' f' h' b with c | ⟨c,d⟩
   ·exact .inl c
   ·exact .inr ⟨c,by omega⟩
 | Hl n p c s s' x m y hx hu hy hk _ ih =>
  intro hv Bb z f h hf hj
  obtain⟨e1,e2⟩:=hf.det (FR.now (st_hl hx hu hy hk))
  injection e1 with e1 e3
  subst e1 e3
  refine ih (bL hv ?_) Bb ⟨hj.bB,hj.bD,hj.bE,fun i q a z' f' h' b=>?_,hj.dc,hj.en,hj.out⟩
  ·rw[fQ hx hu hy,if_neg (by omega),if_neg (by omega),if_pos hk]
   simp
  ·rcases hj.bg i q a z' f' h' b with c | ⟨c,d⟩
   ·exact .inl c
   ·exact .inr ⟨c,by omega⟩
 | Ho n p c s s' x m y hx hu hy hk _ ih =>
  intro hv Bb z f h hf hj
  obtain⟨h0,rfl⟩:=hf.pos
  obtain⟨v,e,hf2⟩:=(FR.step (st_ho hx hu hy hk)).1 hf
  subst e
  refine ih (bL hv ?_) Bb z f h0 hf2 ⟨hj.bB,hj.bD,hj.bE,fun i q a z' f' h' b=>?_,hj.dc,hj.en,hj.out⟩
  ·rw[fQ hx hu hy,if_neg (by omega),if_neg (by omega),if_neg (by omega)]
   simp
  ·rcases hj.bg i q a z' f' h' b with c | ⟨c,d⟩
   ·exact .inl c
   ·exact .inr ⟨c,by omega⟩
theorem run_first {n p:Nat} {c:List Int} {s':WSt} (h:Run E l at_ (.B n p c) st0 s') (hv:Ok E l (.B n p)) {z:AS} {f:CpF} {k:Nat} (hf:FR l (.B n p) (z,f) k) :
  (¬HtA E l (fun _=>False) z→s'.out=[])∧(HtA E l (fun _=>False) z→∃p' c' rest,s'.out=(p',(c'.set 0 (at_:Int)).set 1 (p':Int))::rest∧GdA E l (fun _=>False) z (f c) (.E p',c')):=by
 have hj:JX E l st0 (fun _=>False) z k:=⟨fun _ _ h=>h.elim,fun _ _ h=>h.elim,fun _ h=>h,fun n p h=>by simp[st0] at h,fun n p h=>by simp[st0] at h,fun _=>rfl,rfl⟩
 have hr:=run_tc h hv (fun _=>False) z f k hf hj
 refine⟨fun hn=>(hr.no (fun w hw=>by simp at hw;subst hw;exact hn)).out,fun hh=>?_⟩
 exact hr.yes [] z f [] rfl (fun w hw=>by simp at hw) hh
end
end Go.Proofs.Ytnkefclbchpafaa

/-
  The document's run in memory: what a visit finds there and what it leaves (jU); plain lemmas of a visit's arms.
-/
namespace Go.Proofs.Ytnkefclbchpafaa
open Go.RowKit
set_option linter.unusedVariables false
theorem jG:(Try.prog.info? 3).map (fun i=>(i.zero,i.size,i.bytes))=some (some (.int .i64 0),1,8):=by kernel_rfl
def bvs (bs:List Bool):List Value:=bs.map Value.bool
def IntB (w:World) (k:Nat):Prop:=∃cs fr,w.heap[k]?=some (.cells cs 3 fr)
def ThrB (w:World) (k:Nat):Prop:=∃cs fr,w.heap[k]?=some (.cells cs 83 fr)
def Fr (n0 b mb:Nat) (w:World) (k:Nat):Prop:=k=b∨(n0≤k∧(k=mb∨ThrB w k))
theorem Fr.back {n0 b mb:Nat} {w w1:World} (h:Upd (Fr n0 b mb w) w w1) {k:Nat} (hk:k < w.heap.size) (hf:Fr n0 b mb w1 k):Fr n0 b mb w k:=by
 refine Classical.byContradiction fun hn=>?_
 obtain h1 | ⟨h0,h1 | ⟨cs,fr,h1⟩⟩:=hf
 ·exact hn (.inl h1)
 ·exact hn (.inr ⟨h0,.inl h1⟩)
 ·rw[h.block k hk hn] at h1
  exact hn (.inr ⟨h0,.inr ⟨cs,fr,h1⟩⟩)
theorem Fr.trans {n0 b mb:Nat} {w w1 w2:World} (h:Upd (Fr n0 b mb w) w w1) (g:Upd (Fr n0 b mb w1) w1 w2):Upd (Fr n0 b mb w) w w2 :=
 h.trans g (fun k hk hf=>Fr.back h hk hf)
def runCells (A:Option Addr) (n c:Nat) (st cp:Int) (T:Option Addr) (tn tc j mb mc:Nat) (N:Option Addr) (nn nc:Nat) (ok:Bool) (FA:Option Addr) (fn fc:Nat) (wh:Int) (steps:Nat) (over:Bool):Array Value :=
 #[.slice A n c,.int .i64 st,.int .i64 cp,.slice T tn tc,.int .i64 (j:Int),.slice (some ⟨mb,0,none⟩) n mc,.slice N nn nc,.bool ok,.slice FA fn fc,.int .i64 wh,.int .i64 (steps:Int),.bool over]
def CapR (w:World) (A:Option Addr) (n:Nat) (caps:List Int):Prop:=Reads w (IntB w) 1 A n (bn caps)
def ThR (w:World) (n ncaps:Nat) (ths:List (Nat × List Int)) (xs:List Value):Prop :=
 xs.length=ths.length*2∧∀i pc caps,ths[i]?=some (pc,caps)→pc < n∧caps.length=ncaps∧∃A c,xs[i*2]?=some (.int .i64 (pc:Int))∧xs[i*2+1]?=some (.slice A ncaps c)∧CapR w A ncaps caps
def FoundR (w:World) (ncaps:Nat) (fo:Option (List Int × Int)) (A:Option Addr) (fn:Nat) (wh:Int):Prop :=
 (fo=none∧fn=0∧wh=0)∨∃caps,fo=some (caps,wh)∧fn=ncaps∧caps.length=ncaps∧CapR w A ncaps caps
theorem ThR.more {w:World} {n m:Nat} {ths:List (Nat × List Int)} {xs:List Value} (h:ThR w n m ths xs) {pc:Nat} {caps:List Int} {A:Option Addr} {c:Nat} (hp:pc < n) (hl:caps.length=m) (hc:CapR w A m caps) :
  ThR w n m (ths++[(pc,caps)]) (xs++[.int .i64 (pc:Int),.slice A m c]):=by
 refine⟨by simp[h.1];omega,fun i pc2 caps2 hi=>?_⟩
 by_cases hlt:i < ths.length
 ·rw[List.getElem?_append_left hlt] at hi
  obtain⟨h1,h2,A2,c2,h3,h4,h5⟩:=h.2 i pc2 caps2 hi
  exact⟨h1,h2,A2,c2,by rw[List.getElem?_append_left (by rw[h.1];omega)];exact h3,by rw[List.getElem?_append_left (by rw[h.1];omega)];exact h4,h5⟩
 ·have hil:=(List.getElem?_eq_some_iff.1 hi).1
  simp only[List.length_append,List.length_singleton] at hil
  obtain rfl:i=ths.length:=by omega
  rw[List.getElem?_append_right (Nat.le_refl _)] at hi
  simp at hi
  obtain⟨rfl,rfl⟩:=hi
  refine⟨hp,hl,A,c,?_,?_,hc⟩
  ·rw[List.getElem?_append_right (by rw[h.1];omega),h.1];simp
  ·rw[List.getElem?_append_right (by rw[h.1];omega),h.1];simp
def fq (w w':World):Prop:=w.heap.size≤w'.heap.size∧∀k,IntB w k→w'.heap[k]?=w.heap[k]?
theorem IntB.lt {w:World} {k:Nat} (h:IntB w k):k < w.heap.size:=by
 obtain⟨cs,fr,h⟩:=h
 exact(Array.getElem?_eq_some_iff.1 h).1
theorem CapR.keep {w w':World} {A:Option Addr} {n:Nat} {caps:List Int} (h:CapR w A n caps) (hk:fq w w'):CapR w' A n caps:=by
 refine⟨h.1,fun hn=>?_⟩
 obtain⟨ad,e,hb,hs,hc⟩:=h.2 hn
 refine⟨ad,e,Nat.lt_of_lt_of_le hb hk.1,?_,fun j u hu=>?_⟩
 ·obtain⟨cs,fr,hs2⟩:=hs
  exact⟨cs,fr,(hk.2 _ ⟨cs,fr,hs2⟩).trans hs2⟩
 ·exact(World.cell?_of_block (by rw[add_block];exact hk.2 _ hs)).trans (hc j u hu)
theorem ThR.keep {w w':World} {n m:Nat} {ths:List (Nat × List Int)} {xs:List Value} (h:ThR w n m ths xs) (hk:fq w w'):ThR w' n m ths xs :=
 ⟨h.1,fun i pc caps hi=>by
  obtain⟨h1,h2,A,c,h3,h4,h5⟩:=h.2 i pc caps hi
  exact⟨h1,h2,A,c,h3,h4,h5.keep hk⟩⟩
theorem FoundR.keep {w w':World} {m:Nat} {fo:Option (List Int × Int)} {A:Option Addr} {fn:Nat} {wh:Int} (h:FoundR w m fo A fn wh) (hk:fq w w'):FoundR w' m fo A fn wh:=by
 rcases h with h | ⟨caps,h1,h2,h3,h4⟩
 ·exact .inl h
 ·exact .inr ⟨caps,h1,h2,h3,h4.keep hk⟩
theorem fq.trans {w w1 w2:World} (h:fq w w1) (g:fq w1 w2):fq w w2 :=
 ⟨Nat.le_trans h.1 g.1,fun k hk=>by
  have h1:=h.2 k hk
  obtain⟨cs,fr,hk⟩:=hk
  exact(g.2 k ⟨cs,fr,h1.trans hk⟩).trans h1⟩
theorem fq.of {F:Nat→Prop} {w w':World} (hU:Upd F w w') (hF:∀k,IntB w k→¬F k):fq w w' :=
 ⟨hU.size,fun k hk=>hU.block k hk.lt (hF k hk)⟩
structure jU (w:World) (n0 b mb mc:Nat) (A:Option Addr) (c:Nat) (is:List av) (st:Int) (ncaps:Nat) (T:Option Addr) (tc:Nat) (text:List Int) (j:Nat) (s:VSt):Prop where
 insts:dH w (fun k=>k < n0∧k≠b) A is.length is
 txt:dB w (fun k=>k < n0∧k≠b) T text.length text
 n0w:n0≤w.heap.size
 mlen:s.met.length=is.length
 met:w.ownsRow n0 4 1 (.slice (some ⟨mb,0,none⟩) is.length mc) is.length (bvs s.met)
 rest:∃N nc xs FA fn fc wh,Cells w b 80 (runCells A is.length c st ncaps T text.length tc j mb mc N s.next.length nc s.found.isSome FA fn fc wh s.steps s.over) ∧
  w.ownsRow n0 83 2 (.slice N s.next.length nc) s.next.length xs∧ThR w is.length ncaps s.next xs∧FoundR w ncaps s.found FA fn wh
 work:s.steps+s.met.count false≤1099511627776
 room:s.next.length+s.met.count false≤20000
theorem jU.notint {w:World} {n0 b mb mc:Nat} {A:Option Addr} {c:Nat} {is:List av} {st:Int} {ncaps:Nat} {T:Option Addr} {tc:Nat} {text:List Int} {j:Nat} {s:VSt} (h:jU w n0 b mb mc A c is st ncaps T tc text j s) :
  ∀k,IntB w k→¬Fr n0 b mb w k:=by
 rintro k ⟨cs,fr,hk⟩ (h1 | ⟨h0,h1 | ⟨cs2,fr2,h1⟩⟩)
 ·subst h1
  obtain⟨N,nc,xs,FA,fn,fc,wh,hC,-⟩:=h.rest
  unfold Cells at hC
  rw[hC] at hk
  injection hk with hk
  injection hk with _ hk
  revert hk
  decide
 ·subst h1
  obtain⟨cur,hC,-⟩:=aK h.met rfl
  unfold Cells at hC
  rw[hC] at hk
  injection hk with hk
  injection hk with _ hk
  revert hk
  decide
 ·rw[h1] at hk
  injection hk with hk
  injection hk with _ hk
  revert hk
  decide
theorem jU.bne {w:World} {n0 b mb mc:Nat} {A:Option Addr} {c:Nat} {is:List av} {st:Int} {ncaps:Nat} {T:Option Addr} {tc:Nat} {text:List Int} {j:Nat} {s:VSt} (h:jU w n0 b mb mc A c is st ncaps T tc text j s):b≠mb:=by
 obtain⟨N,nc,xs,FA,fn,fc,wh,hC,-⟩:=h.rest
 have h2:=own_ne h.met hC (by decide)
 simp[Value.ownBlock] at h2
 omega
def aG (s:VSt) (pc:Nat):VSt:={ s with met:=s.met.set pc true,steps:=s.steps+1 }
theorem getD_of {bs:List Bool} {k:Nat} {x:Bool} (h:bs[k]?=some x):bs.getD k true=x:=by
 rw[List.getD_eq_getElem?_getD,h];rfl
section
variable {is : List av} {text : List Int} {j f pc : Nat} {caps : List Int} {s : VSt} {x : av}
theorem fO (h:s.over=true):aO is text j (f+1) pc caps s=s:=by rw[aO,h];rfl
theorem fB (h:s.met[pc]?=some true):aO is text j (f+1) pc caps s=s:=by rw[aO,getD_of h];simp
theorem gG (ho:s.over=false) (h:s.met[pc]?=some false) (hx:is[pc]?=some x):aO is text j (f+1) pc caps s =
   if x.op=2 then aO is text j f x.y.toNat caps (aO is text j f x.x.toNat caps (aG s pc))
   else if x.op=7 then aO is text j f x.x.toNat caps (aG s pc)
   else if x.op=3 then aO is text j f x.x.toNat (caps.set x.arg.toNat (j:Int)) (aG s pc)
   else if x.op=4 then if cZ x.arg (part text j 6) then aO is text j f x.x.toNat caps (aG s pc) else aG s pc
   else if x.op=1 then if dI x.rs text j then { aG s pc with next:=s.next++[(x.x.toNat,caps)] } else aG s pc
   else if x.op=5 then { aG s pc with found:=some (caps,x.arg),over:=true }
   else aG s pc:=by
 obtain⟨met,next,found,steps,over⟩:=s
 simp only at ho h
 subst ho
 rw[aO]
 simp only
 rw[getD_of h,hx]
 simp only[Bool.or_false,Bool.false_eq_true,if_false]
 rfl
theorem gH:∀(f pc:Nat) (caps:List Int) (s:VSt),(aO is text j f pc caps s).steps+(aO is text j f pc caps s).met.count false≤s.steps+s.met.count false∧(aO is text j f pc caps s).next.length+(aO is text j f pc caps s).met.count false≤s.next.length+s.met.count false
 | 0,pc,caps,s=>⟨Nat.le_refl _,Nat.le_refl _⟩
 | f+1,pc,caps,s=>by
  rcases ho:s.over with _ | _
  rotate_left
  ·rw[fO ho];exact⟨Nat.le_refl _,Nat.le_refl _⟩
  rcases hm:s.met[pc]? with _ | m
  ·rw[aO,List.getD_eq_getElem?_getD,hm];simp
  rcases m with _ | _
  rotate_left
  ·rw[fB hm];exact⟨Nat.le_refl _,Nat.le_refl _⟩
  rcases hx:is[pc]? with _ | x
  ·rw[aO,getD_of hm,ho,hx];simp
  have hc:=gK hm
  have hM1:(aG s pc).steps+(aG s pc).met.count false=s.steps+s.met.count false:=by
   show s.steps+1+(s.met.set pc true).count false=_
   omega
  have hM2:(aG s pc).next.length+(aG s pc).met.count false+1=s.next.length+s.met.count false:=by
   show s.next.length+(s.met.set pc true).count false+1=_
   omega
  rw[gG ho hm hx]
  split
  ·have h1:=gH f x.x.toNat caps (aG s pc)
   have h2:=gH f x.y.toNat caps (aO is text j f x.x.toNat caps (aG s pc))
   omega
  ·split
   ·have h1:=gH f x.x.toNat caps (aG s pc)
    omega
   ·split
    ·have h1:=gH f x.x.toNat (caps.set x.arg.toNat (j:Int)) (aG s pc)
     omega
    ·split
     ·split
      ·have h1:=gH f x.x.toNat caps (aG s pc)
       omega
      ·omega
     ·split
      ·split
       ·simp only[List.length_append,List.length_singleton]
        have:(aG s pc).next=s.next:=rfl
        rw[this] at hM2
        omega
       ·omega
      ·split
       ·exact⟨by show(aG s pc).steps+(aG s pc).met.count false≤_;omega,by show(aG s pc).next.length+(aG s pc).met.count false≤_;omega⟩
       ·omega
end
theorem vmay_x {x:av} {n:Nat} {caps:Int} (h:bC x n caps=true) (ho:x.op=1∨x.op=2∨x.op=3∨x.op=4∨x.op=7):0≤x.x∧x.x < n:=by
 rcases ho with ho | ho | ho | ho | ho <;> simp[bC,ho,dh] at h <;> omega
theorem vmay_y {x:av} {n:Nat} {caps:Int} (h:bC x n caps=true) (ho:x.op=2):0≤x.y∧x.y < n:=by
 simp[bC,ho,dh] at h;omega
theorem vmay_arg {x:av} {n:Nat} {caps:Int} (h:bC x n caps=true) (ho:x.op=3):0≤x.arg∧x.arg < caps:=by
 simp[bC,ho,dh] at h;omega
theorem vmay_op {x:av} {n:Nat} {caps:Int} (h:bC x n caps=true):x.op=1∨x.op=2∨x.op=3∨x.op=4∨x.op=5∨x.op=6∨x.op=7:=by
 unfold bC at h
 repeat (split at h;· omega)
 cases h
theorem vcheck {is:List av} {start caps:Int} (h:fu is start caps=true):(1≤is.length∧is.length≤20000∧0≤start∧start < is.length∧2≤caps∧caps≤1002)∧∀(i:Nat) (x:av),is[i]?=some x→bC x is.length caps=true:=by
 unfold fu at h
 rw[Bool.and_eq_true] at h
 have h1:=of_decide_eq_true h.1
 refine⟨by omega,fun i x hx=>?_⟩
 exact List.all_eq_true.1 h.2 x (List.mem_of_getElem? hx)
section
variable {w w' : World} {n0 b mb mc : Nat} {A : Option Addr} {c : Nat} {is : List av} {st : Int} {ncaps : Nat} {T : Option Addr} {tc : Nat} {text : List Int} {j : Nat} {s : VSt}
theorem jU.far {F:Nat→Prop} (h:jU w n0 b mb mc A c is st ncaps T tc text j s) (hU:Upd F w w') (hb:¬F b) (hm:¬F mb) (ht:∀k,ThrB w k→¬F k) (hi:∀k,IntB w k→¬F k) (hS:∀k,(k < n0∧k≠b)→¬F k) :
  jU w' n0 b mb mc A c is st ncaps T tc text j s:=by
 obtain⟨N,nc,xs,FA,fn,fc,wh,hB,hN,hT,hF⟩:=h.rest
 have hk:=fq.of hU hi
 refine⟨h.insts.upd hU hS,h.txt.upd hU hS,Nat.le_trans h.n0w hU.size,h.mlen,aJ h.met hU (fun k hk=>by simp[Value.ownBlock] at hk;subst hk;exact hm),
  ⟨N,nc,xs,FA,fn,fc,wh,hB.upd hU hb,aJ hN hU (fun k hk=>?_),hT.keep hk,hF.keep hk⟩,h.work,h.room⟩
 obtain⟨cur,hC,-⟩:=aK hN hk
 exact ht k ⟨cur,_,hC⟩
theorem jU.still (h:jU w n0 b mb mc A c is st ncaps T tc text j s) (hU:Upd Nob w w'):jU w' n0 b mb mc A c is st ncaps T tc text j s :=
 h.far hU aj aj (fun _ _=>aj) (fun _ _=>aj) (fun _ _=>aj)
theorem jU.mark (h:jU w n0 b mb mc A c is st ncaps T tc text j s) {pc:Nat} (hm:s.met[pc]?=some false) :
  jU ((w.setCell ⟨mb,pc,none⟩ (.bool true)).setCell ⟨b,0+7+3,none⟩ (.int .i64 ((s.steps:Int)+1))) n0 b mb mc A c is st ncaps T tc text j (aG s pc) ∧
  Upd (Fr n0 b mb w) w ((w.setCell ⟨mb,pc,none⟩ (.bool true)).setCell ⟨b,0+7+3,none⟩ (.int .i64 ((s.steps:Int)+1))):=by
 obtain⟨N,nc,xs,FA,fn,fc,wh,hB,hN,hT,hF⟩:=h.rest
 have hne:=h.bne
 have hml:=(h.met.lt mb rfl).1
 have hpc:=(List.getElem?_eq_some_iff.1 hm).1
 have hU:Upd (Fr n0 b mb w) w ((w.setCell ⟨mb,pc,none⟩ (.bool true)).setCell ⟨b,0+7+3,none⟩ (.int .i64 ((s.steps:Int)+1))) :=
  ((Upd.refl _ w).setCell _ _ (fun _=>.inr ⟨hml,.inl rfl⟩)).setCell _ _ (fun _=>.inl rfl)
 have hk:=fq.of hU h.notint
 have hS:∀k,(k < n0∧k≠b)→¬Fr n0 b mb w k:=fun k hk hf=>hf.elim hk.2 (fun h=>absurd h.1 (by omega))
 have hcm:=gK hm
 refine⟨⟨h.insts.upd hU hS,h.txt.upd hU hS,Nat.le_trans h.n0w hU.size,?_,?_,⟨N,nc,xs,FA,fn,fc,wh,?_,?_,hT.keep hk,hF.keep hk⟩,?_,?_⟩,hU⟩
 ·show(s.met.set pc true).length=_
  rw[List.length_set,h.mlen]
 ·have h3:=bN (h.met.stored pc (.bool true)).1 ⟨b,0+7+3,none⟩ (.int .i64 ((s.steps:Int)+1)) (by simp[Value.ownBlock];omega)
  have e3:(bvs s.met).set pc (.bool true)=bvs (s.met.set pc true):=by simp[bvs,List.map_set]
  rwa [e3] at h3
 ·exact(hB.far ⟨mb,pc,none⟩ (.bool true) hne).aW 10 (.int .i64 ((s.steps:Int)+1))
 ·have hNb:(Value.slice N s.next.length nc).ownBlock≠some b:=own_ne hN hB (by decide)
  obtain⟨cur,hC,-⟩:=aK h.met rfl
  have hNm:(Value.slice N s.next.length nc).ownBlock≠some mb:=own_ne hN hC (by decide)
  exact bN (bN hN _ _ hNm) _ _ hNb
 ·show s.steps+1+(s.met.set pc true).count false≤_
  have:=h.work
  omega
 ·show s.next.length+(s.met.set pc true).count false≤_
  have:=h.room
  omega
theorem jU.pushed {w1 w9:World} {N:Option Addr} {nc:Nat} {xs:List Value} {FA:Option Addr} {fn fc:Nat} {wh:Int} {px:Nat} {caps:List Int} {C:Option Addr} {cc gN cN:Nat}
  (h:jU w n0 b mb mc A c is st ncaps T tc text j s)
  (hB:Cells w b 80 (runCells A is.length c st ncaps T text.length tc j mb mc N s.next.length nc s.found.isSome FA fn fc wh s.steps s.over))
  (hN:w.ownsRow n0 83 2 (.slice N s.next.length nc) s.next.length xs) (hT:ThR w is.length ncaps s.next xs) (hF:FoundR w ncaps s.found FA fn wh)
  (hp:px < is.length) (hcl:caps.length=ncaps) (hC:CapR w C ncaps caps) (hroom:s.next.length+s.met.count false+1≤20000)
  (hUa:Upd Nob w w1) (hg:w1.grownBy w9 (Value.slice N s.next.length nc).ownBlock)
  (ho:w9.ownsRow n0 83 2 (.slice (some ⟨gN,0,none⟩) (s.next.length+1) cN) (s.next.length+1) (xs++[.int .i64 (px:Int),.slice C ncaps cc])) :
  jU (w9.setCell ⟨b,0+6,none⟩ (.slice (some ⟨gN,0,none⟩) (s.next.length+1) cN)) n0 b mb mc A c is st ncaps T tc text j { s with next:=s.next++[(px,caps)] } ∧
  Upd (Fr n0 b mb w) w (w9.setCell ⟨b,0+6,none⟩ (.slice (some ⟨gN,0,none⟩) (s.next.length+1) cN)):=by
 have hbn:(Value.slice N s.next.length nc).ownBlock≠some b:=own_ne hN hB (by decide)
 have hB1:=hB.upd hUa aj
 have hB9:=hB1.grown hg hbn
 have hob:(Value.slice (some ⟨gN,0,none⟩) (s.next.length+1) cN).ownBlock≠some b:=own_ne ho hB9 (by decide)
 have hU':Upd (fun k=>k=b∨(n0≤k∧ThrB w k)) w (w9.setCell ⟨b,0+6,none⟩ (.slice (some ⟨gN,0,none⟩) (s.next.length+1) cN)):=by
  refine((hUa.mono (fun _ _ h=>absurd h aj)).grown hg (fun k hk _=>?_)).setCell _ _ (fun _=>.inl rfl)
  obtain⟨cur,hC,-⟩:=aK hN hk
  exact .inr ⟨(hN.lt k hk).1,⟨cur,_,hC⟩⟩
 have hU:Upd (Fr n0 b mb w) w (w9.setCell ⟨b,0+6,none⟩ (.slice (some ⟨gN,0,none⟩) (s.next.length+1) cN)):=hU'.mono (fun k _ hk=>hk.elim .inl (fun h=>.inr ⟨h.1,.inr h.2⟩))
 have hk:=fq.of hU h.notint
 have hS:∀k,(k < n0∧k≠b)→¬Fr n0 b mb w k:=fun k hk hf=>hf.elim hk.2 (fun h=>absurd h.1 (by omega))
 have hm:w.ownsRow n0 4 1 (.slice (some ⟨mb,0,none⟩) is.length mc) is.length (bvs s.met):=h.met
 have hne:=h.bne
 have hmb:¬(mb=b∨(n0≤mb∧ThrB w mb)):=by
  rintro(e | ⟨-,⟨cs2,fr,e⟩⟩)
  ·exact hne e.symm
  ·obtain⟨cur,hC2,-⟩:=aK hm rfl
   unfold Cells at hC2
   rw[hC2] at e
   injection e with e
   injection e with _ e
   revert e
   decide
 have el:(s.next++[(px,caps)]).length=s.next.length+1:=by simp
 refine⟨⟨h.insts.upd hU hS,h.txt.upd hU hS,Nat.le_trans h.n0w hU.size,h.mlen,?_,⟨some ⟨gN,0,none⟩,cN,xs++[.int .i64 (px:Int),.slice C ncaps cc],FA,fn,fc,wh,?_,?_,(hT.keep hk).more hp hcl (hC.keep hk),hF.keep hk⟩,h.work,?_⟩,hU⟩
 ·exact aJ hm hU' (fun k hk=>by simp[Value.ownBlock] at hk;subst hk;exact hmb)
 ·show Cells _ b _ (runCells A is.length c st ncaps T text.length tc j mb mc (some ⟨gN,0,none⟩) (s.next++[(px,caps)]).length cN s.found.isSome FA fn fc wh s.steps s.over)
  rw[el]
  exact hB9.aW 6 _
 ·show World.ownsRow _ _ _ _ (.slice (some ⟨gN,0,none⟩) (s.next++[(px,caps)]).length cN) (s.next++[(px,caps)]).length _
  rw[el]
  exact bN ho _ _ hob
 ·show(s.next++[(px,caps)]).length+s.met.count false≤_
  rw[el]
  omega
theorem jU.hit {N:Option Addr} {nc:Nat} {xs:List Value} {FA FA':Option Addr} {fn fc fc':Nat} {wh wh':Int} {caps:List Int}
  (h:jU w n0 b mb mc A c is st ncaps T tc text j s)
  (hB:Cells w b 80 (runCells A is.length c st ncaps T text.length tc j mb mc N s.next.length nc s.found.isSome FA fn fc wh s.steps s.over))
  (hN:w.ownsRow n0 83 2 (.slice N s.next.length nc) s.next.length xs) (hT:ThR w is.length ncaps s.next xs)
  (hcl:caps.length=ncaps) (hU:Upd (fun k=>k=b) w w')
  (hB':Cells w' b 80 (runCells A is.length c st ncaps T text.length tc j mb mc N s.next.length nc true FA' ncaps fc' wh' s.steps true)) (hC:CapR w' FA' ncaps caps) :
  jU w' n0 b mb mc A c is st ncaps T tc text j { s with found:=some (caps,wh'),over:=true }∧Upd (Fr n0 b mb w) w w':=by
 have hU1:Upd (Fr n0 b mb w) w w':=hU.mono (fun k _ hk=>.inl hk)
 have hk:=fq.of hU1 h.notint
 have hS:∀k,(k < n0∧k≠b)→¬Fr n0 b mb w k:=fun k hk hf=>hf.elim hk.2 (fun h=>absurd h.1 (by omega))
 have hbn:(Value.slice N s.next.length nc).ownBlock≠some b:=own_ne hN hB (by decide)
 have hne:=h.bne
 refine⟨⟨h.insts.upd hU1 hS,h.txt.upd hU1 hS,Nat.le_trans h.n0w hU.size,h.mlen,aJ h.met hU (fun k hk=>by simp[Value.ownBlock] at hk;omega),⟨N,nc,xs,FA',ncaps,fc',wh',hB',aJ hN hU (fun k hk e=>hbn (e ▸ hk)),hT.keep hk,.inr ⟨caps,rfl,rfl,hcl,hC⟩⟩,h.work,h.room⟩,hU1⟩
end
end Go.Proofs.Ytnkefclbchpafaa
