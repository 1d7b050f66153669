/-
  PkL2, LyN, TabL, put together.
-/
import Derived.Test.YtnkefclbchpafaaZ27Lay9
import Derived.Test.YtnkefclbchpafaaZ14Held
import Derived.Test.YtnkefclbchpafaaZ21TabG

/-
  What pike.Run finds with a tree's program, by the tree's parses. Plain.
-/
namespace Go.Proofs.Ytnkefclbchpafaa
set_option linter.unusedVariables false
section
variable {t : Tree} {xs : List Int} {m a : Nat}
def Outs (t:Tree) (xs:List Int) (m k:Nat) (out:List (Nat × List Int)):Prop:=∃s',Run (envX xs) (bJ t []).1 k (.B (bJ t []).2 k (List.replicate m (-1))) st0 s'∧s'.out=out
theorem outs_hits (h:d9 t) (ht:kL t) (hl:aL (aH t)+3≤20000) {k:Nat} (hk:k≤xs.length) {out:List (Nat × List Int)} (ho:Outs t xs m k out) :
  (out=[]→¬dR (bZ (aH t)) xs k 0)∧∀p c rest,out=(p,c)::rest→dR (bZ (aH t)) xs k 0∧(jv (bZ (aH t)) 0 m xs k true).1=some (c,0):=by
 obtain⟨s',hr,rfl⟩:=ho
 obtain⟨h1,h2⟩:=tree_law h ht xs (progT_in h hl) hk hr
 refine⟨fun e hh=>?_,fun p c rest e=>?_⟩
 ·obtain⟨p',c,rest,e',-⟩:=h2 hh
  rw[e] at e'
  cases e'
 ·by_cases hh:dR (bZ (aH t)) xs k 0
  ·obtain⟨p',c',rest',e',h3⟩:=h2 hh
   rw[e] at e'
   injection e' with e1 e2
   injection e1 with e3 e4
   subst e4
   exact⟨hh,h3⟩
  ·rw[h1 hh] at e
   cases e
theorem progT_pos (s:Tree):0 < (bZ s).length:=by rw[progT_len];omega
theorem run_found (h:d9 t) (ht:kL t) (hl:aL (aH t)+3≤20000) {an:Bool} {i:Nat} (hai:a≤i) (hi:i≤xs.length) (han:an=true→i=a) (hno:∀k,a≤k→k < i→Outs t xs m k []) {p:Nat} {c:List Int} {rest:List (Nat × List Int)} (ho:Outs t xs m i ((p,c)::rest)) :
  (jv (bZ (aH t)) 0 m xs a an).1=some (c,0):=by
 obtain⟨hh,hr⟩:=(outs_hits h ht hl hi ho).2 p c rest rfl
 cases an with
 | true =>
  obtain rfl:=han rfl
  exact hr
 | false =>
  rw[run_least (progT_in h hl) (progT_pos _) hai hi hh (fun k h1 h2=>(outs_hits h ht hl (by omega) (hno k h1 h2)).1 rfl)]
  exact hr
theorem run_nothing (h:d9 t) (ht:kL t) (hl:aL (aH t)+3≤20000) {an:Bool} (ha:a≤xs.length) (hno:∀k,a≤k→k≤xs.length→(an=true→k=a)→Outs t xs m k []):(jv (bZ (aH t)) 0 m xs a an).1=none:=by
 cases an with
 | true =>
  have hn:=(outs_hits h ht hl ha (hno a (Nat.le_refl _) ha (fun _=>rfl))).1 rfl
  have:=mt (run_iff (progT_in h hl) (progT_pos _) (m:=m) ha).1 hn
  cases hr:(jv (bZ (aH t)) 0 m xs a true).1 with
  | none=>rfl
  | some v=>rw[hr] at this;simp at this
 | false =>
  exact run_none (progT_in h hl) (progT_pos _) ha (fun k h1 h2=>(outs_hits h ht hl h2 (hno k h1 h2 (fun e=>by cases e))).1 rfl)
end
end Go.Proofs.Ytnkefclbchpafaa

/-
  How long the row of an unfolded tree is. Plain.
-/
namespace Go.Proofs.Ytnkefclbchpafaa
set_option linter.unusedVariables false
mutual
def gD:UT→Nat
 | .eps=>1
 | .cls _=>1
 | .asr _=>1
 | .cat us=>1+dP us
 | .alt us=>1+dP us
 | .grp _ u=>1+gD u
 | .star u _=>1+gD u
 | .plus u _=>1+gD u
 | .quest u _=>1+gD u
def dP:List UT→Nat
 | []=>0
 | u::us=>gD u+dP us
end
theorem cntUL_at:∀ {us:List UT} {k:Nat} {u:UT},us[k]?=some u→gD u≤dP us
 | [],_,_,h=>by simp at h
 | u::us,0,_,h=>by
  simp at h
  subst h
  rw[dP];omega
 | u::us,k+1,v,h=>by
  have:=cntUL_at (us:=us) (k:=k) (u:=v) (by simpa using h)
  rw[dP];omega
theorem ldU_cnt {u:UT} {ws:List UT} (h:LdU u ws):1+dP ws≤gD u∧SizeOf.sizeOf ws < SizeOf.sizeOf u:=by
 induction h with
 | here us=>exact⟨by rw[gD];omega,by simp⟩
 | cat us k u ws h1 h2 _ ih =>
  have:=cntUL_at h1
  have hm:=mem_size (List.mem_of_getElem? h1)
  exact⟨by rw[gD];omega,by omega⟩
section
variable {is : List av}
theorem lyO_inv {u:UT} {b t e:Nat} (h:LyO is u b t e):(∃q,t=q+1∧Ly is u (b+1) q)∨∃ws,LdU u ws∧LyOs is ws b t e:=by
 cases h with
 | plain _ _ q _ y z h1 h2 h3 h4 h5 h6=>exact .inl ⟨q,rfl,h6⟩
 | nested _ ws _ _ _ h1 h2 h3=>exact .inr ⟨ws,h1,h3⟩
mutual
theorem ly_len:∀(u:UT) (b e:Nat),Ly is u b e→e+2≤b+3*gD u
 | .eps,b,e,h=>by cases h;rw[gD];omega
 | .cls _,b,e,h=>by cases h;rw[gD];omega
 | .asr _,b,e,h=>by cases h;rw[gD];omega
 | .cat us,b,e,h=>by
  cases h with
  | cat _ _ _ h =>
   have:=lyC_len us b e h
   rw[gD];omega
 | .alt us,b,e,h=>by
  cases h with
  | alt _ _ _ h0 h =>
   have:=lyA_len us b e h
   rw[gD];omega
 | .grp _ u,b,e,h=>by
  cases h with
  | grp _ m _ _ y z h1 h2 h3 h4 h5 h6 =>
   have:=ly_len u _ _ h6
   rw[gD];omega
 | .star u _,b,e,h=>by
  cases h with
  | star _ m _ _ y z h1 h2 h3 h4 h5 h6 =>
   have:=ly_len u _ _ h6
   rw[gD];omega
 | .plus u _,b,e,h=>by
  cases h with
  | plus _ m _ _ y h1 h2 =>
   have:=ly_len u _ _ h2
   rw[gD];omega
 | .quest u _,b,e,h=>by
  cases h with
  | quest _ _ _ _ y h1 h2 h3 h4 h5 h6 =>
   have:=ly_len u _ _ h6
   rw[gD];omega
termination_by u=>(SizeOf.sizeOf u,0)
decreasing_by all_goals (simp_wf;first | (apply Prod.Lex.left;simp;omega) | (apply Prod.Lex.left;simp;done) | (apply Prod.Lex.left;omega))
theorem lyC_len:∀(us:List UT) (b e:Nat),LyC is us b e→e≤b+3*dP us
 | [],b,e,h=>by cases h;omega
 | u::us,b,e,h=>by
  cases h with
  | cons _ _ _ m _ k1 k2 k3 k4 =>
   have:=ly_len u _ _ k3
   have:=lyC_len us _ _ k4
   rw[dP];omega
termination_by us=>(SizeOf.sizeOf us,0)
decreasing_by all_goals (simp_wf;first | (apply Prod.Lex.left;simp;omega) | (apply Prod.Lex.left;simp;done) | (apply Prod.Lex.left;omega))
theorem lyA_len:∀(us:List UT) (b e:Nat),LyA is us b e→e≤b+3*dP us
 | [],b,e,h=>by cases h
 | u::us,b,e,h=>by
  cases h with
  | last _ _ _ k1 =>
   have:=ly_len u _ _ k1
   rw[dP];omega
  | cons _ _ _ t _ k1 k2 k3 k4 =>
   have:=lyO_len u _ _ _ k3
   have:=lyA_len us _ _ k4
   rw[dP];omega
termination_by us=>(SizeOf.sizeOf us,0)
decreasing_by all_goals (simp_wf;first | (apply Prod.Lex.left;simp;omega) | (apply Prod.Lex.left;simp;done) | (apply Prod.Lex.left;omega))
theorem lyO_len:∀(u:UT) (b t e:Nat),LyO is u b t e→t≤b+3*gD u
 | u,b,t,e,h=>by
  rcases lyO_inv h with⟨q,hq,h6⟩ | ⟨ws,h1,h3⟩
  ·have:=ly_len u _ _ h6
   omega
  ·obtain⟨hc,hsz⟩:=ldU_cnt h1
   have:=lyOs_len ws _ _ _ h3
   omega
termination_by u=>(SizeOf.sizeOf u,1)
decreasing_by all_goals (simp_wf;first | (apply Prod.Lex.left;omega) | (apply Prod.Lex.right;omega))
theorem lyOs_len:∀(us:List UT) (b t e:Nat),LyOs is us b t e→t≤b+3*dP us
 | [],b,t,e,h=>by cases h;omega
 | u::us,b,t,e,h=>by
  cases h with
  | cons _ _ _ t1 _ _ k1 k2 k3 k4 =>
   have:=lyO_len u _ _ _ k3
   have:=lyOs_len us _ _ _ k4
   rw[dP];omega
termination_by us=>(SizeOf.sizeOf us,0)
decreasing_by all_goals (simp_wf;first | (apply Prod.Lex.left;simp;omega) | (apply Prod.Lex.left;simp;done) | (apply Prod.Lex.left;omega))
end
end
end Go.Proofs.Ytnkefclbchpafaa

/-
  A tree's row has as many nodes as the unfolded tree. Plain.
-/
namespace Go.Proofs.Ytnkefclbchpafaa
set_option linter.unusedVariables false
theorem cntUL_append:∀(a b:List UT),dP (a++b)=dP a+dP b
 | [],b=>by rw[List.nil_append,dP];omega
 | u::a,b=>by rw[List.cons_append,dP,dP,cntUL_append a b];omega
theorem cntUL_rep (u:UT):∀n,dP (List.replicate n u)=n*gD u
 | 0=>by rw[List.replicate_zero,dP];omega
 | n+1=>by rw[List.replicate_succ,dP,cntUL_rep u n,Nat.add_mul];omega
theorem cntUL_one (u:UT):dP [u]=gD u:=by rw[dP,dP];omega
theorem jZ (x:PN) (l:List PN):(dA x l).1.length=l.length+1:=by
 have:=dJ x l
 omega
theorem row_len' {ss:List Nat} {us:List UT} (h:ss.length=us.length) (l:List PN):(iK ss l).1.length+dP us=l.length+gD (rowU us):=by
 match ss,us,h with
 | [],[],_=>rw[show iK [] l=dA (aX 1 [] false) l from rfl,jZ,rowU,gD,dP]
 | [a],[u],_=>rw[show iK [a] l=(l,a) from rfl,rowU,cntUL_one]
 | a::b::r,u::v::us,_=>rw[show iK (a::b::r) l=dA (aX 4 (a::b::r) false) l from rfl,jZ,show rowU (u::v::us)=.cat (u::v::us) from rfl,gD];omega
def LenF (f:Uf) (u:UT):Prop:=∀l,(f l).1.length=l.length+gD u
theorem opt_len' {f:Uf} {u:UT} (lz:Bool) (hf:LenF f u):∀k,0 < k→LenF (fZ f lz k) (optU u lz k)
 | 0,h=>by omega
 | 1,_=>fun l=>by
  have:=hf l
  rw[show fZ f lz 1 l=dA (aX 103 [(f l).2] lz) (f l).1 from rfl,jZ,optU,gD]
  omega
 | k+2,_=>fun l=>by
  have h1:=hf l
  have h2:=opt_len' lz hf (k+1) (by omega) (f l).1
  have h3:=row_len' (ss:=[(f l).2,(fZ f lz (k+1) (f l).1).2]) (us:=[u,optU u lz (k+1)]) rfl (fZ f lz (k+1) (f l).1).1
  rw[show fZ f lz (k+2) l=dA (aX 103 [(iK [(f l).2,(fZ f lz (k+1) (f l).1).2] (fZ f lz (k+1) (f l).1).1).2] lz) (iK [(f l).2,(fZ f lz (k+1) (f l).1).2] (fZ f lz (k+1) (f l).1).1).1 from rfl,jZ,optU,gD]
  rw[show rowU [u,optU u lz (k+1)]=.cat [u,optU u lz (k+1)] from rfl] at h3
  rw[dP,cntUL_one] at h3
  omega
theorem times_len' {f:Uf} {u:UT} (hf:LenF f u):∀n l,(aF f n l).1.length=l.length+n*gD u∧(aF f n l).2.length=n
 | 0,l=>⟨by simp[aF],rfl⟩
 | n+1,l=>by
  obtain⟨a,b⟩:=times_len' hf n (f l).1
  have:=hf l
  refine⟨?_,by simp only[aF,List.length_cons,b]⟩
  show(aF f n (f l).1).1.length=_
  rw[a,this,Nat.add_mul]
  omega
theorem rep_len' {f:Uf} {u:UT} (hf:LenF f u) {mn mx:Int} (lz:Bool) (h0:0≤mn):LenF (iJ f mn mx lz) (repU u mn mx lz):=fun l=>by
 by_cases hx:mx < 0
 ·by_cases hm0:mn=0
  ·have:=hf l
   rw[repT_star hx hm0,jZ,show repU u mn mx lz=.star u lz by unfold repU;rw[if_pos ⟨hx,hm0⟩],gD]
   omega
  ·obtain⟨N,hN⟩:∃N:Nat,mn=(N:Int)+1:=⟨(mn - 1).toNat,by omega⟩
   obtain⟨a,b⟩:=times_len' hf N l
   have h1:=hf (aF f N l).1
   rw[repT_plus hx hN]
   have h3:=fun(s:Nat) (l':List PN)=>row_len' (ss:=(aF f N l).2++[s]) (us:=List.replicate N u++[.plus u lz]) (by simp[b]) l'
   have e:repU u mn mx lz=rowU (List.replicate N u++[.plus u lz]):=by unfold repU;rw[if_neg (by omega),if_pos hx,if_pos hx,show(mn - 1).toNat=N by omega]
   rw[e]
   have h4:=h3 (dA (aX 102 [(f (aF f N l).1).2] lz) (f (aF f N l).1).1).2 (dA (aX 102 [(f (aF f N l).1).2] lz) (f (aF f N l).1).1).1
   rw[cntUL_append,cntUL_rep,cntUL_one,jZ,gD] at h4
   omega
 ·obtain⟨N,hN⟩:∃N:Nat,mn=(N:Int):=⟨mn.toNat,by omega⟩
  obtain⟨a,b⟩:=times_len' hf N l
  by_cases hmm:mn < mx
  ·obtain⟨K,hK⟩:∃K:Nat,mx - mn=(K:Int):=⟨(mx - mn).toNat,by omega⟩
   rw[repT_opt hx hmm hN hK]
   have h1:=opt_len' lz hf K (by omega) (aF f N l).1
   have e:repU u mn mx lz=rowU (List.replicate N u++[optU u lz K]):=by unfold repU;rw[if_neg (by omega),if_neg hx,if_neg hx,if_pos hmm,show mn.toNat=N by omega,show(mx - mn).toNat=K by omega]
   rw[e]
   have h4:=row_len' (ss:=(aF f N l).2++[(fZ f lz K (aF f N l).1).2]) (us:=List.replicate N u++[optU u lz K]) (by simp[b]) (fZ f lz K (aF f N l).1).1
   rw[cntUL_append,cntUL_rep,cntUL_one] at h4
   omega
  ·rw[jL hx hmm hN]
   have e:repU u mn mx lz=rowU (List.replicate N u):=by unfold repU;rw[if_neg (by omega),if_neg hx,if_neg hx,if_neg hmm,show mn.toNat=N by omega,List.append_nil]
   rw[e]
   have h4:=row_len' (ss:=(aF f N l).2) (us:=List.replicate N u) (by simp[b]) (aF f N l).1
   rw[cntUL_rep] at h4
   omega
theorem list_len':∀(ts:List Tree),(∀x∈ts,LenF (bJ x) (jS x))→∀l,(bU ts l).1.length=l.length+dP (gP ts)
 | [],_,l=>by rw[bU,gP,dP];rfl
 | x::r,hs,l=>by
  have h1:=hs x (by simp) l
  have h2:=list_len' r (fun y hy=>hs y (by simp[hy])) (bJ x l).1
  rw[bU,gP,dP]
  show(bU r (bJ x l).1).1.length=_
  omega
theorem unf_len' (n:Nat):∀(t:Tree),SizeOf.sizeOf t≤n→OkU t→OkV t→LenF (bJ t) (jS t):=by
 induction n with
 | zero=>exact fun t h=>by obtain⟨k,r,a,l,m,x,z,i,nn⟩:=t;simp at h
 | succ n ih =>
 intro t hn hu hv l
 have hsub:∀x∈t.subs,LenF (bJ x) (jS x):=fun x hx=>ih x (by have:=Tree.sub_lt hx;omega) (hu.top.2 x hx) (hv.top.2 x hx)
 obtain⟨u1,u2,u3,u4⟩:=hu.top.1
 obtain⟨v1,v2⟩:=hv.top.1
 by_cases hk6:t.kind=6
 ·have hl:=u4 (.inl hk6)
  obtain⟨x,hx⟩:∃x,t.subs[0]?=some x:=⟨_,List.getElem?_eq_getElem (by omega)⟩
  obtain⟨m0,-⟩:=v1 hk6
  rw[unfT_6 hk6 hx]
  have:=rep_len' (hsub x (List.mem_of_getElem? hx)) (mx:=t.mx) t.lz m0 l
  rw[this]
  obtain⟨k,rs,am,subs,mn,mx,lz,ix,nm⟩:=t
  have hk6:k=6:=hk6
  obtain⟨s,rfl⟩:=List.length_eq_one_iff.1 (show subs.length=1 from hl)
  have hx:some s=some x:=hx
  injection hx with hx
  subst hx
  rw[jS,if_pos (show k=6 from hk6),unfUH]
  rfl
 ·rw[unfT_n hk6,jZ,list_len' t.subs hsub l]
  obtain⟨k,rs,am,subs,mn,mx,lz,ix,nm⟩:=t
  have hk6:¬k=6:=hk6
  have u1:1≤k:=u1
  have u2:k≤7:=u2
  have u4:k=6∨k=7→subs.length=1:=u4
  have v2:k≤3→subs.length=0:=v2
  show l.length+dP (gP subs)+1=_
  rw[jS,if_neg hk6]
  by_cases k3:k≤3
  ·obtain rfl:=List.eq_nil_of_length_eq_zero (v2 k3)
   rw[gP,dP]
   split
   ·rw[gD]
   split
   ·rw[gD]
   rw[if_neg (by omega),if_neg (by omega),if_neg (by omega),gD]
  ·rw[if_neg (by omega),if_neg (by omega)]
   split
   ·rw[gD];omega
   split
   ·rw[gD];omega
   ·rw[if_pos (by omega),gD]
    obtain⟨s,rfl⟩:=List.length_eq_one_iff.1 (u4 (by omega))
    rw[unfUH,gP,gP,cntUL_one]
    omega
end Go.Proofs.Ytnkefclbchpafaa
