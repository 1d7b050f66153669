/-
  FormW, Join7, Unfd7, put together.
-/
import Derived.Test.YtnkefclbchpafaaZ23Lp9
import Derived.Test.YtnkefclbchpafaaZ21TabG
import Derived.Test.YtnkefclbchpafaaZ17Sum7

/-
  How wide a simple form is: no list in it is longer than the tree's size. Plain.
-/
namespace Go.Proofs.Ytnkefclbchpafaa
set_option linter.unusedVariables false
def fw (s:Tree):Nat:=if s.kind=1 then 0 else if s.kind=4 then s.subs.length else 1
def wd (s:Tree):Nat:=max 1 s.subs.length
def wz (s:Tree):Nat:=if s.kind=1 then 0 else wd s
def fwL:List Tree→Nat
 | []=>0
 | t::l=>fw t+fwL l
def wzL:List Tree→Nat
 | []=>0
 | t::l=>wz t+wzL l
theorem fw_le (s:Tree):fw s≤wz s:=by
 unfold fw wz wd
 split
 ·exact Nat.le_refl _
 ·split <;> omega
theorem fwL_le:∀l,fwL l≤wzL l
 | []=>Nat.le_refl _
 | t::l=>by
  have:=fw_le t
  have:=fwL_le l
  rw[fwL,wzL]
  omega
theorem flatJ_len:∀l,(aZ l).length=fwL l
 | []=>rfl
 | t::l=>by
  rw[aZ,List.length_append,flatJ_len l,fwL,fw]
  split
  ·rfl
  ·split <;> rfl
theorem wzL_app:∀a b,wzL (a++b)=wzL a+wzL b
 | [],b=>by rw[List.nil_append,wzL];omega
 | t::a,b=>by rw[List.cons_append,wzL,wzL,wzL_app a b];omega
theorem wzL_rep (y:Tree):∀n,wzL (List.replicate n y)=n*wz y
 | 0=>by simp[wzL]
 | n+1=>by rw[List.replicate_succ,wzL,wzL_rep y n,Nat.add_mul];omega
theorem wzL_one (y:Tree):wzL [y]=wz y:=by rw[wzL,wzL];omega
theorem wz_le (s:Tree):wz s≤wd s:=by
 unfold wz
 split <;> omega
def fa (s:Tree):Nat:=if s.kind=5 then s.subs.length else 1
theorem fa_le (s:Tree):fa s≤wd s:=by
 unfold fa wd
 split <;> omega
def wdL:List Tree→Nat
 | []=>0
 | t::l=>wd t+wdL l
theorem wzL_wdL:∀l,wzL l≤wdL l
 | []=>Nat.le_refl _
 | t::l=>by
  have:=wz_le t
  have:=wzL_wdL l
  rw[wzL,wdL]
  omega
theorem wd_pos (s:Tree):1≤wd s:=by unfold wd;omega
theorem len_wdL:∀l,l.length≤wdL l
 | []=>Nat.le_refl _
 | t::l=>by
  have:=wd_pos t
  have:=len_wdL l
  rw[wdL,List.length_cons]
  omega
theorem flatA_le:∀l,(cK l).length≤wdL l
 | []=>Nat.le_refl _
 | t::l=>by
  have h1:=fa_le t
  have h2:=flatA_le l
  rw[cK,List.length_append,wdL]
  have:(if t.kind=5 then t.subs else [t]).length=fa t:=by
   unfold fa
   split <;> rfl
  omega
def K4 (s:Tree):Prop:=s.kind=4→2≤s.subs.length
theorem flatJ_one:∀(l:List Tree),(∀x∈l,K4 x)→∀t,aZ l=[t]→t∈l∧t.kind≠1
 | [],_,t,h=>by simp[aZ] at h
 | s::l,hk,t,h=>by
  rw[aZ] at h
  split at h
  ·obtain⟨a,b⟩:=flatJ_one l (fun x hx=>hk x (by simp[hx])) t h
   exact⟨by simp[a],b⟩
  split at h
  ·rename_i k4
   have:=hk s (by simp) k4
   have e:=congrArg List.length h
   simp at e
   omega
  ·rename_i k1 _
   have h:s::aZ l=[t]:=h
   injection h with h1 _
   subst h1
   exact⟨by simp,k1⟩
theorem wzL_mem:∀(l:List Tree) (t:Tree),t∈l→wz t≤wzL l
 | [],t,h=>by simp at h
 | s::l,t,h=>by
  rw[wzL]
  rcases List.mem_cons.1 h with rfl | h
  ·omega
  ·have:=wzL_mem l t h;omega
theorem join_wide {l:List Tree} (hk:∀x∈l,K4 x) {B:Nat} (h1:1≤B) (hB:wzL l≤B):wd (bR l)≤B∧K4 (bR l):=by
 have hl:=flatJ_len l
 have hf:=fwL_le l
 unfold bR
 split
 ·exact⟨by show max 1 0≤B;omega,fun h=>absurd h (by simp[Tree.kind,aV])⟩
 ·rename_i t ht
  obtain⟨a,b⟩:=flatJ_one l hk t ht
  have:=wzL_mem l t a
  rw[wz,if_neg b] at this
  exact⟨by omega,hk t a⟩
 ·rename_i h0 h2
  refine⟨by show max 1 (aZ l).length≤B;omega,fun _=>?_⟩
  show 2≤(aZ l).length
  match hq:aZ l with
  | []=>exact absurd hq h0
  | [t]=>exact absurd hq (h2 t)
  | _::_::_=>simp
theorem wd_loop (y:Tree) (mn mx:Int) (lz:Bool):wd (aY y mn mx lz)=1∧K4 (aY y mn mx lz)∧wz (aY y mn mx lz)=1:=⟨rfl,fun h=>absurd h (by simp[Tree.kind,aY]),rfl⟩
theorem wz_opt (y:Tree) (lz:Bool):∀k,wz (jD y lz k)≤min k 1∧K4 (jD y lz k)
 | 0=>⟨Nat.le_refl _,fun h=>absurd h (by simp[Tree.kind,jD,aV])⟩
 | 1=>⟨by rw[jD,(wd_loop _ _ _ _).2.2];omega,(wd_loop _ _ _ _).2.1⟩
 | k+2=>⟨by rw[jD,(wd_loop _ _ _ _).2.2];omega,by rw[jD];exact(wd_loop _ _ _ _).2.1⟩
theorem szL_ge:∀(l:List Tree) (n:Int),szL n l < 1073741824→(∀x∈l,1≤szT x)→n≤szL n l∧(∀x∈l,n+szT x≤szL n l)
 | [],n,h,_=>by rw[szL] at h ⊢;exact⟨by omega,fun x hx=>by simp at hx⟩
 | t::l,n,h,hp=>by
  rw[szL] at h ⊢
  have h1:=hp t (by simp)
  by_cases hb:n+szT t < 1073741824
  ·rw[show min 1073741824 (n+szT t)=n+szT t by omega] at h ⊢
   obtain⟨a,b⟩:=szL_ge l _ h (fun x hx=>hp x (by simp[hx]))
   refine⟨by omega,fun x hx=>?_⟩
   rcases List.mem_cons.1 hx with rfl | hx
   ·omega
   ·have:=b x hx;omega
  ·rw[show min 1073741824 (n+szT t)=1073741824 by omega] at h
   have:=(szL_ge l _ h (fun x hx=>hp x (by simp[hx]))).1
   omega
theorem szL_sum:∀(l:List Tree) (n:Int),szL n l < 1073741824→(∀x∈l,1≤szT x)→(∀x∈l,(wd (aH x):Int)≤szT x)→n+(wdL (aU l):Int)≤szL n l
 | [],n,h,_,_=>by rw[szL,aU,wdL];simp
 | t::l,n,h,hp,hw=>by
  have h0:=(szL_ge (t::l) n h hp).2 t (by simp)
  rw[szL] at h ⊢
  have h1:=hp t (by simp)
  have h2:=hw t (by simp)
  have hb:n+szT t < 1073741824:=by
   rw[szL] at h0
   omega
  rw[show min 1073741824 (n+szT t)=n+szT t by omega] at h ⊢
  have:=szL_sum l _ h (fun x hx=>hp x (by simp[hx])) (fun x hx=>hw x (by simp[hx]))
  rw[aU,wdL]
  omega
theorem formTL_len:∀l,(aU l).length=l.length
 | []=>by rw[aU]
 | t::l=>by rw[aU];simp[formTL_len l]
theorem szT_pos (n:Nat):∀(t:Tree),SizeOf.sizeOf t≤n→OkV t→1≤szT t:=by
 induction n with
 | zero=>exact fun t h=>absurd h (dw t)
 | succ n ih =>
 intro t hn hv
 have hp:∀x∈t.subs,1≤szT x:=fun x hx=>ih x (by have:=Tree.sub_lt hx;omega) (hv.top.2 x hx)
 have h0:0≤szL 0 t.subs:=by
  by_cases hb:szL 0 t.subs < 1073741824
  ·exact(szL_ge _ 0 hb hp).1
  ·omega
 rw[szT_eq]
 split
 ·rename_i hk6
  obtain⟨m0,m1,m2,-⟩:=hv.top.1.1 hk6
  unfold repZ
  split
  ·omega
  split
  ·have:=Int.mul_nonneg m0 h0
   omega
  ·omega
 ·split <;> omega
theorem szL_one (x:Tree):szL 0 [x]=min 1073741824 (szT x):=by rw[szL,szL,Int.zero_add]
structure Wide (t:Tree):Prop where
 sub:(t.kind=6→t.mx≠0)→∀x∈t.subs,szT x≤szT t
 len:t.kind=4∨t.kind=5∨t.kind=7→(t.subs.length:Int)≤szT t
 wid:(wd (aH t):Int)≤szT t
 all:t.kind=4∨t.kind=5→(wdL (aU t.subs):Int)≤szT t
 rep:t.kind=6→t.mx≠0→∀x∈t.subs,(wd (aH x):Int)≤szT t∧(t.mx=-1→((t.mn - 1).toNat*wz (aH x)+1:Nat)≤szT t)∧(t.mx≠-1→(t.mn.toNat*wz (aH x)+min (t.mx - t.mn).toNat 1:Nat)≤szT t)
theorem mul_mono {a b c d:Int} (h1:0≤a) (h2:a≤b) (h3:0≤c) (h4:c≤d):a*c≤b*d:=Int.mul_le_mul h2 h4 h3 (by omega)
theorem form_wide (n:Nat):∀(t:Tree) (d:Int),SizeOf.sizeOf t≤n→OkF t d→szT t < 1000000→Wide t∧K4 (aH t):=by
 induction n with
 | zero=>exact fun t d h=>absurd h (dw t)
 | succ n ih =>
 intro t d hn ho hz
 obtain⟨h1,h2,h3⟩:=ho.top
 have q:=nodeK h1
 have hv:=okV_of _ t d (Nat.le_refl _) ho
 have hp:∀x∈t.subs,1≤szT x:=fun x hx=>szT_pos _ x (Nat.le_refl _) (hv.top.2 x hx)
 have hsub:∀x∈t.subs,szT x < 1000000→Wide x∧K4 (aH x):=fun x hx hb=>by
  obtain⟨i,hi⟩:=List.mem_iff_getElem?.1 hx
  exact ih x (d+1) (by have:=Tree.sub_lt hx;omega) (h3 i x hi) hb
 have hE:=szT_eq t
 have hpos:=szT_pos _ t (Nat.le_refl _) hv
 by_cases hk6:t.kind=6
 ·obtain⟨m0,m1,m2⟩:=q.cnt hk6
  have hl:=q.one (.inl hk6)
  obtain⟨x,hx⟩:=List.length_eq_one_iff.1 hl
  rw[if_pos hk6,hx,szL_one] at hE
  have hxm:x∈t.subs:=by rw[hx];simp
  have hx1:=hp x hxm
  obtain⟨k,rs,am,subs,mn,mx,lz,ix,nm⟩:=t
  have hk6:k=6:=hk6
  have hx:subs=[x]:=hx
  subst hk6 hx
  have m0:0≤mn:=m0
  have m1:mn≤1000:=m1
  have m2:mx=-1∨mn≤mx∧mx≤1000:=m2
  have hE:szT (.mk 6 rs am [x] mn mx lz ix nm)=min 1073741824 (repZ (min 1073741824 (szT x)) mn mx):=hE
  by_cases hx0:mx=0
  ·subst hx0
   have e:aH (.mk 6 rs am [x] mn 0 lz ix nm)=aV:=by rw[aH];simp[kD]
   refine⟨⟨fun h=>absurd rfl (h rfl),fun h=>absurd h (by show ¬((6:Int)=4∨(6:Int)=5∨(6:Int)=7);omega),by rw[e];exact hpos,fun h=>absurd h (by show ¬((6:Int)=4∨(6:Int)=5);omega),fun _ h=>absurd rfl h⟩,by rw[e];exact fun h=>absurd h (by simp[Tree.kind,aV])⟩
  obtain⟨v,hv0,hv⟩:∃v,min 1073741824 (szT x)=v∧1≤v:=⟨_,rfl,by omega⟩
  rw[hv0] at hE
  have hr:v≤repZ v mn mx:=by
   unfold repZ
   split
   ·omega
   split
   ·have:=mul_mono (a:=1) (b:=mn) (c:=v) (d:=v) (by omega) (by omega) (by omega) (by omega)
    omega
   ·obtain⟨k,hk⟩:∃k,mx - mn=k:=⟨_,rfl⟩
    rw[hk]
    have a1:=Int.mul_nonneg m0 (show 0≤v by omega)
    have a2:=Int.mul_nonneg (show 0≤k by omega) (show 0≤1+v by omega)
    by_cases hkk:1≤k
    ·have:=mul_mono (a:=1) (b:=k) (c:=1+v) (d:=1+v) (by omega) (by omega) (by omega) (by omega)
     omega
    ·have:=mul_mono (a:=1) (b:=mn) (c:=v) (d:=v) (by omega) (by omega) (by omega) (by omega)
     omega
  have hvx:szT x=v:=by omega
  obtain⟨W,hK⟩:=hsub x hxm (by omega)
  have hwx:=W.wid
  have hwz:=wz_le (aH x)
  obtain⟨z,hz0⟩:∃z,wz (aH x)=z:=⟨_,rfl⟩
  have hzv:(z:Int)≤v:=by omega
  have r1:mx=-1→((mn - 1).toNat*z+1:Nat)≤szT (.mk 6 rs am [x] mn mx lz ix nm):=fun e=>by
   rw[hE]
   unfold repZ
   by_cases hm0:mn=0
   ·rw[if_pos ⟨by omega,hm0⟩,show(mn - 1).toNat=0 by omega]
    simp
    omega
   ·rw[if_neg (by omega),if_pos (by omega)]
    have hb:mn*v+1 < 1000000∨1000000≤mn*v+1:=by omega
    have:=mul_mono (a:=((mn - 1).toNat:Int)) (b:=mn) (c:=z) (d:=v) (by omega) (by omega) (by omega) hzv
    rw[hE] at hz
    unfold repZ at hz
    rw[if_neg (by omega),if_pos (by omega)] at hz
    simp only[Int.natCast_add,Int.natCast_mul]
    omega
  have r2:mx≠-1→(mn.toNat*z+min (mx - mn).toNat 1:Nat)≤szT (.mk 6 rs am [x] mn mx lz ix nm):=fun e=>by
   rw[hE] at hz ⊢
   unfold repZ at hz ⊢
   rw[if_neg (by omega),if_neg (by omega)] at hz ⊢
   obtain⟨k,hk⟩:∃k,mx - mn=k:=⟨_,rfl⟩
   rw[hk] at hz ⊢
   have a1:=mul_mono (a:=(mn.toNat:Int)) (b:=mn) (c:=z) (d:=v) (by omega) (by omega) (by omega) hzv
   have a2:=mul_mono (a:=k) (b:=k) (c:=1) (d:=1+v) (by omega) (by omega) (by omega) (by omega)
   simp only[Int.natCast_add,Int.natCast_mul]
   omega
  have hfm:aH (.mk 6 rs am [x] mn mx lz ix nm)=kD (aH x) mn mx lz:=by rw[aH];simp[eu]
  have hmain:(wd (aH (.mk 6 rs am [x] mn mx lz ix nm)):Int)≤szT (.mk 6 rs am [x] mn mx lz ix nm)∧K4 (aH (.mk 6 rs am [x] mn mx lz ix nm)):=by
   rw[hfm]
   unfold kD
   rw[if_neg hx0]
   by_cases hm1:mx=-1
   ·rw[if_pos hm1]
    obtain⟨a,b⟩:=join_wide (l:=List.replicate (mn - 1).toNat (aH x)++[aY (aH x) (min mn 1) (-1) lz]) (fun y hy=>by
     rcases List.mem_append.1 hy with hy | hy
     ·rw[(List.mem_replicate.1 hy).2];exact hK
     ·obtain rfl:y=aY (aH x) (min mn 1) (-1) lz:=by simpa using hy
      exact(wd_loop _ _ _ _).2.1) (B:=(mn - 1).toNat*z+1) (by omega) (by rw[wzL_app,wzL_rep,wzL_one,(wd_loop _ _ _ _).2.2,hz0];exact Nat.le_refl _)
    have:=r1 hm1
    exact⟨by omega,b⟩
   ·rw[if_neg hm1]
    obtain⟨o1,o2⟩:=wz_opt (aH x) lz (mx - mn).toNat
    obtain⟨B,hB⟩:∃B,szT (.mk 6 rs am [x] mn mx lz ix nm)=(B:Nat):=⟨_,(Int.toNat_of_nonneg (by omega)).symm⟩
    have:=r2 hm1
    obtain⟨a,b⟩:=join_wide (l:=List.replicate mn.toNat (aH x)++[jD (aH x) lz (mx - mn).toNat]) (fun y hy=>by
     rcases List.mem_append.1 hy with hy | hy
     ·rw[(List.mem_replicate.1 hy).2];exact hK
     ·obtain rfl:y=jD (aH x) lz (mx - mn).toNat:=by simpa using hy
      exact o2) (B:=B) (by omega) (by rw[wzL_app,wzL_rep,wzL_one,hz0];omega)
    exact⟨by omega,b⟩
  refine⟨⟨fun _ y hy=>?_,fun h=>absurd h (by show ¬((6:Int)=4∨(6:Int)=5∨(6:Int)=7);omega),hmain.1,fun h=>absurd h (by show ¬((6:Int)=4∨(6:Int)=5);omega),fun _ _ y hy=>?_⟩,hmain.2⟩
  ·obtain rfl:y=x:=by simpa [Tree.subs] using hy
   omega
  ·obtain rfl:y=x:=by simpa [Tree.subs] using hy
   rw[hz0]
   exact⟨by omega,r1,r2⟩
 ·rw[if_neg hk6] at hE
  by_cases hk:t.kind=4∨t.kind=5∨t.kind=7
  ·rw[if_pos hk] at hE
   have hs:szL 0 t.subs < 1073741824:=by omega
   obtain⟨g1,g2⟩:=szL_ge _ 0 hs hp
   have hw:∀x∈t.subs,Wide x∧K4 (aH x):=fun x hx=>hsub x hx (by have:=g2 x hx;omega)
   have hsum:=szL_sum _ 0 hs hp (fun x hx=>(hw x hx).1.wid)
   have hlen:(t.subs.length:Int)≤wdL (aU t.subs):=by
    have:=len_wdL (aU t.subs)
    rw[formTL_len] at this
    omega
   have hmem:∀(l:List Tree),(∀x∈l,Wide x∧K4 (aH x))→∀y∈aU l,K4 y:=fun l=>by
    induction l with
    | nil=>intro _ y hy;rw[aU] at hy;simp at hy
    | cons a l ih2 =>
     intro h y hy
     rw[aU] at hy
     rcases List.mem_cons.1 hy with rfl | hy
     ·exact(h a (by simp)).2
     ·exact ih2 (fun x hx=>h x (by simp[hx])) y hy
   obtain⟨B,hB⟩:∃B,szT t=(B:Nat):=⟨_,(Int.toNat_of_nonneg (by omega)).symm⟩
   have hmain:(wd (aH t):Int)≤szT t∧K4 (aH t):=by
    obtain⟨k,rs,am,subs,mn,mx,lz,ix,nm⟩:=t
    have hk:k=4∨k=5∨k=7:=hk
    have hsum:0+(wdL (aU subs):Int)≤szL 0 subs:=hsum
    have hE:szT (.mk k rs am subs mn mx lz ix nm)=min 1073741824 (1+szL 0 subs):=hE
    rw[aH]
    rcases hk with hk | hk | hk
    ·rw[if_neg (by omega),if_pos hk]
     have h5:=wzL_wdL (aU subs)
     obtain⟨a,b⟩:=join_wide (hmem subs hw) (B:=B) (by omega) (by omega)
     exact⟨by omega,b⟩
    ·rw[if_neg (by omega),if_neg (by omega),if_pos hk]
     have h5:=flatA_le (aU subs)
     exact⟨by show((max 1 (cK (aU subs)).length:Nat):Int)≤_;omega,fun h=>absurd h (by simp[Tree.kind,eY])⟩
    ·rw[if_pos hk]
     exact⟨by show((max 1 1:Nat):Int)≤_;omega,fun h=>absurd (show k=4 from h) (by omega)⟩
   exact⟨⟨fun _ x hx=>by have:=g2 x hx;omega,fun _=>by omega,hmain.1,fun _=>by omega,fun h=>absurd h hk6⟩,hmain.2⟩
  ·have h0:t.subs.length=0:=q.no (by have:=q.k;omega)
   have e:aH t=t:=by
    obtain⟨k,rs,am,subs,mn,mx,lz,ix,nm⟩:=t
    have hk:¬(k=4∨k=5∨k=7):=hk
    have hk6:¬k=6:=hk6
    rw[aH,if_neg (by omega),if_neg (by omega),if_neg (by omega),if_neg hk6]
   refine⟨⟨fun _ x hx=>by rw[List.eq_nil_of_length_eq_zero h0] at hx;simp at hx,fun h=>absurd h hk,by rw[e];unfold wd;omega,fun h=>absurd h (by omega),fun h=>absurd h hk6⟩,by rw[e];exact fun h=>absurd h (by omega)⟩
end Go.Proofs.Ytnkefclbchpafaa

/-
  The walk of jV.join: the JOIN of trees.
-/
namespace Go.Proofs.Ytnkefclbchpafaa
set_option maxRecDepth 100000
set_option maxHeartbeats 16000000
open Go.RowKit
set_option linter.unusedVariables false
theorem dK {w:World} {g:Nat} {a0 a1 a2 a3 a4 a5 a6 a7 a8:Value} (HC:Cells w g 47 #[a0,a1,a2,a3,a4,a5,a6,a7,a8]) (v0 v1 v2 v3 v4 v5 v6 v7 v8:Value) :
  Cells (((((((((w.setCell ⟨g,0,none⟩ v0).setCell ⟨g,1,none⟩ v1).setCell ⟨g,2,none⟩ v2).setCell ⟨g,3,none⟩ v3).setCell ⟨g,4,none⟩ v4).setCell ⟨g,5,none⟩ v5).setCell ⟨g,6,none⟩ v6).setCell ⟨g,7,none⟩ v7).setCell ⟨g,8,none⟩ v8) g 47 #[v0,v1,v2,v3,v4,v5,v6,v7,v8] ∧
  Upd (fun b=>b=g) w (((((((((w.setCell ⟨g,0,none⟩ v0).setCell ⟨g,1,none⟩ v1).setCell ⟨g,2,none⟩ v2).setCell ⟨g,3,none⟩ v3).setCell ⟨g,4,none⟩ v4).setCell ⟨g,5,none⟩ v5).setCell ⟨g,6,none⟩ v6).setCell ⟨g,7,none⟩ v7).setCell ⟨g,8,none⟩ v8) :=
 ⟨by
  have h:=((((((((HC.aW 0 v0).aW 1 v1).aW 2 v2).aW 3 v3).aW 4 v4).aW 5 v5).aW 6 v6).aW 7 v7).aW 8 v8
  simp only[List.setIfInBounds_toArray,List.set_cons_zero,List.set_cons_succ] at h
  exact h,
   (((((((((Upd.refl (fun b=>b=g) w).setCell _ _ (fun _=>rfl)).setCell _ _ (fun _=>rfl)).setCell _ _ (fun _=>rfl)).setCell _ _ (fun _=>rfl)).setCell _ _ (fun _=>rfl)).setCell _ _ (fun _=>rfl)).setCell _ _ (fun _=>rfl)).setCell _ _ (fun _=>rfl)).setCell _ _ (fun _=>rfl)⟩
def partJ (t:Tree):List Tree:=if t.kind=1 then [] else if t.kind=4 then t.subs else [t]
theorem flatJ_more {l:List Tree} {k:Nat} {x:Tree} (h:l[k]?=some x):aZ (l.take (k+1))=aZ (l.take k)++partJ x:=by
 obtain⟨hk,rfl⟩:=List.getElem?_eq_some_iff.1 h
 rw[List.take_succ_eq_append_getElem hk,flatJ_app]
 congr 1
 simp only[aZ,List.append_nil,partJ]
theorem flatJ_bound {l:List Tree} (k:Nat):(aZ (l.take k)).length≤fwL l:=by
 have:=flatJ_app (l.take k) (l.drop k)
 rw[List.take_append_drop] at this
 have h2:=congrArg List.length this
 rw[flatJ_len,List.length_append] at h2
 omega
theorem joinT_0 {l:List Tree} (h:aZ l=[]):bR l=aV:=by unfold bR;rw[h]
theorem joinT_1 {l:List Tree} {t:Tree} (h:aZ l=[t]):bR l=t:=by unfold bR;rw[h]
theorem joinT_2 {l:List Tree} (h:2≤(aZ l).length):bR l=fH (aZ l):=by
 unfold bR
 match hq:aZ l with
 | []=>rw[hq] at h;simp at h
 | [t]=>rw[hq] at h;simp at h
 | _::_::_=>rfl
theorem jm {k:Int} {l:List Tree} (hk:0≤k∧k≤7) (hl:l.length≤140737488355328):TreeOk (.mk k [] 0 l 0 0 false 0 .empty) :=
 ⟨bI (x:=k) (by omega) (by omega),bI (x:=0) (by omega) (by omega),bI (x:=0) (by omega) (by omega),bI (x:=0) (by omega) (by omega),bI (x:=0) (by omega) (by omega),hl,by show 0≤_;omega⟩
theorem join7_any (l:List Tree) (w:World) (S:Nat→Prop) (LA:Option Addr) (lc:Nat) (hs:kI w S LA l) (hn:l.length≤1000000) (hf:fwL l≤1000000) :
  Calls Try.prog 84 #[.slice LA l.length lc] w (jC (bR l) S w):=by
 generalize hP:jC (bR l) S w=P
 have HP:=ah (show ∀cs w',aB w' (fun b=>S b∨w.heap.size≤b) cs (bR l)→Upd Nob w w'→P (.returned (.agg cs)) w' from fun cs w' a b=>by rw[←hP];exact⟨cs,rfl,a,b⟩)
 clear hP
 have C8:=Cells.new w 47 #[.int .i64 0,.slice none 0 0,.int .i64 0,.slice none 0 0,.int .i64 0,.int .i64 0,.bool false,.int .i64 0,.string ⟨#[]⟩]
 have hU:=(Upd.refl Nob w).alloc (.cells #[.int .i64 0,.slice none 0 0,.int .i64 0,.slice none 0 0,.int .i64 0,.int .i64 0,.bool false,.int .i64 0,.string ⟨#[]⟩] 47)
 have hsz:(w.alloc (.cells #[.int .i64 0,.slice none 0 0,.int .i64 0,.slice none 0 0,.int .i64 0,.int .i64 0,.bool false,.int .i64 0,.string ⟨#[]⟩] 47)).heap.size=w.heap.size+1:=by simp
 have hs1:=hs.both.upd hU (fun _ h=>h) (fun _ _=>aj)
 clear hs
 go_enter Try.func84,Try.ntmps84
 go_upto_region 1 with fail
 generalize w.alloc (.cells #[.int .i64 0,.slice none 0 0,.int .i64 0,.slice none 0 0,.int .i64 0,.int .i64 0,.bool false,.int .i64 0,.string ⟨#[]⟩] 47)=w1 at *
 have HS:=ah hs1
 have HU:=ah hU
 have HC:=ah C8
 have HZ:=ah hsz
 have HN:=ah (And.intro hn hf)
 have hn2:(l.length:Int)≤1000000:=by omega
 have HR0:=ah (iD.nil (S:=fun k=>S k∧k < w.heap.size) (Nat.le_refl w1.heap.size))
 clear C8 hU hs1 hsz hn hf
 go_wp2_with fail
 go_loopg [3,4] l.length (fun gk v3 v4 wr=>∃(k:Nat) (A:Option Addr) (c:Nat),k+gk=l.length∧v4=.int .i64 (k:Int)∧v3=.slice A (aZ (l.take k)).length c∧iD wr w1.heap.size (fun k=>S k∧k < w.heap.size) A c (aZ (l.take k))∧Upd Nob w1 wr)
 case atStart=>exact⟨0,none,0,by omega,rfl,rfl,HR0.out,Upd.refl _ _⟩
 case round =>
  clear HR0
  obtain⟨k,A,c,hk,rfl,rfl,hR,hUr⟩:=hrel
  have HR:=ah hR
  have HUr:=ah hUr
  have HK:=ah hk
  by_cases hlt:k < l.length
  ·have g2:(k:Int) < (l.length:Int):=by omega
   obtain⟨x,hx⟩:∃x,l[k]?=some x:=⟨_,List.getElem?_eq_getElem hlt⟩
   obtain⟨ad,g,o,cs',rfl,hadd,hSg,hgl,hcs,hX⟩:=HS.out k x hx
   obtain⟨PA,pc,QA,qc,rfl,-⟩:=hX.top
   obtain⟨p0,p1,p2,p3,p4,p5,p6,p7,p8⟩:=bH (fun j v hv=>(hUr.cell (p:=⟨g,o+j,none⟩) hgl aj).trans (hcs j v hv))
   have HX:=ah (hX.bA hUr (fun _ _=>aj))
   have HM:=ah (flatJ_more hx)
   have HB:=ah (flatJ_bound (l:=l) (k+1))
   clear hcs hX hx hUr hk hR hSg hgl
   have fin:∀A' c' w',iD w' w1.heap.size (fun k=>S k∧k < w.heap.size) A' c' (aZ (l.take k)++partJ x)→Upd Nob w1 w'→(fun(gk:Nat) (v3 v4:Value) (wr:World)=>∃(k:Nat) (A:Option Addr) (c:Nat),k+gk=l.length∧v4=.int .i64 (k:Int)∧v3=.slice A (aZ (l.take k)).length c∧iD wr w1.heap.size (fun k=>S k∧k < w.heap.size) A c (aZ (l.take k))∧Upd Nob w1 wr) (l.length - (k+1)) (.slice A' (aZ (l.take k)++partJ x).length c') (.int .i64 ((k+1:Nat):Int)) w':=fun A' c' w' a b=>by
    rw[←HM.out] at a ⊢
    exact⟨k+1,A',c',by omega,rfl,rfl,a,b⟩
   have HFIN:=ah fin
   clear fin
   by_cases k1:x.kind=1
   ·have c1:(x.kind==1)=true:=by simp[k1]
    have hp:partJ x=[]:=by unfold partJ;rw[if_pos k1]
    have HPP:=ah hp
    clear k1 hp
    go_wp2_with fail
    go_roundg (l.length - (k+1))
    case measure=>have:=HK.out;omega
    case rel =>
     have h:=HFIN.out A c wr (by rw[HPP.out,List.append_nil];exact HR.out) HUr.out
     rw[HPP.out,List.append_nil] at h
     rw[show(k:Int)+1=((k+1:Nat):Int) by omega]
     exact h
   have c1:(x.kind==1)=false:=by simpa using k1
   by_cases k4:x.kind=4
   ·have c4:(x.kind==4)=true:=by simp[k4]
    have hp:partJ x=x.subs:=by unfold partJ;rw[if_neg k1,if_pos k4]
    have HPP:=ah hp
    have HX2:=ah (show kI wr (TB w1.heap.size (fun k=>S k∧k < w.heap.size) (Value.slice A (aZ (l.take k)).length c).ownBlock) QA x.subs from kI.upd (F:=Nob) (show kI wr _ QA x.subs from HX.out.open_.2.2) (Upd.refl _ _) (fun b hb=>.inl ⟨hb,by have:=HZ.out;have:=hb.2;omega⟩) (fun _ _=>aj))
    clear k1 k4 hp
    go_wp2_with (at_builtin;refine push_nodes rfl _ _ rfl rfl rfl HR.out HX2.out (by have:=HB.out;have:=HN.out;rw[HM.out,HPP.out,List.length_append] at *;omega) ?_;intro A' c' w' hR' hU';have HR':=ah hR';have HU':=ah (HUr.out.trans hU' (fun b hb e=>by omega));clear hR' hU')
    go_roundg (l.length - (k+1))
    case measure=>have:=HK.out;omega
    case rel =>
     have h:=HFIN.out A' c' w' (by rw[HPP.out];exact HR'.out) HU'.out
     rw[HPP.out] at h
     simp only[List.length_append] at h
     rw[show(k:Int)+1=((k+1:Nat):Int) by omega]
     exact h
   ·have c4:(x.kind==4)=false:=by simpa using k4
    have hp:partJ x=[x]:=by unfold partJ;rw[if_neg k1,if_neg k4]
    have HPP:=ah hp
    have HX2:=ah (HX.out.weaken (S':=TB w1.heap.size (fun k=>S k∧k < w.heap.size) (Value.slice A (aZ (l.take k)).length c).ownBlock) (fun b hb=>.inl ⟨hb,by have:=HZ.out;have:=hb.2;omega⟩))
    clear k1 k4 hp
    go_wp2_with (at_builtin;refine iU rfl _ _ rfl (y:=x) rfl rfl (HR.out.upd ((Upd.refl Nob wr).alloc _) (fun _ h=>absurd h aj)) (Cells.new wr _ _) (HX2.out.bA ((Upd.refl Nob wr).alloc _) (fun _ _=>aj)) (by have:=HB.out;have:=HN.out;rw[HM.out,HPP.out,List.length_append] at *;omega) ?_;intro A' c' w' hR' hU';have HR':=ah hR';have HU':=ah ((HUr.out.alloc _).trans hU' (fun b hb e=>by omega));clear hR' hU')
    go_roundg (l.length - (k+1))
    case measure=>have:=HK.out;omega
    case rel =>
     have h:=HFIN.out A' c' w' (by rw[HPP.out];exact HR'.out) HU'.out
     rw[HPP.out] at h
     simp only[List.length_append,List.length_singleton] at h
     rw[show(k:Int)+1=((k+1:Nat):Int) by omega]
     exact h
  ·have g2:¬(k:Int) < (l.length:Int):=by omega
   have HKL:=ah (show l.take k=l from List.take_of_length_le (by have:=HK.out;omega))
   rw[HKL.out] at hR ⊢
   have HR:=ah hR
   have HC2:=ah (HC.out.upd hUr aj)
   have HU2:=ah (HU.out.trans hUr (fun _ _ h=>h))
   have hfl:=flatJ_len l
   have HFL:=ah (show(aZ l).length≤1000000 by have:=HN.out;omega)
   obtain⟨d0,d1,d2,d3,d4,d5,d6,d7,d8⟩:=aI HC2.out
   have z:=fun j=>HC2.out.frozen j
   have z0:=z 0
   have z1:=z 1
   have z2:=z 2
   have z3:=z 3
   have z4:=z 4
   have z5:=z 5
   have z6:=z 6
   have z7:=z 7
   have z8:=z 8
   clear hUr hk hR HC HU HK HKL HUr hfl z
   by_cases h0:aZ l=[]
   ·have hj:=joinT_0 h0
    have HJ:=ah hj
    have hl0:(aZ l).length=0:=by rw[h0];rfl
    rw[hl0]
    clear h0 hj hl0
    go_wp2_with fail
    obtain⟨C9,U9⟩:=dK HC2.out (.int .i64 1) (.slice none 0 0) (.int .i64 0) (.slice none 0 0) (.int .i64 0) (.int .i64 0) (.bool false) (.int .i64 0) (.string ⟨#[]⟩)
    obtain⟨q0,q1,q2,q3,q4,q5,q6,q7,q8⟩:=aI C9
    refine bodyPost_ret (by simp[results,Try.results84,go_sem,q0,q1,q2,q3,q4,q5,q6,q7,q8];try rfl) rfl ?_
    refine HP.out _ _ ?_ (HU2.out.trans U9 (fun b hb e=>by omega))
    rw[HJ.out]
    exact aB.of (t:=aV) (RA:=none) (rc:=0) (SA:=none) (sc:=0) jJ (jm (k:=1) (by omega) (by simp)) (fun i x hx=>by simp[Tree.subs,aV] at hx)
   by_cases h1:(aZ l).length=1
   ·obtain⟨t,ht⟩:=List.length_eq_one_iff.1 h1
    have HJ:=ah (joinT_1 ht)
    obtain⟨ad,g,o,cs',rfl,hadd,hSg,hgl,hcs,hX⟩:=HR.out.subs (S':=fun b=>S b∧b < w.heap.size∨w.heap.size+1≤b) (fun b h=>.inl h) (fun b h=>.inr (by rw[←HZ.out];exact h)) 0 t (by rw[ht];rfl)
    rw[Nat.zero_mul,show ad.add 0=ad by simp[Addr.add]] at hadd
    subst hadd
    obtain⟨PA,pc,QA,qc,rfl,-⟩:=hX.top
    obtain⟨p0,p1,p2,p3,p4,p5,p6,p7,p8⟩:=bH hcs
    have HX:=ah hX
    have g0:0 < (aZ l).length:=by omega
    have c1:((aZ l).length==1)=true:=by simp[h1]
    have c0:((aZ l).length==0)=false:=by simp[h1]
    rw[h1]
    clear hcs hX hSg hgl h0 h1 ht c0 c1 g0
    go_wp2_with fail
    obtain⟨C9,U9⟩:=dK HC2.out (.int .i64 t.kind) (.slice PA t.rs.length pc) (.int .i64 t.am) (.slice QA t.subs.length qc) (.int .i64 t.mn) (.int .i64 t.mx) (.bool t.lz) (.int .i64 t.ix) (.string t.nm)
    obtain⟨q0,q1,q2,q3,q4,q5,q6,q7,q8⟩:=aI C9
    refine bodyPost_ret (by simp[results,Try.results84,go_sem,q0,q1,q2,q3,q4,q5,q6,q7,q8];try rfl) rfl ?_
    refine HP.out _ _ ?_ (HU2.out.trans U9 (fun b hb e=>by omega))
    rw[HJ.out]
    exact(HX.out.bA U9 (fun b hb e=>by have:=HZ.out;omega)).weaken (fun b hb=>hb.elim (fun hb=>.inl hb.1) (fun hb=>.inr (by omega)))
   ·have h00:(aZ l).length≠0:=fun e=>h0 (List.eq_nil_of_length_eq_zero e)
    have HJ:=ah (joinT_2 (l:=l) (by omega))
    have c1:((aZ l).length==1)=false:=by simpa using h1
    have c0:((aZ l).length==0)=false:=by simpa using h00
    have i1:(((aZ l).length:Int)==1)=false:=by simp;omega
    have i0:(((aZ l).length:Int)==0)=false:=by simp;omega
    clear h0 h1 h00
    go_wp2_with fail
    obtain⟨C9,U9⟩:=dK HC2.out (.int .i64 4) (.slice none 0 0) (.int .i64 0) (.slice A (aZ l).length c) (.int .i64 0) (.int .i64 0) (.bool false) (.int .i64 0) (.string ⟨#[]⟩)
    obtain⟨q0,q1,q2,q3,q4,q5,q6,q7,q8⟩:=aI C9
    refine bodyPost_ret (by simp[results,Try.results84,go_sem,q0,q1,q2,q3,q4,q5,q6,q7,q8];try rfl) rfl ?_
    refine HP.out _ _ ?_ (HU2.out.trans U9 (fun b hb e=>by omega))
    rw[HJ.out]
    refine aB.of (t:=fH (aZ l)) (RA:=none) (rc:=0) (SA:=A) (sc:=c) jJ (jm (k:=4) (by omega) (by have:=HFL.out;omega)) ?_
    exact(HR.out.upd U9 (fun b e=>by have:=HZ.out;exact⟨by omega,fun h=>by omega⟩)).subs (fun b h=>.inl h.1) (fun b h=>.inr (by have:=HZ.out;omega))
end Go.Proofs.Ytnkefclbchpafaa

/-
  The walk of jV.unfold: a repeat.
-/
namespace Go.Proofs.Ytnkefclbchpafaa
set_option maxRecDepth 100000
set_option maxHeartbeats 16000000
open Go.RowKit
set_option linter.unusedVariables false
theorem two_subs {w:World} {S T1 T2:Nat→Prop} {g:Nat} {a0 a1 a2 a3 a4 a5 a6 a7 a8 b0 b1 b2 b3 b4 b5 b6 b7 b8:Value} {y f:Tree} (hc:Cells w g 47 #[a0,a1,a2,a3,a4,a5,a6,a7,a8,b0,b1,b2,b3,b4,b5,b6,b7,b8])
  (h1:aB w T1 #[a0,a1,a2,a3,a4,a5,a6,a7,a8] y) (h2:aB w T2 #[b0,b1,b2,b3,b4,b5,b6,b7,b8] f) (i1:∀b,T1 b→S b) (i2:∀b,T2 b→S b) (hg:S g):kI w S (some ⟨g,0,none⟩) [y,f]:=fun i x hx=>by
 match i,hx with
 | 0,hx =>
  have hx:some y=some x:=hx
  injection hx with hx
  subst hx
  refine⟨_,g,0,_,rfl,rfl,hg,hc.lt,fun j v hv=>?_,h1.weaken i1⟩
  rw[Nat.zero_add]
  have hj:=(Array.getElem?_eq_some_iff.1 hv).1
  refine hc.ak ?_
  match j,hj with
  | 0,_ | 1,_ | 2,_ | 3,_ | 4,_ | 5,_ | 6,_ | 7,_ | 8,_=>exact hv
  | j+9,hj=>exact absurd hj (by show ¬j+9 < 9;omega)
 | 1,hx =>
  have hx:some f=some x:=hx
  injection hx with hx
  subst hx
  refine⟨_,g,9,_,rfl,rfl,hg,hc.lt,fun j v hv=>?_,h2.weaken i2⟩
  have hj:=(Array.getElem?_eq_some_iff.1 hv).1
  refine hc.ak ?_
  match j,hj with
  | 0,_ | 1,_ | 2,_ | 3,_ | 4,_ | 5,_ | 6,_ | 7,_ | 8,_=>exact hv
  | j+9,hj=>exact absurd hj (by show ¬j+9 < 9;omega)
 | i+2,hx=>simp at hx
def FormC (x:Tree):Prop:=∀(w:World) (S:Nat→Prop) (cs:Array Value),aB w S cs x→Calls Try.prog 60 #[.agg cs] w (jC (aH x) S w)
theorem unfF_mx0 (y:Tree) (mn:Int) (lz:Bool):kD y mn 0 lz=aV:=by simp[kD]
theorem unfold7_any (t:Tree) (w:World) (S:Nat→Prop) (cs:Array Value) (h1:aB w S cs t) (hl1:t.subs.length=1) (hm:0≤t.mn∧t.mn≤1000∧(t.mx=-1∨t.mn≤t.mx∧t.mx≤1000))
  (hform:t.mx≠0→∀x∈t.subs,FormC x) (hw:t.mx≠0→∀x∈t.subs,(wd (aH x):Int) < 1000000∧(t.mx=-1→((t.mn - 1).toNat*wz (aH x)+1:Nat)≤1000000)∧(t.mx≠-1→(t.mn.toNat*wz (aH x)+min (t.mx - t.mn).toNat 1:Nat)≤1000000)) :
  Calls Try.prog 85 #[.agg cs] w (jC (kD (eu t.subs) t.mn t.mx t.lz) S w):=by
 obtain⟨RA,rc,SA,sc,rfl,hr1,ho,hs1⟩:=h1.top
 generalize hP:jC (kD (eu t.subs) t.mn t.mx t.lz) S w=P
 have HP:=ah (show ∀cs w',aB w' (fun b=>S b∨w.heap.size≤b) cs (kD (eu t.subs) t.mn t.mx t.lz)→Upd Nob w w'→P (.returned (.agg cs)) w' from fun cs w' a b=>by rw[←hP];exact⟨cs,rfl,a,b⟩)
 clear hP
 have C0:=Cells.new w 47 (au t RA rc SA sc)
 have hU:=(Upd.refl Nob w).alloc (.cells (au t RA rc SA sc) 47)
 have sX:(w.alloc (.cells (au t RA rc SA sc) 47)).heap.size=w.heap.size+1:=by simp
 have hL:=h1.both
 have HM:=ah hm
 have HF:=ah hform
 have HW:=ah hw
 have HL1:=ah hl1
 clear hm hform hw h1 hr1 hs1 ho hl1
 unfold au at C0 hU hL sX
 unfold au
 go_enter Try.func85,Try.ntmps85
 go_upto_region 1 with fail
 generalize w.alloc (.cells #[.int .i64 t.kind,.slice RA t.rs.length rc,.int .i64 t.am,.slice SA t.subs.length sc,.int .i64 t.mn,.int .i64 t.mx,.bool t.lz,.int .i64 t.ix,.string t.nm] 47)=w1 at *
 have CO:=Cells.new w1 47 #[.int .i64 0,.slice none 0 0,.int .i64 0,.slice none 0 0,.int .i64 0,.int .i64 0,.bool false,.int .i64 0,.string ⟨#[]⟩]
 have hU2:=hU.alloc (.cells #[.int .i64 0,.slice none 0 0,.int .i64 0,.slice none 0 0,.int .i64 0,.int .i64 0,.bool false,.int .i64 0,.string ⟨#[]⟩] 47)
 have CT:=C0.alloc (.cells #[.int .i64 0,.slice none 0 0,.int .i64 0,.slice none 0 0,.int .i64 0,.int .i64 0,.bool false,.int .i64 0,.string ⟨#[]⟩] 47)
 have s2:(w1.alloc (.cells #[.int .i64 0,.slice none 0 0,.int .i64 0,.slice none 0 0,.int .i64 0,.int .i64 0,.bool false,.int .i64 0,.string ⟨#[]⟩] 47)).heap.size=w.heap.size+2:=by simp[sX]
 rw[sX] at CO
 generalize w1.alloc (.cells #[.int .i64 0,.slice none 0 0,.int .i64 0,.slice none 0 0,.int .i64 0,.int .i64 0,.bool false,.int .i64 0,.string ⟨#[]⟩] 47)=w2 at *
 have H1:=ah (hL.bA hU2 (fun _ _=>aj))
 have HU:=ah hU2
 have HT:=ah CT
 have HO:=ah CO
 have HZ:=ah s2
 obtain⟨ob,hob⟩:∃ob,w.heap.size+1=ob:=⟨_,rfl⟩
 have HOB:=ah hob
 simp only[hob] at CO ⊢
 rw[hob] at HO
 clear hob
 obtain⟨e0,e1,e2,e3,e4,e5,e6,e7,e8⟩:=aI CT
 clear CT C0 hL hU hU2 sX s2
 by_cases hx0:t.mx=0
 ·have c0:(t.mx==0)=true:=by simp[hx0]
  have HE:=ah (show kD (eu t.subs) t.mn t.mx t.lz=aV by rw[hx0];exact unfF_mx0 _ _ _)
  obtain⟨d0,d1,d2,d3,d4,d5,d6,d7,d8⟩:=aI CO
  have z:=fun j=>CO.frozen j
  have z0:=z 0
  have z1:=z 1
  have z2:=z 2
  have z3:=z 3
  have z4:=z 4
  have z5:=z 5
  have z6:=z 6
  have z7:=z 7
  have z8:=z 8
  clear hx0 z
  go_wp2_with fail
  obtain⟨C9,U9⟩:=dK HO.out (.int .i64 1) (.slice none 0 0) (.int .i64 0) (.slice none 0 0) (.int .i64 0) (.int .i64 0) (.bool false) (.int .i64 0) (.string ⟨#[]⟩)
  obtain⟨q0,q1,q2,q3,q4,q5,q6,q7,q8⟩:=aI C9
  refine bodyPost_ret (by simp[results,Try.results85,go_sem,q0,q1,q2,q3,q4,q5,q6,q7,q8];try rfl) rfl ?_
  refine HP.out _ _ ?_ (HU.out.trans U9 (fun b hb e=>by have:=HOB.out;omega))
  rw[HE.out]
  exact aB.of (t:=aV) (RA:=none) (rc:=0) (SA:=none) (sc:=0) jJ (jm (k:=1) (by omega) (by simp)) (fun i x hx=>by simp[Tree.subs,aV] at hx)
 have c0:(t.mx==0)=false:=by simpa using hx0
 obtain⟨g,o,x,PA,pc,QA,qc,rfl,hSg,hgl,hx,hX,hlx,hcs⟩:=aB.sub0 H1.out.open_.2.2 (by have:=HL1.out;omega)
 obtain⟨p0,p1,p2,p3,p4,p5,p6,p7,p8⟩:=bH hcs
 have HFX:=ah (HF.out hx0 x (List.mem_of_getElem? hx))
 have HWX:=ah (HW.out hx0 x (List.mem_of_getElem? hx))
 have hY:eu t.subs=aH x:=by
  obtain⟨s,hs⟩:=List.length_eq_one_iff.1 HL1.out
  rw[hs] at hx ⊢
  rw[eu]
  simp at hx
  rw[hx]
 have HP2:=HP.out
 rw[hY] at HP2
 have HX:=ah hX
 have g0:0 < t.subs.length:=by have:=HL1.out;omega
 have HX0:=ah hx0
 clear HP hY hcs hX hlx hx hSg hgl hx0 HF HW CO
 have HP:=ah HP2
 clear HP2
 obtain⟨y,hy⟩:∃y,aH x=y:=⟨_,rfl⟩
 rw[hy] at HP HWX
 have HY:=ah hy
 clear hy
 go_upto_region 4 with(go_at_call 60;refine(HFX.out _ _ _ HX.out).mono ?_;rintro e w5 ⟨cy,rfl,hNy,hU5⟩;rw[HY.out] at hNy;obtain⟨YA,yc,ZA,zc,rfl,-⟩:=hNy.top;have HNY:=ah hNy.both;have HU5:=ah hU5;clear hNy hU5;unfold au at HNY ⊢)
 have hUA:=(Upd.refl Nob w5).alloc (.cells #[.int .i64 y.kind,.slice YA y.rs.length yc,.int .i64 y.am,.slice ZA y.subs.length zc,.int .i64 y.mn,.int .i64 y.mx,.bool y.lz,.int .i64 y.ix,.string y.nm] 47)
 have HYB:=ah (Cells.new w5 47 #[.int .i64 y.kind,.slice YA y.rs.length yc,.int .i64 y.am,.slice ZA y.subs.length zc,.int .i64 y.mn,.int .i64 y.mx,.bool y.lz,.int .i64 y.ix,.string y.nm])
 have hU6:=HU5.out.trans hUA (fun _ _ h=>h)
 have HT:=ah (HT.out.upd hU6 aj)
 have HO:=ah (HO.out.upd hU6 aj)
 have HNY:=ah (HNY.out.bA hUA (fun _ _=>aj))
 have hsz:(w5.alloc (.cells #[.int .i64 y.kind,.slice YA y.rs.length yc,.int .i64 y.am,.slice ZA y.subs.length zc,.int .i64 y.mn,.int .i64 y.mx,.bool y.lz,.int .i64 y.ix,.string y.nm] 47)).heap.size=w5.heap.size+1:=by simp
 have HS1:=ah (show ∀k,(fun k=>(S k∧k < w.heap.size∨w2.heap.size≤k)∧k < w5.heap.size) k→k < w5.heap.size∧k≠ob∧(S k∨w.heap.size≤k) from fun k h=>by
  have:=HOB.out
  have:=HZ.out
  obtain⟨h | h,h2⟩:=h
  ·exact⟨h2,by have:=h.2;omega,.inl h.1⟩
  ·exact⟨h2,by omega,.inr (by omega)⟩)
 have HOY:=ah (show ob < w5.heap.size by have:=HU5.out.size;have:=HOB.out;have:=HZ.out;omega)
 have HU:=ah (HU.out.trans hU6 (fun _ _ h=>h))
 have HSZ:=ah hsz
 generalize (fun k=>(S k∧k < w.heap.size∨w2.heap.size≤k)∧k < w5.heap.size)=S1 at *
 clear hUA hU6 hsz e0 e1 e2 e3 e4 e5 e6 e7 e8 p0 p1 p2 p3 p4 p5 p6 p7 p8 HX H1 HFX HU5 HY g0 HZ
 generalize w5.alloc (.cells #[.int .i64 y.kind,.slice YA y.rs.length yc,.int .i64 y.am,.slice ZA y.subs.length zc,.int .i64 y.mn,.int .i64 y.mx,.bool y.lz,.int .i64 y.ix,.string y.nm] 47)=w6 at *
 generalize w5.heap.size=yb at *
 obtain⟨e0,e1,e2,e3,e4,e5,e6,e7,e8⟩:=aI HT.out
 obtain⟨y0,y1,y2,y3,y4,y5,y6,y7,y8⟩:=aI HYB.out
 obtain⟨N,hN1,hN2⟩:∃N:Nat,(t.mx=-1→N=(t.mn - 1).toNat)∧(t.mx≠-1→N=t.mn.toNat):=by
  by_cases h:t.mx=-1
  ·exact⟨_,fun _=>rfl,fun h'=>absurd h h'⟩
  ·exact⟨_,fun h'=>absurd h' h,fun _=>rfl⟩
 have HN:=ah (And.intro hN1 hN2)
 clear hN1 hN2
 go_upto_if 23 with fail
 go_cut [5,24,25,26] (fun v5 _ _ _ wc=>v5=.int .i64 (N:Int)∧w6=wc)
 case first =>
  by_cases hx1:t.mx=-1
  ·have hx2:(t.mx==-1)=true:=by simp[hx1]
   have hN:=HN.out.1 hx1
   have hm0:=HM.out.1
   have hm1:=HM.out.2.1
   obtain⟨m,hm⟩:∃m,t.mn - 1=m:=⟨_,rfl⟩
   have hw1:IntKind.i64.wrap (t.mn - 1)=m:=by rw[IntKind.wrap_i64,hm];omega
   have hw2:wrap64 (t.mn - 1)=m:=by rw[hm];unfold wrap64;omega
   have HV:=ah (show(m < 0→(N:Int)=0)∧(0≤m→(N:Int)=m) by rw[hN];omega)
   clear hx1 hN hm
   by_cases hmm:0≤m
   ·go_wp2_with fail
    all_goals
     go_meet
     exact⟨by rw[HV.out.2 hmm],rfl⟩
   ·have hmm2:m < 0:=by omega
    go_wp2_with fail
    all_goals
     go_meet
     exact⟨by rw[HV.out.1 hmm2],rfl⟩
  ·have hx2:(t.mx==-1)=false:=by simpa using hx1
   have hN:=HN.out.2 hx1
   have hm0:=HM.out.1
   have HV:=ah (show(N:Int)=t.mn by rw[hN];omega)
   clear hx1 hN
   go_wp2_with fail
   go_meet
   exact⟨by rw[HV.out],rfl⟩
 case rest =>
 obtain⟨rfl,rfl⟩:=hcut
 clear e0 e1 e2 e3 e4 e5 e6 e7 e8 y0 y1 y2 y3 y4 y5 y6 y7 y8
 have HR0:=ah (iD.nil (S:=S1) (Nat.le_refl w6.heap.size))
 have hN1:N≤1000:=by
  have h1:=HN.out
  have h2:=HM.out
  by_cases h:t.mx=-1
  ·have:=h1.1 h;omega
  ·have:=h1.2 h;omega
 have hN2:(N:Int)≤1000:=by omega
 go_wp2_with fail
 go_loopg [4,6] N (fun gk v4 v6 wr=>∃(k:Nat) (l:List Tree) (A:Option Addr) (c:Nat),k+gk=N∧l=List.replicate k y∧v6=.int .i64 (k:Int)∧v4=.slice A l.length c∧iD wr w6.heap.size S1 A c l∧Upd Nob w6 wr)
 case atStart=>exact⟨0,[],none,0,by omega,rfl,rfl,rfl,HR0.out,Upd.refl _ _⟩
 case round =>
  clear HR0
  obtain⟨k,l,A,c,hk,hl,rfl,rfl,hR,hUr⟩:=hrel
  have HR:=ah hR
  have HUr:=ah hUr
  have HK:=ah hk
  have HL:=ah hl
  by_cases hlt:(k:Int) < (N:Int)
  ·obtain⟨y0,y1,y2,y3,y4,y5,y6,y7,y8⟩:=aI (HYB.out.upd hUr aj)
   have HY2:=ah ((HNY.out.bA hUr (fun _ _=>aj)).weaken (S':=TB w6.heap.size S1 (Value.slice A l.length c).ownBlock) (fun b hb=>.inl ⟨hb,by have:=HSZ.out;have:=(HS1.out b hb).1;omega⟩))
   clear hk hl hR hUr
   go_wp2_with (at_builtin;refine iU rfl _ _ rfl (y:=y) rfl rfl (HR.out.upd ((Upd.refl Nob wr).alloc _) (fun _ h=>absurd h aj)) (Cells.new wr _ _) (HY2.out.bA ((Upd.refl Nob wr).alloc _) (fun _ _=>aj)) (by have:=congrArg List.length HL.out;simp at this;omega) ?_;intro A' c' w' hR' hU';have HR':=ah hR';have HU':=ah ((HUr.out.alloc _).trans hU' (fun b hb e=>by omega));clear hR' hU')
   go_roundg (N - (k+1))
   case measure=>have:=HK.out;omega
   case rel =>
    refine⟨k+1,l++[y],A',c',by omega,?_,by go_num,by simp,HR'.out,HU'.out⟩
    rw[HL.out,List.replicate_succ']
  ·have HLN:=ah (show l=List.replicate N y by rw[hl];congr 1;omega)
   clear hk hl hR hUr HK HL
   obtain⟨e0,e1,e2,e3,e4,e5,e6,e7,e8⟩:=aI (HT.out.upd HUr.out aj)
   obtain⟨y0,y1,y2,y3,y4,y5,y6,y7,y8⟩:=aI (HYB.out.upd HUr.out aj)
   have HNYr:=ah (HNY.out.bA HUr.out (fun _ _=>aj))
   have HJB:=ah (show ∀b,(S1 b∨w6.heap.size≤b)∨w6.heap.size≤b→(S b∨w.heap.size≤b)∧b≠ob from fun b h=>by
    have:=HOB.out
    have:=HOY.out
    have:=HSZ.out
    rcases h with(h | h) | h
    ·have:=HS1.out b h;exact⟨this.2.2,this.2.1⟩
    ·exact⟨.inr (by omega),by omega⟩
    ·exact⟨.inr (by omega),by omega⟩)
   by_cases hx1:t.mx=-1
   ·have hx2:(t.mx==-1)=true:=by simp[hx1]
    have HJ0:=ah (show kD y t.mn t.mx t.lz=bR (l++[aY y (min t.mn 1) (-1) t.lz]) by
     have h1:=HN.out.1 hx1
     rw[kD,if_neg HX0.out,if_pos hx1,HLN.out,h1])
    have HLN2:=ah (show(l++[aY y (min t.mn 1) (-1) t.lz]).length≤1000000∧fwL (l++[aY y (min t.mn 1) (-1) t.lz])≤1000000 by
     have h1:=HN.out.1 hx1
     have h2:=HWX.out.2.1 hx1
     have h3:=fwL_le (l++[aY y (min t.mn 1) (-1) t.lz])
     rw[wzL_app,wzL_one,(wd_loop _ _ _ _).2.2,HLN.out,wzL_rep] at h3
     rw[←h1] at h2
     rw[HLN.out]
     refine⟨by simp;omega,by omega⟩)
    clear hx1
    obtain⟨u,hu⟩:∃u,aY y (min t.mn 1) (-1) t.lz=u:=⟨_,rfl⟩
    have HLL:=ah (show l.length≤1000000 by have:=HLN2.out.1;simp at this;omega)
    have HJ1:=HJ0.out
    have HLN3:=HLN2.out
    rw[hu] at HJ1 HLN3
    clear HJ0 HLN2 HLN
    by_cases h1m:1 < t.mn
    ·have hmin:min t.mn 1=1:=by omega
     have HU0:=ah (show aY y 1 (-1) t.lz=u by rw[←hu,hmin])
     clear hmin hu
     go_upto_region 14 with(first
      | (go_at_call 97;refine(loop7_any y 1 (-1) t.lz _ S1 _ HNYr.out (bI (by have:=HM.out;omega) (by have:=HM.out;omega)) (bI (by omega) (by omega))).mono ?_;rintro e w7 ⟨cu,rfl,hNu,hU7⟩;rw[HU0.out] at hNu;have HRr:=ah (HR.out.upd hU7 (fun _ h=>absurd h aj));have HUb:=ah (HUr.out.trans hU7 (fun _ _ h=>h));have HNU:=ah (HR.out.fresh (S':=S1) (fun b hb=>.inl ⟨hb,by have:=HSZ.out;have:=(HS1.out b hb).1;omega⟩) hNu);obtain⟨UA,uc,VA,vc,rfl,-⟩:=hNu.top;clear hNu hU7;unfold au at HNU ⊢)
      | (at_builtin;refine iU rfl _ _ rfl (y:=u) rfl rfl (HRr.out.upd ((Upd.refl Nob w7).alloc _) (fun _ h=>absurd h aj)) (Cells.new w7 _ _) (HNU.out.bA ((Upd.refl Nob w7).alloc _) (fun _ _=>aj)) (by have:=HLL.out;omega) ?_;intro A' c' ww hR' hU';have HUW:=ah ((HUb.out.alloc _).trans hU' (fun b hb e=>by omega));generalize hl2:l++[u]=l2 at hR' ⊢;rw[hl2] at HJ1 HLN3;have gU:=ah (hR'.subs (S':=fun b=>S1 b∨w6.heap.size≤b) (fun b h=>.inl h) (fun b h=>.inr h));clear hR' hU' hl2))
     have HJT:=ah HJ1
     have HLEN:=ah HLN3
     obtain⟨jt,hjt⟩:∃jt,bR l2=jt:=⟨_,rfl⟩
     have HJL:=ah hjt
     rw[hjt] at HJT
     clear hjt HJ1 HLN3 e0 e1 e2 e3 e4 e5 e6 e7 e8 y0 y1 y2 y3 y4 y5 y6 y7 y8
     go_wp2_with (go_at_call 84;refine(join7_any l2 _ (fun b=>S1 b∨w6.heap.size≤b) _ _ gU.out HLEN.out.1 HLEN.out.2).mono ?_;rintro e w9 ⟨cj,rfl,hNj,hU9⟩;rw[HJL.out] at hNj;obtain⟨JA,jc,IA,ic,rfl,-⟩:=hNj.top;have HNJ:=ah (hNj.weaken (S':=fun b=>(S1 b∨w6.heap.size≤b)∨w6.heap.size≤b) (fun b h=>h.elim .inl (fun h=>.inr (Nat.le_trans HUW.out.size h))));have HO9:=ah (HO.out.upd (HUW.out.trans hU9 (fun _ _ h=>h)) aj);have HU9:=ah (HU.out.trans (HUW.out.trans hU9 (fun _ _ h=>h)) (fun _ _ h=>h));clear hNj hU9;unfold au at HNJ ⊢;obtain⟨d0,d1,d2,d3,d4,d5,d6,d7,d8⟩:=aI HO9.out;have z0:=HO9.out.frozen 0;have z1:=HO9.out.frozen 1;have z2:=HO9.out.frozen 2;have z3:=HO9.out.frozen 3;have z4:=HO9.out.frozen 4;have z5:=HO9.out.frozen 5;have z6:=HO9.out.frozen 6;have z7:=HO9.out.frozen 7;have z8:=HO9.out.frozen 8)
     obtain⟨C9,U9⟩:=dK HO9.out (.int .i64 jt.kind) (.slice JA jt.rs.length jc) (.int .i64 jt.am) (.slice IA jt.subs.length ic) (.int .i64 jt.mn) (.int .i64 jt.mx) (.bool jt.lz) (.int .i64 jt.ix) (.string jt.nm)
     obtain⟨q0,q1,q2,q3,q4,q5,q6,q7,q8⟩:=aI C9
     refine bodyPost_ret (by simp[results,Try.results85,go_sem,q0,q1,q2,q3,q4,q5,q6,q7,q8];try rfl) rfl ?_
     refine HP.out _ _ ?_ (HU9.out.trans U9 (fun b hb e=>by have:=HOB.out;omega))
     rw[HJT.out]
     exact(HNJ.out.bA U9 (fun b hb e=>(HJB.out b hb).2 e)).weaken (fun b hb=>(HJB.out b hb).1)
    ·have hmin:min t.mn 1=t.mn:=by omega
     have HU0:=ah (show aY y t.mn (-1) t.lz=u by rw[←hu,hmin])
     clear hmin hu
     go_upto_region 14 with(first
      | (go_at_call 97;refine(loop7_any y t.mn (-1) t.lz _ S1 _ HNYr.out (bI (by have:=HM.out;omega) (by have:=HM.out;omega)) (bI (by omega) (by omega))).mono ?_;rintro e w7 ⟨cu,rfl,hNu,hU7⟩;rw[HU0.out] at hNu;have HRr:=ah (HR.out.upd hU7 (fun _ h=>absurd h aj));have HUb:=ah (HUr.out.trans hU7 (fun _ _ h=>h));have HNU:=ah (HR.out.fresh (S':=S1) (fun b hb=>.inl ⟨hb,by have:=HSZ.out;have:=(HS1.out b hb).1;omega⟩) hNu);obtain⟨UA,uc,VA,vc,rfl,-⟩:=hNu.top;clear hNu hU7;unfold au at HNU ⊢)
      | (at_builtin;refine iU rfl _ _ rfl (y:=u) rfl rfl (HRr.out.upd ((Upd.refl Nob w7).alloc _) (fun _ h=>absurd h aj)) (Cells.new w7 _ _) (HNU.out.bA ((Upd.refl Nob w7).alloc _) (fun _ _=>aj)) (by have:=HLL.out;omega) ?_;intro A' c' ww hR' hU';have HUW:=ah ((HUb.out.alloc _).trans hU' (fun b hb e=>by omega));generalize hl2:l++[u]=l2 at hR' ⊢;rw[hl2] at HJ1 HLN3;have gU:=ah (hR'.subs (S':=fun b=>S1 b∨w6.heap.size≤b) (fun b h=>.inl h) (fun b h=>.inr h));clear hR' hU' hl2))
     have HJT:=ah HJ1
     have HLEN:=ah HLN3
     obtain⟨jt,hjt⟩:∃jt,bR l2=jt:=⟨_,rfl⟩
     have HJL:=ah hjt
     rw[hjt] at HJT
     clear hjt HJ1 HLN3 e0 e1 e2 e3 e4 e5 e6 e7 e8 y0 y1 y2 y3 y4 y5 y6 y7 y8
     go_wp2_with (go_at_call 84;refine(join7_any l2 _ (fun b=>S1 b∨w6.heap.size≤b) _ _ gU.out HLEN.out.1 HLEN.out.2).mono ?_;rintro e w9 ⟨cj,rfl,hNj,hU9⟩;rw[HJL.out] at hNj;obtain⟨JA,jc,IA,ic,rfl,-⟩:=hNj.top;have HNJ:=ah (hNj.weaken (S':=fun b=>(S1 b∨w6.heap.size≤b)∨w6.heap.size≤b) (fun b h=>h.elim .inl (fun h=>.inr (Nat.le_trans HUW.out.size h))));have HO9:=ah (HO.out.upd (HUW.out.trans hU9 (fun _ _ h=>h)) aj);have HU9:=ah (HU.out.trans (HUW.out.trans hU9 (fun _ _ h=>h)) (fun _ _ h=>h));clear hNj hU9;unfold au at HNJ ⊢;obtain⟨d0,d1,d2,d3,d4,d5,d6,d7,d8⟩:=aI HO9.out;have z0:=HO9.out.frozen 0;have z1:=HO9.out.frozen 1;have z2:=HO9.out.frozen 2;have z3:=HO9.out.frozen 3;have z4:=HO9.out.frozen 4;have z5:=HO9.out.frozen 5;have z6:=HO9.out.frozen 6;have z7:=HO9.out.frozen 7;have z8:=HO9.out.frozen 8)
     obtain⟨C9,U9⟩:=dK HO9.out (.int .i64 jt.kind) (.slice JA jt.rs.length jc) (.int .i64 jt.am) (.slice IA jt.subs.length ic) (.int .i64 jt.mn) (.int .i64 jt.mx) (.bool jt.lz) (.int .i64 jt.ix) (.string jt.nm)
     obtain⟨q0,q1,q2,q3,q4,q5,q6,q7,q8⟩:=aI C9
     refine bodyPost_ret (by simp[results,Try.results85,go_sem,q0,q1,q2,q3,q4,q5,q6,q7,q8];try rfl) rfl ?_
     refine HP.out _ _ ?_ (HU9.out.trans U9 (fun b hb e=>by have:=HOB.out;omega))
     rw[HJT.out]
     exact(HNJ.out.bA U9 (fun b hb e=>(HJB.out b hb).2 e)).weaken (fun b hb=>(HJB.out b hb).1)
   ·have hx2:(t.mx==-1)=false:=by simpa using hx1
    have hxx:=HM.out.2.2.resolve_left hx1
    have HX2:=ah hxx
    have HJ0:=ah (show kD y t.mn t.mx t.lz=bR (l++[jD y t.lz (t.mx - t.mn).toNat]) by
     have h1:=HN.out.2 hx1
     rw[kD,if_neg HX0.out,if_neg hx1,HLN.out,h1])
    have HLN2:=ah (show(l++[jD y t.lz (t.mx - t.mn).toNat]).length≤1000000∧fwL (l++[jD y t.lz (t.mx - t.mn).toNat])≤1000000 by
     have h1:=HN.out.2 hx1
     have h2:=HWX.out.2.2 hx1
     have h3:=fwL_le (l++[jD y t.lz (t.mx - t.mn).toNat])
     have h4:=(wz_opt y t.lz (t.mx - t.mn).toNat).1
     rw[wzL_app,wzL_one,HLN.out,wzL_rep] at h3
     rw[←h1] at h2
     rw[HLN.out]
     refine⟨by simp;omega,by omega⟩)
    have HLL:=ah (show l.length≤1000000 by have:=HLN2.out.1;simp at this;omega)
    clear hx1 hxx HLN
    go_upto_region 16 with fail
    have hUA:=(Upd.refl Nob wr).alloc (.cells #[.int .i64 1,.slice none 0 0,.int .i64 0,.slice none 0 0,.int .i64 0,.int .i64 0,.bool false,.int .i64 0,.string ⟨#[]⟩] 47)
    have HOQ:=ah (Cells.new wr 47 #[.int .i64 1,.slice none 0 0,.int .i64 0,.slice none 0 0,.int .i64 0,.int .i64 0,.bool false,.int .i64 0,.string ⟨#[]⟩])
    have HUo:=ah hUA
    have hsz:(wr.alloc (.cells #[.int .i64 1,.slice none 0 0,.int .i64 0,.slice none 0 0,.int .i64 0,.int .i64 0,.bool false,.int .i64 0,.string ⟨#[]⟩] 47)).heap.size=wr.heap.size+1:=by simp
    have HS10:=ah hsz
    clear hUA hsz e0 e1 e2 e3 e4 e5 e6 e7 e8 y0 y1 y2 y3 y4 y5 y6 y7 y8
    generalize wr.alloc (.cells #[.int .i64 1,.slice none 0 0,.int .i64 0,.slice none 0 0,.int .i64 0,.int .i64 0,.bool false,.int .i64 0,.string ⟨#[]⟩] 47)=w10 at *
    have HOQB:=ah (show w6.heap.size≤wr.heap.size∧wr.heap.size=wr.heap.size from⟨HUr.out.size,rfl⟩)
    obtain⟨wa,hwa⟩:∃wa,wa=wr:=⟨_,rfl⟩
    subst hwa
    obtain⟨oq,hoq⟩:∃oq,wa.heap.size=oq:=⟨_,rfl⟩
    rw[hoq] at HOQ HS10 HOQB ⊢
    have HOQW:=ah hoq
    clear hoq
    go_wp2_with fail
    go_loopg [8,9] (t.mx - t.mn).toNat (fun gk v8 v9 wr=>∃(i:Nat) (f:Tree) (UA:Option Addr) (uc:Nat) (VA:Option Addr) (vc:Nat),i+gk=(t.mx - t.mn).toNat+1∧1≤i∧f=jD y t.lz (i - 1)∧v8=.int .i64 (i:Int)∧Cells wr oq 47 #[.int .i64 f.kind,.slice UA f.rs.length uc,.int .i64 f.am,.slice VA f.subs.length vc,.int .i64 f.mn,.int .i64 f.mx,.bool f.lz,.int .i64 f.ix,.string f.nm]∧aB wr (fun b=>S1 b∨oq < b) #[.int .i64 f.kind,.slice UA f.rs.length uc,.int .i64 f.am,.slice VA f.subs.length vc,.int .i64 f.mn,.int .i64 f.mx,.bool f.lz,.int .i64 f.ix,.string f.nm] f∧Upd Nob wa wr)
    case atStart=>exact⟨1,aV,none,0,none,0,by omega,by omega,rfl,rfl,HOQ.out,aB.of (t:=aV) (RA:=none) (rc:=0) (SA:=none) (sc:=0) jJ (jm (k:=1) (by omega) (by simp)) (fun i x hx=>by simp[Tree.subs,aV] at hx),HUo.out⟩
    case round =>
     clear HOQ HUo
     obtain⟨i,f,UA,uc,VA,vc,hi,hi1,hf,rfl,hOQ,hNF,hUo⟩:=hrel
     have HOQ:=ah hOQ
     have HNF:=ah hNF
     have HUo:=ah hUo
     have HI:=ah (And.intro hi hi1)
     have HFF:=ah hf
     clear hi hi1 hf hOQ hNF hUo
     have HU6:=ah (HUr.out.trans HUo.out (fun _ _ h=>h))
     obtain⟨e0,e1,e2,e3,e4,e5,e6,e7,e8⟩:=aI (HT.out.upd HU6.out aj)
     obtain⟨y0,y1,y2,y3,y4,y5,y6,y7,y8⟩:=aI (HYB.out.upd HU6.out aj)
     obtain⟨f0,f1,f2,f3,f4,f5,f6,f7,f8⟩:=aI HOQ.out
     obtain⟨mm,hmm⟩:∃mm,t.mx - t.mn=mm:=⟨_,rfl⟩
     have hw1:wrap64 (t.mx - t.mn)=mm:=by rw[hmm];unfold wrap64;have:=HX2.out;have:=HM.out;omega
     have hw2:IntKind.i64.wrap (t.mx - t.mn)=mm:=by rw[IntKind.wrap_i64,hmm];have:=HX2.out;have:=HM.out;omega
     have HMM:=ah hmm
     clear hmm
     by_cases hlt:(i:Int)≤mm
     ·have hi3:(i:Int)≤1000:=by have h1:=HX2.out;have h2:=HM.out;have h3:=HMM.out;omega
      go_upto_region 20 with fail
      have hUA:=(Upd.refl Nob wr).alloc (.cells #[.int .i64 y.kind,.slice YA y.rs.length yc,.int .i64 y.am,.slice ZA y.subs.length zc,.int .i64 y.mn,.int .i64 y.mx,.bool y.lz,.int .i64 y.ix,.string y.nm] 47)
      have HXB:=ah (Cells.new wr 47 #[.int .i64 y.kind,.slice YA y.rs.length yc,.int .i64 y.am,.slice ZA y.subs.length zc,.int .i64 y.mn,.int .i64 y.mx,.bool y.lz,.int .i64 y.ix,.string y.nm])
      have HQX:=ah (show oq < wr.heap.size from HOQ.out.lt)
      have HOQ:=ah (HOQ.out.upd hUA aj)
      have HNFX:=ah (HNF.out.both.bA hUA (fun _ _=>aj))
      have HUo:=ah (HUo.out.trans hUA (fun _ _ h=>h))
      have HNYX:=ah (HNYr.out.bA HUo.out (fun _ _=>aj))
      have hsz11:(wr.alloc (.cells #[.int .i64 y.kind,.slice YA y.rs.length yc,.int .i64 y.am,.slice ZA y.subs.length zc,.int .i64 y.mn,.int .i64 y.mx,.bool y.lz,.int .i64 y.ix,.string y.nm] 47)).heap.size=wr.heap.size+1:=by simp
      have HS11:=ah hsz11
      clear hUA hsz11 HNF HU6 e0 e1 e2 e3 e4 e5 e6 e7 e8 y0 y1 y2 y3 y4 y5 y6 y7 y8 f0 f1 f2 f3 f4 f5 f6 f7 f8
      generalize wr.alloc (.cells #[.int .i64 y.kind,.slice YA y.rs.length yc,.int .i64 y.am,.slice ZA y.subs.length zc,.int .i64 y.mn,.int .i64 y.mx,.bool y.lz,.int .i64 y.ix,.string y.nm] 47)=w11 at *
      generalize wr.heap.size=xb at *
      have HU6:=ah (HUr.out.trans HUo.out (fun _ _ h=>h))
      obtain⟨e0,e1,e2,e3,e4,e5,e6,e7,e8⟩:=aI (HT.out.upd HU6.out aj)
      obtain⟨y0,y1,y2,y3,y4,y5,y6,y7,y8⟩:=aI (HYB.out.upd HU6.out aj)
      obtain⟨f0,f1,f2,f3,f4,f5,f6,f7,f8⟩:=aI HOQ.out
      obtain⟨x0,x1,x2,x3,x4,x5,x6,x7,x8⟩:=aI HXB.out
      by_cases hi1:i=1
      ·have hc1:¬(1:Int) < (i:Int):=by omega
       have HNX:=ah (HNYX.out.weaken (S':=fun b=>S1 b∨oq < b) (fun b h=>.inl h))
       obtain⟨u,hu⟩:∃u,aY y 0 1 t.lz=u:=⟨_,rfl⟩
       have HUE:=ah hu
       have HUI:=ah (show u=jD y t.lz (i+1 - 1) by rw[←hu,hi1];rfl)
       have HQX:=ah (show oq < w11.heap.size by have:=HQX.out;have:=HS11.out;omega)
       clear hi1 hu
       go_wp2_with (go_at_call 97;refine(loop7_any y 0 1 t.lz _ (fun b=>S1 b∨oq < b) _ HNX.out (bI (by omega) (by omega)) (bI (by omega) (by omega))).mono ?_;rintro e w13 ⟨cu,rfl,hNu,hU7⟩;rw[HUE.out] at hNu;have HOQ:=ah (HOQ.out.upd hU7 aj);have HUo:=ah (HUo.out.trans hU7 (fun _ _ h=>h));have HNU:=ah (hNu.weaken (S':=fun b=>S1 b∨oq < b) (fun b h=>h.elim (fun h=>h) (fun h=>.inr (by have:=HQX.out;omega))));obtain⟨UB,ud,VB,vd,rfl,-⟩:=hNu.top;clear hNu hU7;unfold au at HNU ⊢;obtain⟨d0,d1,d2,d3,d4,d5,d6,d7,d8⟩:=aI HOQ.out;have z0:=HOQ.out.frozen 0;have z1:=HOQ.out.frozen 1;have z2:=HOQ.out.frozen 2;have z3:=HOQ.out.frozen 3;have z4:=HOQ.out.frozen 4;have z5:=HOQ.out.frozen 5;have z6:=HOQ.out.frozen 6;have z7:=HOQ.out.frozen 7;have z8:=HOQ.out.frozen 8)
       obtain⟨C9,U9⟩:=dK HOQ.out (.int .i64 u.kind) (.slice UB u.rs.length ud) (.int .i64 u.am) (.slice VB u.subs.length vd) (.int .i64 u.mn) (.int .i64 u.mx) (.bool u.lz) (.int .i64 u.ix) (.string u.nm)
       go_roundg ((t.mx - t.mn).toNat - i)
       case measure=>have:=HI.out;have:=HMM.out;omega
       case rel=>exact⟨i+1,u,UB,ud,VB,vd,by have:=HI.out;have:=HMM.out;omega,by omega,HUI.out,by go_num,C9,HNU.out.bA U9 (fun b hb e=>by have:=HSZ.out;have:=HOQB.out;rcases hb with hb | hb;(have:=(HS1.out b hb).1;omega);omega),HUo.out.trans U9 (fun b hb e=>by have:=HOQW.out;omega)⟩
      ·have hc1:(1:Int) < (i:Int):=by have:=HI.out;omega
       obtain⟨jx,hjx⟩:∃jx,bR [y,f]=jx:=⟨_,rfl⟩
       have HJX:=ah hjx
       obtain⟨u,hu⟩:∃u,aY jx 0 1 t.lz=u:=⟨_,rfl⟩
       have HUE:=ah hu
       have HUI:=ah (show u=jD y t.lz (i+1 - 1) by
        obtain⟨k,rfl⟩:∃k,i=k+2:=⟨i - 2,by have:=HI.out;omega⟩
        rw[←hu,←hjx,HFF.out]
        rfl)
       have HFW:=ah (show fwL [y,f]≤1000000 by
        have h1:=HWX.out.1
        have h2:=wz_le y
        have h3:=(wz_opt y t.lz (i - 1)).1
        have h4:=fwL_le [y,f]
        rw[←HFF.out] at h3
        simp only[wzL] at h4
        omega)
       clear hi1 hu hjx
       go_upto_region 22 with(go_at_call 84;refine(join7_any [y,f] _ (fun b=>(S1 b∨oq < b)∧b≠xb) _ 2 (two_subs (Cells.new w11 _ #[.int .i64 y.kind,.slice YA y.rs.length yc,.int .i64 y.am,.slice ZA y.subs.length zc,.int .i64 y.mn,.int .i64 y.mx,.bool y.lz,.int .i64 y.ix,.string y.nm,.int .i64 f.kind,.slice UA f.rs.length uc,.int .i64 f.am,.slice VA f.subs.length vc,.int .i64 f.mn,.int .i64 f.mx,.bool f.lz,.int .i64 f.ix,.string f.nm]) (HNYX.out.bA ((Upd.refl Nob w11).alloc _) (fun _ _=>aj)) (HNFX.out.bA ((Upd.refl Nob w11).alloc _) (fun _ _=>aj)) (fun b h=>⟨.inl h,by have:=(HS1.out b h).1;have:=HSZ.out;have:=HOQB.out;have:=HQX.out;omega⟩) (fun b h=>⟨h.1,by have:=h.2;omega⟩) ⟨.inr (by have:=HQX.out;have:=HS11.out;omega),by have:=HS11.out;omega⟩) (by simp) HFW.out).mono ?_;rintro e w12 ⟨cj,rfl,hNj,hU12⟩;rw[HJX.out] at hNj;have hU12:=((Upd.refl Nob w11).alloc _).trans hU12 (fun _ _ h=>h);obtain⟨JA,jc,IA,ic,rfl,-⟩:=hNj.top;have HNX:=ah (hNj.weaken (S':=fun b=>(S1 b∨oq < b)∧b≠xb) (fun b h=>h.elim (fun h=>h) (fun h=>by have:=HS11.out;have:=HQX.out;simp at h;exact⟨.inr (by omega),by omega⟩)));have HXB:=ah (HXB.out.upd hU12 aj);have HOQ:=ah (HOQ.out.upd hU12 aj);have HUo:=ah (HUo.out.trans hU12 (fun _ _ h=>h));clear hNj hU12;unfold au at HNX ⊢;obtain⟨x0,x1,x2,x3,x4,x5,x6,x7,x8⟩:=aI HXB.out;have z0:=HXB.out.frozen 0;have z1:=HXB.out.frozen 1;have z2:=HXB.out.frozen 2;have z3:=HXB.out.frozen 3;have z4:=HXB.out.frozen 4;have z5:=HXB.out.frozen 5;have z6:=HXB.out.frozen 6;have z7:=HXB.out.frozen 7;have z8:=HXB.out.frozen 8)
       obtain⟨C9,U9⟩:=dK HXB.out (.int .i64 jx.kind) (.slice JA jx.rs.length jc) (.int .i64 jx.am) (.slice IA jx.subs.length ic) (.int .i64 jx.mn) (.int .i64 jx.mx) (.bool jx.lz) (.int .i64 jx.ix) (.string jx.nm)
       have HNX:=ah ((HNX.out.bA U9 (fun b hb e=>hb.2 e)).weaken (S':=fun b=>S1 b∨oq < b) (fun b h=>h.1))
       have HOQ:=ah (HOQ.out.upd U9 (by have:=HQX.out;omega))
       have HUo:=ah (HUo.out.trans U9 (fun b hb e=>by have:=HOQW.out;have:=HQX.out;omega))
       clear z0 z1 z2 z3 z4 z5 z6 z7 z8 x0 x1 x2 x3 x4 x5 x6 x7 x8 e0 e1 e2 e3 e4 e5 e6 e7 e8 y0 y1 y2 y3 y4 y5 y6 y7 y8 f0 f1 f2 f3 f4 f5 f6 f7 f8 U9
       generalize ((((((((w12.setCell ⟨xb,0,none⟩ (.int .i64 jx.kind)).setCell ⟨xb,1,none⟩ (.slice JA jx.rs.length jc)).setCell ⟨xb,2,none⟩ (.int .i64 jx.am)).setCell ⟨xb,3,none⟩ (.slice IA jx.subs.length ic)).setCell ⟨xb,4,none⟩ (.int .i64 jx.mn)).setCell ⟨xb,5,none⟩ (.int .i64 jx.mx)).setCell ⟨xb,6,none⟩ (.bool jx.lz)).setCell ⟨xb,7,none⟩ (.int .i64 jx.ix)).setCell ⟨xb,8,none⟩ (.string jx.nm)=w14 at *
       obtain⟨x0,x1,x2,x3,x4,x5,x6,x7,x8⟩:=aI C9
       have HU6:=ah (HUr.out.trans HUo.out (fun _ _ h=>h))
       obtain⟨e0,e1,e2,e3,e4,e5,e6,e7,e8⟩:=aI (HT.out.upd HU6.out aj)
       have HQX:=ah (show oq < w14.heap.size from HOQ.out.lt)
       clear C9
       go_wp2_with (go_at_call 97;refine(loop7_any jx 0 1 t.lz _ (fun b=>S1 b∨oq < b) _ HNX.out (bI (by omega) (by omega)) (bI (by omega) (by omega))).mono ?_;rintro e w13 ⟨cu,rfl,hNu,hU7⟩;rw[HUE.out] at hNu;have HOQ:=ah (HOQ.out.upd hU7 aj);have HUo:=ah (HUo.out.trans hU7 (fun _ _ h=>h));have HNU:=ah (hNu.weaken (S':=fun b=>S1 b∨oq < b) (fun b h=>h.elim (fun h=>h) (fun h=>.inr (by have:=HQX.out;omega))));obtain⟨UB,ud,VB,vd,rfl,-⟩:=hNu.top;clear hNu hU7;unfold au at HNU ⊢;obtain⟨d0,d1,d2,d3,d4,d5,d6,d7,d8⟩:=aI HOQ.out;have z0:=HOQ.out.frozen 0;have z1:=HOQ.out.frozen 1;have z2:=HOQ.out.frozen 2;have z3:=HOQ.out.frozen 3;have z4:=HOQ.out.frozen 4;have z5:=HOQ.out.frozen 5;have z6:=HOQ.out.frozen 6;have z7:=HOQ.out.frozen 7;have z8:=HOQ.out.frozen 8)
       obtain⟨C9,U9⟩:=dK HOQ.out (.int .i64 u.kind) (.slice UB u.rs.length ud) (.int .i64 u.am) (.slice VB u.subs.length vd) (.int .i64 u.mn) (.int .i64 u.mx) (.bool u.lz) (.int .i64 u.ix) (.string u.nm)
       go_roundg ((t.mx - t.mn).toNat - i)
       case measure=>have:=HI.out;have:=HMM.out;omega
       case rel=>exact⟨i+1,u,UB,ud,VB,vd,by have:=HI.out;have:=HMM.out;omega,by omega,HUI.out,by go_num,C9,HNU.out.bA U9 (fun b hb e=>by have:=HSZ.out;have:=HOQB.out;rcases hb with hb | hb;(have:=(HS1.out b hb).1;omega);omega),HUo.out.trans U9 (fun b hb e=>by have:=HOQW.out;omega)⟩
     ·have HFF2:=ah (show jD y t.lz (t.mx - t.mn).toNat=f by
       rw[HFF.out]
       congr 1
       have h1:=HI.out
       have h2:=HMM.out
       have h3:=HX2.out
       omega)
      have HJ1:=HJ0.out
      have HLN3:=HLN2.out
      rw[HFF2.out] at HJ1 HLN3
      have HRr:=ah (HR.out.upd HUo.out (fun _ h=>absurd h aj))
      have HUb:=ah (HUr.out.trans HUo.out (fun _ _ h=>h))
      have HNU:=ah (HR.out.fresh (S':=S1) (fun b hb=>.inl ⟨hb,by have:=HSZ.out;have:=(HS1.out b hb).1;omega⟩) (HNF.out.weaken (S':=fun b=>S1 b∨wa.heap.size≤b) (fun b h=>h.elim .inl (fun h=>.inr (by have:=HOQW.out;omega)))))
      clear HJ0 HLN2
      go_upto_region 24 with(at_builtin;refine iU rfl _ _ rfl (y:=f) rfl rfl (HRr.out.upd ((Upd.refl Nob wr).alloc _) (fun _ h=>absurd h aj)) (Cells.new wr _ _) (HNU.out.bA ((Upd.refl Nob wr).alloc _) (fun _ _=>aj)) (by have:=HLL.out;omega) ?_;intro A' c' ww hR' hU';have HUW:=ah ((HUb.out.alloc _).trans hU' (fun b hb e=>by omega));generalize hl2:l++[f]=l2 at hR' ⊢;rw[hl2] at HJ1 HLN3;have gU:=ah (hR'.subs (S':=fun b=>S1 b∨w6.heap.size≤b) (fun b h=>.inl h) (fun b h=>.inr h));clear hR' hU' hl2)
      have HJT:=ah HJ1
      have HLEN:=ah HLN3
      obtain⟨jt,hjt⟩:∃jt,bR l2=jt:=⟨_,rfl⟩
      have HJL:=ah hjt
      rw[hjt] at HJT
      clear hjt HJ1 HLN3 e0 e1 e2 e3 e4 e5 e6 e7 e8 y0 y1 y2 y3 y4 y5 y6 y7 y8 f0 f1 f2 f3 f4 f5 f6 f7 f8
      go_wp2_with (go_at_call 84;refine(join7_any l2 _ (fun b=>S1 b∨w6.heap.size≤b) _ _ gU.out HLEN.out.1 HLEN.out.2).mono ?_;rintro e w9 ⟨cj,rfl,hNj,hU9⟩;rw[HJL.out] at hNj;obtain⟨JA,jc,IA,ic,rfl,-⟩:=hNj.top;have HNJ:=ah (hNj.weaken (S':=fun b=>(S1 b∨w6.heap.size≤b)∨w6.heap.size≤b) (fun b h=>h.elim .inl (fun h=>.inr (Nat.le_trans HUW.out.size h))));have HO9:=ah (HO.out.upd (HUW.out.trans hU9 (fun _ _ h=>h)) aj);have HU9:=ah (HU.out.trans (HUW.out.trans hU9 (fun _ _ h=>h)) (fun _ _ h=>h));clear hNj hU9;unfold au at HNJ ⊢;obtain⟨d0,d1,d2,d3,d4,d5,d6,d7,d8⟩:=aI HO9.out;have z0:=HO9.out.frozen 0;have z1:=HO9.out.frozen 1;have z2:=HO9.out.frozen 2;have z3:=HO9.out.frozen 3;have z4:=HO9.out.frozen 4;have z5:=HO9.out.frozen 5;have z6:=HO9.out.frozen 6;have z7:=HO9.out.frozen 7;have z8:=HO9.out.frozen 8)
      obtain⟨C9,U9⟩:=dK HO9.out (.int .i64 jt.kind) (.slice JA jt.rs.length jc) (.int .i64 jt.am) (.slice IA jt.subs.length ic) (.int .i64 jt.mn) (.int .i64 jt.mx) (.bool jt.lz) (.int .i64 jt.ix) (.string jt.nm)
      obtain⟨q0,q1,q2,q3,q4,q5,q6,q7,q8⟩:=aI C9
      refine bodyPost_ret (by simp[results,Try.results85,go_sem,q0,q1,q2,q3,q4,q5,q6,q7,q8];try rfl) rfl ?_
      refine HP.out _ _ ?_ (HU9.out.trans U9 (fun b hb e=>by have:=HOB.out;omega))
      rw[HJT.out]
      exact(HNJ.out.bA U9 (fun b hb e=>(HJB.out b hb).2 e)).weaken (fun b hb=>(HJB.out b hb).1)
end Go.Proofs.Ytnkefclbchpafaa
