/-
  PkR, Put, Fits, put together.
-/
import Derived.Test.YtnkefclbchpafaaZ36SpSet
import Derived.Test.YtnkefclbchpafaaZ09VisR

/-
  pike's run in memory: what a visit finds there and what it leaves.
-/
namespace Go.Proofs.Ytnkefclbchpafaa
open Go.RowKit
set_option linter.unusedVariables false
theorem info_pthread:(Try.prog.info? 108).map (fun i=>(i.zero,i.size,i.bytes))=some (some (.agg #[.int .i64 0,.slice none 0 0]),2,32):=by kernel_rfl
def Fp (b sb sg:Nat) (O NO:Option Nat) (k:Nat):Prop:=k=b∨k=sb∨k=sg∨O=some k∨NO=some k
structure dY (b sb sg:Nat) (O O' NO NO':Option Nat) (w w':World):Prop where
 upd:Upd (Fp b sb sg O NO) w w'
 own:O'=O∨∃k,O'=some k∧w.heap.size≤k
 nown:NO'=NO∨∃k,NO'=some k∧w.heap.size≤k
theorem dY.refl (b sb sg:Nat) (O NO:Option Nat) (w:World):dY b sb sg O O NO NO w w:=⟨Upd.refl _ _,.inl rfl,.inl rfl⟩
theorem dY.still {b sb sg:Nat} {O NO:Option Nat} {w w':World} (h:Upd Nob w w'):dY b sb sg O O NO NO w w':=⟨h.mono (fun _ _ h=>absurd h aj),.inl rfl,.inl rfl⟩
theorem dY.trans {b sb sg:Nat} {O O1 O2 NO NO1 NO2:Option Nat} {w w1 w2:World} (h:dY b sb sg O O1 NO NO1 w w1) (g:dY b sb sg O1 O2 NO1 NO2 w1 w2):dY b sb sg O O2 NO NO2 w w2:=by
 refine⟨h.upd.trans g.upd (fun k hk hf=>?_),?_,?_⟩
 ·rcases hf with e | e | e | e | e
  ·exact .inl e
  ·exact .inr (.inl e)
  ·exact .inr (.inr (.inl e))
  ·rcases h.own with h1 | ⟨k1,h1,h2⟩
   ·exact .inr (.inr (.inr (.inl (h1 ▸ e))))
   ·rw[h1] at e;injection e with e;omega
  ·rcases h.nown with h1 | ⟨k1,h1,h2⟩
   ·exact .inr (.inr (.inr (.inr (h1 ▸ e))))
   ·rw[h1] at e;injection e with e;omega
 ·rcases g.own with h1 | ⟨k1,h1,h2⟩
  ·rw[h1];exact h.own
  ·exact .inr ⟨k1,h1,Nat.le_trans h.upd.size h2⟩
 ·rcases g.nown with h1 | ⟨k1,h1,h2⟩
  ·rw[h1];exact h.nown
  ·exact .inr ⟨k1,h1,Nat.le_trans h.upd.size h2⟩
def jF (A:Option Addr) (n c:Nat) (st cp:Int) (T:Option Addr) (tn tc:Nat) (j:Nat) (bits:Int) (sb:Nat) (N:Option Addr) (nn nc:Nat) (ok:Bool) (FA:Option Addr) (fn fc:Nat) (wh:Int) (steps:Nat):Array Value :=
 #[.slice A n c,.int .i64 st,.int .i64 cp,.slice T tn tc,.int .i64 (j:Int),.int .i64 bits,.pointer (some ⟨sb,0,none⟩),.slice N nn nc,.bool ok,.slice FA fn fc,.int .i64 wh,.int .i64 0,.int .i64 (steps:Int)]
def CapQ (w:World) (sg:Nat) (O:Option Nat) (A:Option Addr) (n:Nat) (caps:List Int):Prop:=Reads w (fun k=>IntB w k∧k≠sg∧O≠some k) 1 A n (bn caps)
def ThQ (w:World) (sg:Nat) (O:Option Nat) (n ncaps:Nat) (ths:List (Nat × List Int)) (xs:List Value):Prop :=
 xs.length=ths.length*2∧∀i pc caps,ths[i]?=some (pc,caps)→pc < n∧caps.length=ncaps∧∃A c,xs[i*2]?=some (.int .i64 (pc:Int))∧xs[i*2+1]?=some (.slice A ncaps c)∧CapQ w sg O A ncaps caps
def jN (w:World) (sg:Nat) (O:Option Nat) (ncaps:Nat) (fo:Option (List Int × Int)) (A:Option Addr) (fn:Nat) (wh:Int):Prop :=
 (fo=none∧fn=0∧wh=0)∨∃caps,fo=some (caps,wh)∧fn=ncaps∧caps.length=ncaps∧CapQ w sg O A ncaps caps
def bW (sg:Nat) (O O':Option Nat) (w w':World):Prop:=w.heap.size≤w'.heap.size∧∀k,k < w.heap.size→IntB w k→k≠sg→O≠some k→w'.heap[k]?=w.heap[k]?∧O'≠some k
theorem CapQ.keep {w w':World} {sg:Nat} {O O':Option Nat} {A:Option Addr} {n:Nat} {caps:List Int} (h:CapQ w sg O A n caps) (hk:bW sg O O' w w'):CapQ w' sg O' A n caps:=by
 refine⟨h.1,fun hn=>?_⟩
 obtain⟨ad,e,hb,⟨hi,h1,h2⟩,hc⟩:=h.2 hn
 obtain⟨k1,k2⟩:=hk.2 _ hb hi h1 h2
 refine⟨ad,e,Nat.lt_of_lt_of_le hb hk.1,⟨?_,h1,k2⟩,fun j u hu=>?_⟩
 ·obtain⟨cs,fr,hs2⟩:=hi
  exact⟨cs,fr,k1.trans hs2⟩
 ·exact(World.cell?_of_block (by rw[add_block];exact k1)).trans (hc j u hu)
theorem ThQ.keep {w w':World} {sg:Nat} {O O':Option Nat} {n m:Nat} {ths:List (Nat × List Int)} {xs:List Value} (h:ThQ w sg O n m ths xs) (hk:bW sg O O' w w'):ThQ w' sg O' n m ths xs :=
 ⟨h.1,fun i pc caps hi=>by
  obtain⟨h1,h2,A,c,h3,h4,h5⟩:=h.2 i pc caps hi
  exact⟨h1,h2,A,c,h3,h4,h5.keep hk⟩⟩
theorem jN.keep {w w':World} {sg:Nat} {O O':Option Nat} {m:Nat} {fo:Option (List Int × Int)} {A:Option Addr} {fn:Nat} {wh:Int} (h:jN w sg O m fo A fn wh) (hk:bW sg O O' w w'):jN w' sg O' m fo A fn wh:=by
 rcases h with h | ⟨caps,h1,h2,h3,h4⟩
 ·exact .inl h
 ·exact .inr ⟨caps,h1,h2,h3,h4.keep hk⟩
theorem CapQ.eU {w:World} {base g n c sg:Nat} {O:Option Nat} {caps:List Int} (h:w.ownsRow base 3 1 (.slice (some ⟨g,0,none⟩) n c) n (bn caps)) (h1:g≠sg) (h2:O≠some g):CapQ w sg O (some ⟨g,0,none⟩) n caps :=
 (Reads.eU h).weaken (fun k hk=>by
  have e:g=k:=by simpa [Value.ownBlock] using hk
  subst e
  obtain⟨cur,hC,-⟩:=aK h rfl
  exact⟨⟨cur,_,hC⟩,h1,h2⟩)
theorem ThQ.more {w:World} {sg:Nat} {O:Option Nat} {n m:Nat} {ths:List (Nat × List Int)} {xs:List Value} (h:ThQ w sg O n m ths xs) {pc:Nat} {caps:List Int} {A:Option Addr} {c:Nat} (hp:pc < n) (hl:caps.length=m) (hc:CapQ w sg O A m caps) :
  ThQ w sg O n m (ths++[(pc,caps)]) (xs++[.int .i64 (pc:Int),.slice A m c]):=by
 refine⟨by simp[h.1];omega,fun i pc2 caps2 hi=>?_⟩
 by_cases hlt:i < ths.length
 ·rw[List.getElem?_append_left hlt] at hi
  obtain⟨h1,h2,A2,c2,h3,h4,h5⟩:=h.2 i pc2 caps2 hi
  exact⟨h1,h2,A2,c2,by rw[List.getElem?_append_left (by rw[h.1];omega)];exact h3,by rw[List.getElem?_append_left (by rw[h.1];omega)];exact h4,h5⟩
 ·have hil:=(List.getElem?_eq_some_iff.1 hi).1
  simp only[List.length_append,List.length_singleton] at hil
  obtain rfl:i=ths.length:=by omega
  rw[List.getElem?_append_right (Nat.le_refl _)] at hi
  simp at hi
  obtain⟨rfl,rfl⟩:=hi
  refine⟨hp,hl,A,c,?_,?_,hc⟩
  ·rw[List.getElem?_append_right (by rw[h.1];omega),h.1];simp
  ·rw[List.getElem?_append_right (by rw[h.1];omega),h.1];simp
structure PkR (w:World) (n0 e0 b sb sg:Nat) (O NO:Option Nat) (A:Option Addr) (c:Nat) (is:List av) (st:Int) (ncaps:Nat) (T:Option Addr) (tc:Nat) (text:List Int) (j:Nat) (s:VSt):Prop where
 insts:dH w (· < e0) A is.length is
 txt:dB w (· < e0) T text.length text
 eb:e0≤b
 en:e0≤n0
 n0w:n0≤w.heap.size
 mlen:s.met.length=is.length
 aW:∃SA sc ats L,SetR w e0 sb sg is.length SA sc ats L∧(Value.slice SA L.length sc).ownBlock=O∧(∀pc,pc < is.length→(s.met[pc]?=some true↔pc∈L))
 rest:∃N nc xs FA fn fc wh,Cells w b 73 (jF A is.length c st ncaps T text.length tc j (part text j 6) sb N s.next.length nc s.found.isSome FA fn fc wh s.steps) ∧
  w.ownsRow n0 108 2 (.slice N s.next.length nc) s.next.length xs∧(Value.slice N s.next.length nc).ownBlock=NO∧ThQ w sg O is.length ncaps s.next xs∧jN w sg O ncaps s.found FA fn wh
 work:s.steps+s.met.count false≤1099511627776
 room:s.next.length+s.met.count false≤20000
section
variable {w w' : World} {n0 e0 b sb sg : Nat} {O NO : Option Nat} {A : Option Addr} {c : Nat} {is : List av} {st : Int} {ncaps : Nat} {T : Option Addr} {tc : Nat} {text : List Int} {j : Nat} {s : VSt}
theorem Cells.not_int {t:TypeId} {cs:Array Value} {k:Nat} (h:Cells w k t cs) (ht:t≠3):¬IntB w k:=by
 rintro⟨cs2,fr,hk⟩
 unfold Cells at h
 rw[h] at hk
 injection hk with hk
 injection hk with _ hk
 exact ht hk
theorem PkR.b_int (h:PkR w n0 e0 b sb sg O NO A c is st ncaps T tc text j s):¬IntB w b:=by
 obtain⟨N,nc,xs,FA,fn,fc,wh,hC,-⟩:=h.rest
 exact hC.not_int (by decide)
theorem PkR.sb_int (h:PkR w n0 e0 b sb sg O NO A c is st ncaps T tc text j s):¬IntB w sb:=by
 obtain⟨SA,sc,ats,L,hS,-⟩:=h.aW
 exact hS.blk.not_int (by decide)
theorem PkR.keep {O' NO':Option Nat} (h:PkR w n0 e0 b sb sg O NO A c is st ncaps T tc text j s) (hU:dY b sb sg O O' NO NO' w w'):bW sg O O' w w':=by
 refine⟨hU.upd.size,fun k hk hi h1 h2=>⟨hU.upd.block k hk ?_,?_⟩⟩
 ·rintro(e | e | e | e | e)
  ·exact h.b_int (e ▸ hi)
  ·exact h.sb_int (e ▸ hi)
  ·exact h1 e
  ·exact h2 e
  ·obtain⟨N,nc,xs,FA,fn,fc,wh,hC,hN,hNO,-⟩:=h.rest
   obtain⟨cn,hcn,-⟩:=aK hN (hNO.trans e)
   exact hcn.not_int (by decide) hi
 ·intro e
  rcases hU.own with h3 | ⟨k1,h3,h4⟩
  ·exact h2 (h3 ▸ e)
  ·rw[h3] at e;injection e with e;omega
theorem PkR.facts (h:PkR w n0 e0 b sb sg O NO A c is st ncaps T tc text j s):e0≤sb∧e0≤sg∧(∀k,O=some k→e0≤k)∧b≠sb∧b≠sg∧(∀k,O=some k→k≠b)∧(∀k,NO=some k→n0≤k∧k≠b∧k≠sb∧k≠sg∧O≠some k):=by
 obtain⟨SA,sc,ats,L,hS,hO,-⟩:=h.aW
 obtain⟨N,nc,xs,FA,fn,fc,wh,hC,hN,hNO,-⟩:=h.rest
 have hb1:b≠sb:=Cells.ne_ hC hS.blk (by decide)
 have hb2:=own_ne hS.at_ hC (by decide)
 have hb3:=own_ne hS.own hC (by decide)
 have hb4:=own_ne hN hC (by decide)
 have hb5:=own_ne hN hS.blk (by decide)
 obtain⟨cg,hcg,-⟩:=aK hS.at_ rfl
 have hb6:=own_ne hN hcg (by decide)
 refine⟨hS.low,(hS.at_.lt sg rfl).1,fun k hk=>(hS.own.lt k (hO.trans hk)).1,hb1,?_,?_,?_⟩
 ·simp[Value.ownBlock] at hb2;omega
 ·intro k hk e;subst e;exact hb3 (hO.trans hk)
 ·intro k hk
  refine⟨(hN.lt k (hNO.trans hk)).1,?_,?_,?_,?_⟩
  ·intro e;subst e;exact hb4 (hNO.trans hk)
  ·intro e;subst e;exact hb5 (hNO.trans hk)
  ·intro e;subst e;exact hb6 (hNO.trans hk)
  ·intro e
   obtain⟨co,hco,-⟩:=aK hS.own (hO.trans e)
   exact own_ne hN hco (by decide) (hNO.trans hk)
theorem PkR.far {F:Nat→Prop} (h:PkR w n0 e0 b sb sg O NO A c is st ncaps T tc text j s) (hU:Upd F w w') (hb:¬F b) (h1:¬F sb) (h2:¬F sg) (h3:∀k,O=some k→¬F k) (h4:∀k,NO=some k→¬F k) (hi:∀k,IntB w k→¬F k) (hS:∀k,k < e0→¬F k) :
  PkR w' n0 e0 b sb sg O NO A c is st ncaps T tc text j s:=by
 obtain⟨SA,sc,ats,L,hSt,hO,hL⟩:=h.aW
 obtain⟨N,nc,xs,FA,fn,fc,wh,hC,hN,hNO,hT,hF⟩:=h.rest
 have hk:bW sg O O w w':=⟨hU.size,fun k hk hi2 _ h6=>⟨hU.block k hk (hi k hi2),h6⟩⟩
 exact⟨h.insts.upd hU hS,h.txt.upd hU hS,h.eb,h.en,Nat.le_trans h.n0w hU.size,h.mlen,⟨SA,sc,ats,L,hSt.upd hU h1 h2 (fun k hk=>h3 k (hO.symm.trans hk)),hO,hL⟩,
  ⟨N,nc,xs,FA,fn,fc,wh,hC.upd hU hb,aJ hN hU (fun k hk=>h4 k (hNO.symm.trans hk)),hNO,hT.keep hk,hF.keep hk⟩,h.work,h.room⟩
theorem PkR.still (h:PkR w n0 e0 b sb sg O NO A c is st ncaps T tc text j s) (hU:Upd Nob w w'):PkR w' n0 e0 b sb sg O NO A c is st ncaps T tc text j s :=
 h.far hU aj aj aj (fun _ _=>aj) (fun _ _=>aj) (fun _ _=>aj) (fun _ _=>aj)
theorem bW.still {sg:Nat} {O:Option Nat} {w w':World} (hU:Upd Nob w w'):bW sg O O w w':=⟨hU.size,fun k hk _ _ h=>⟨hU.block k hk aj,h⟩⟩
theorem kF {F:Nat→Prop} (w:World) (p:Addr) (u:Value) (h:F p.block):Upd F w (w.setCell p u):=(Upd.refl F w).setCell p u (fun _=>h)
theorem PkR.mark {w1:World} {pc:Nat} {SA:Option Addr} {sc:Nat} {ats' L:List Nat} (h:PkR w n0 e0 b sb sg O NO A c is st ncaps T tc text j s) (hm:s.met[pc]?=some false)
  (hO:(Value.slice SA L.length sc).ownBlock=O) (hL:∀q,q < is.length→(s.met[q]?=some true↔q∈L)) (hP:SetP w w1 e0 sb sg is.length SA L.length sc ats' (L++[pc])) :
  ∃O',PkR (w1.setCell ⟨b,0+12,none⟩ (.int .i64 ((s.steps:Int)+1))) n0 e0 b sb sg O' NO A c is st ncaps T tc text j (aG s pc)∧dY b sb sg O O' NO NO w (w1.setCell ⟨b,0+12,none⟩ (.int .i64 ((s.steps:Int)+1))):=by
 obtain⟨⟨SA',sc',hS',hown⟩,hU1⟩:=hP
 obtain⟨f1,f2,f3,f4,f5,f6,f7⟩:=h.facts
 obtain⟨N,nc,xs,FA,fn,fc,wh,hC,hN,hNO,hT,hF⟩:=h.rest
 have hpc:=(List.getElem?_eq_some_iff.1 hm).1
 have hcm:=gK hm
 have heb:=h.eb
 have hCb:¬(b=sb∨b=sg∨(Value.slice SA L.length sc).ownBlock=some b):=by
  rintro(e | e | e)
  ·exact f4 e
  ·exact f5 e
  ·exact f6 b (hO.symm.trans e) rfl
 have hC1:=hC.upd hU1 hCb
 have hAb:(Value.slice SA' (L++[pc]).length sc').ownBlock≠some b:=own_ne hS'.own hC1 (by decide)
 have hU2:Upd (Fp b sb sg O NO) w (w1.setCell ⟨b,0+12,none⟩ (.int .i64 ((s.steps:Int)+1))):=by
  refine(hU1.mono (fun k _ hk=>?_)).setCell _ _ (fun _=>.inl rfl)
  rcases hk with e | e | e
  ·exact .inr (.inl e)
  ·exact .inr (.inr (.inl e))
  ·exact .inr (.inr (.inr (.inl (hO.symm.trans e))))
 have hPU:dY b sb sg O (Value.slice SA' (L++[pc]).length sc').ownBlock NO NO w (w1.setCell ⟨b,0+12,none⟩ (.int .i64 ((s.steps:Int)+1))):=⟨hU2,hown.imp (fun e=>e.trans hO) id,.inl rfl⟩
 have hk:=h.keep hPU
 have hen:=h.en
 have hS:∀k,k < e0→¬Fp b sb sg O NO k:=by
  rintro k hk (e | e | e | e | e)
  ·omega
  ·omega
  ·omega
  ·have:=f3 k e;omega
  ·have:=(f7 k e).1;omega
 have hNs:∀k,(Value.slice N s.next.length nc).ownBlock=some k→¬(k=sb∨k=sg∨(Value.slice SA L.length sc).ownBlock=some k):=by
  intro k hk
  obtain⟨g1,g2,g3,g4,g5⟩:=f7 k (hNO.symm.trans hk)
  rintro(e | e | e)
  ·exact g3 e
  ·exact g4 e
  ·exact g5 (hO.symm.trans e)
 have hNb:(Value.slice N s.next.length nc).ownBlock≠some b:=own_ne hN hC (by decide)
 refine⟨_,⟨h.insts.upd hU2 hS,h.txt.upd hU2 hS,h.eb,h.en,Nat.le_trans h.n0w hU2.size,?_,⟨SA',sc',_,L++[pc],hS'.upd (kF (F:=fun k=>k=b) w1 _ _ rfl) (fun e=>f4 e.symm) (fun e=>f5 e.symm) (fun k hk e=>hAb (e ▸ hk)),rfl,?_⟩,
  ⟨N,nc,xs,FA,fn,fc,wh,hC1.aW 12 _,bN (aJ hN hU1 hNs) _ _ hNb,hNO,hT.keep hk,hF.keep hk⟩,?_,?_⟩,hPU⟩
 ·show(s.met.set pc true).length=_
  rw[List.length_set,h.mlen]
 ·intro q hq
  show(s.met.set pc true)[q]?=some true↔_
  by_cases e:pc=q
  ·subst e
   rw[List.getElem?_set_self hpc]
   simp
  ·rw[List.getElem?_set_ne e,hL q hq]
   simp[Ne.symm e]
 ·show s.steps+1+(s.met.set pc true).count false≤_
  have:=h.work
  omega
 ·show s.next.length+(s.met.set pc true).count false≤_
  have:=h.room
  omega
theorem PkR.pushed {w1 w9:World} {N:Option Addr} {nc:Nat} {xs:List Value} {FA:Option Addr} {fn fc:Nat} {wh:Int} {px:Nat} {caps:List Int} {C:Option Addr} {cc gN cN:Nat}
  (h:PkR w n0 e0 b sb sg O NO A c is st ncaps T tc text j s)
  (hC:Cells w b 73 (jF A is.length c st ncaps T text.length tc j (part text j 6) sb N s.next.length nc s.found.isSome FA fn fc wh s.steps))
  (hN:w.ownsRow n0 108 2 (.slice N s.next.length nc) s.next.length xs) (hNO:(Value.slice N s.next.length nc).ownBlock=NO) (hT:ThQ w sg O is.length ncaps s.next xs) (hF:jN w sg O ncaps s.found FA fn wh)
  (hp:px < is.length) (hcl:caps.length=ncaps) (hQ:CapQ w sg O C ncaps caps) (hroom:s.next.length+s.met.count false+1≤20000)
  (hUa:Upd Nob w w1) (hg:w1.grownBy w9 (Value.slice N s.next.length nc).ownBlock)
  (hat:some gN=(Value.slice N s.next.length nc).ownBlock∨w.heap.size≤gN)
  (ho:w9.ownsRow n0 108 2 (.slice (some ⟨gN,0,none⟩) (s.next.length+1) cN) (s.next.length+1) (xs++[.int .i64 (px:Int),.slice C ncaps cc])) :
  PkR (w9.setCell ⟨b,0+7,none⟩ (.slice (some ⟨gN,0,none⟩) (s.next.length+1) cN)) n0 e0 b sb sg O (some gN) A c is st ncaps T tc text j { s with next:=s.next++[(px,caps)] } ∧
  dY b sb sg O O NO (some gN) w (w9.setCell ⟨b,0+7,none⟩ (.slice (some ⟨gN,0,none⟩) (s.next.length+1) cN)):=by
 obtain⟨f1,f2,f3,f4,f5,f6,f7⟩:=h.facts
 obtain⟨SA,sc,ats,L,hSt,hO,hL⟩:=h.aW
 have heb:=h.eb
 have hbn:(Value.slice N s.next.length nc).ownBlock≠some b:=own_ne hN hC (by decide)
 have hB9:=(hC.upd hUa aj).grown hg hbn
 have hob:(Value.slice (some ⟨gN,0,none⟩) (s.next.length+1) cN).ownBlock≠some b:=own_ne ho hB9 (by decide)
 have hU':Upd (fun k=>k=b∨NO=some k) w (w9.setCell ⟨b,0+7,none⟩ (.slice (some ⟨gN,0,none⟩) (s.next.length+1) cN)):=by
  refine((hUa.mono (fun _ _ h=>absurd h aj)).grown hg (fun k hk _=>?_)).setCell _ _ (fun _=>.inl rfl)
  exact .inr (hNO.symm.trans hk)
 have hU:Upd (Fp b sb sg O NO) w (w9.setCell ⟨b,0+7,none⟩ (.slice (some ⟨gN,0,none⟩) (s.next.length+1) cN)):=hU'.mono (fun k _ hk=>hk.elim .inl (fun h=>.inr (.inr (.inr (.inr h)))))
 have hPU:dY b sb sg O O NO (some gN) w (w9.setCell ⟨b,0+7,none⟩ (.slice (some ⟨gN,0,none⟩) (s.next.length+1) cN)):=⟨hU,.inl rfl,hat.elim (fun e=>.inl (e.trans hNO)) (fun e=>.inr ⟨gN,rfl,e⟩)⟩
 have hk:=h.keep hPU
 have hS:∀k,k < e0→¬(k=b∨NO=some k):=by
  rintro k hk (e | e)
  ·omega
  ·have:=h.en
   have:=(f7 k e).1
   omega
 have hx:∀k,(k=sb∨k=sg∨O=some k)→¬(k=b∨NO=some k):=by
  rintro k hk (e | e)
  ·rcases hk with e2 | e2 | e2
   ·exact f4 (e.symm.trans e2)
   ·exact f5 (e.symm.trans e2)
   ·exact f6 k e2 e
  ·obtain⟨-,-,g3,g4,g5⟩:=f7 k e
   rcases hk with e2 | e2 | e2
   ·exact g3 e2
   ·exact g4 e2
   ·exact g5 e2
 have el:(s.next++[(px,caps)]).length=s.next.length+1:=by simp
 refine⟨⟨h.insts.upd hU' hS,h.txt.upd hU' hS,h.eb,h.en,Nat.le_trans h.n0w hU'.size,h.mlen,⟨SA,sc,ats,L,hSt.upd hU' (hx _ (.inl rfl)) (hx _ (.inr (.inl rfl))) (fun k hk=>hx k (.inr (.inr (hO.symm.trans hk)))),hO,hL⟩,
  ⟨some ⟨gN,0,none⟩,cN,xs++[.int .i64 (px:Int),.slice C ncaps cc],FA,fn,fc,wh,?_,?_,rfl,(hT.keep hk).more hp hcl (hQ.keep hk),hF.keep hk⟩,h.work,?_⟩,hPU⟩
 ·show Cells _ b _ (jF A is.length c st ncaps T text.length tc j (part text j 6) sb (some ⟨gN,0,none⟩) (s.next++[(px,caps)]).length cN s.found.isSome FA fn fc wh s.steps)
  rw[el]
  exact hB9.aW 7 _
 ·show World.ownsRow _ _ _ _ (.slice (some ⟨gN,0,none⟩) (s.next++[(px,caps)]).length cN) (s.next++[(px,caps)]).length _
  rw[el]
  exact bN ho _ _ hob
 ·show(s.next++[(px,caps)]).length+s.met.count false≤_
  rw[el]
  omega
theorem PkR.hit {C:Option Addr} {cc:Nat} {wh':Int} {caps:List Int} {over:Bool} (h:PkR w n0 e0 b sb sg O NO A c is st ncaps T tc text j s) (hcl:caps.length=ncaps) (hQ:CapQ w sg O C ncaps caps) :
  PkR ((((w.setCell ⟨b,0+8,none⟩ (.bool true)).setCell ⟨b,0+8+1,none⟩ (.slice C ncaps cc)).setCell ⟨b,0+8+2,none⟩ (.int .i64 wh')).setCell ⟨b,0+8+3,none⟩ (.int .i64 0)) n0 e0 b sb sg O NO A c is st ncaps T tc text j { s with found:=some (caps,wh'),over:=over } ∧
  dY b sb sg O O NO NO w ((((w.setCell ⟨b,0+8,none⟩ (.bool true)).setCell ⟨b,0+8+1,none⟩ (.slice C ncaps cc)).setCell ⟨b,0+8+2,none⟩ (.int .i64 wh')).setCell ⟨b,0+8+3,none⟩ (.int .i64 0)):=by
 obtain⟨f1,f2,f3,f4,f5,f6,f7⟩:=h.facts
 obtain⟨SA,sc,ats,L,hSt,hO,hL⟩:=h.aW
 obtain⟨N,nc,xs,FA,fn,fc,wh,hC,hN,hNO,hT,hF⟩:=h.rest
 have heb:=h.eb
 have hU:Upd (fun k=>k=b) w ((((w.setCell ⟨b,0+8,none⟩ (.bool true)).setCell ⟨b,0+8+1,none⟩ (.slice C ncaps cc)).setCell ⟨b,0+8+2,none⟩ (.int .i64 wh')).setCell ⟨b,0+8+3,none⟩ (.int .i64 0)) :=
  ((((Upd.refl (fun k=>k=b) w).setCell ⟨b,0+8,none⟩ _ (fun _=>rfl)).setCell ⟨b,0+8+1,none⟩ _ (fun _=>rfl)).setCell ⟨b,0+8+2,none⟩ _ (fun _=>rfl)).setCell ⟨b,0+8+3,none⟩ _ (fun _=>rfl)
 have hPU:dY b sb sg O O NO NO w _:=⟨hU.mono (fun k _ hk=>.inl hk),.inl rfl,.inl rfl⟩
 have hk:=h.keep hPU
 refine⟨⟨h.insts.upd hU (fun k hk e=>by omega),h.txt.upd hU (fun k hk e=>by omega),h.eb,h.en,Nat.le_trans h.n0w hU.size,h.mlen,⟨SA,sc,ats,L,hSt.upd hU (fun e=>f4 e.symm) (fun e=>f5 e.symm) (fun k hk e=>f6 k (hO.symm.trans hk) e),hO,hL⟩,
  ⟨N,nc,xs,C,ncaps,cc,wh',(((hC.aW (0+8) _).aW (0+8+1) _).aW (0+8+2) _).aW (0+8+3) _,aJ hN hU (fun k hk e=>(f7 k (hNO.symm.trans hk)).2.1 e),hNO,hT.keep hk,.inr ⟨caps,rfl,rfl,hcl,hQ.keep hk⟩⟩,h.work,h.room⟩,hPU⟩
end
end Go.Proofs.Ytnkefclbchpafaa

/-
  The walk of pike's put.
-/
namespace Go.Proofs.Ytnkefclbchpafaa
set_option maxRecDepth 100000
set_option maxHeartbeats 16000000
open Go.RowKit
set_option linter.unusedVariables false
theorem put_any (w:World) (n0 e0 b sb sg:Nat) (O NO:Option Nat) (A:Option Addr) (c:Nat) (is:List av) (st:Int) (ncaps:Nat) (T:Option Addr) (tc:Nat) (text:List Int) (j:Nat) (s:VSt)
  (h:PkR w n0 e0 b sb sg O NO A c is st ncaps T tc text j s) (px:Nat) (C:Option Addr) (cc:Nat) (caps:List Int) (hp:px < is.length) (hcl:caps.length=ncaps) (hQ:CapQ w sg O C ncaps caps) (hroom:s.next.length+s.met.count false+1≤20000) :
  Calls Try.prog 50 #[.pointer (some ⟨b,0,none⟩),.agg #[.int .i64 (px:Int),.slice C ncaps cc]] w fun e w'=>e=.returned (.tuple #[])∧∃NO',
   PkR w' n0 e0 b sb sg O NO' A c is st ncaps T tc text j { s with next:=s.next++[(px,caps)] }∧dY b sb sg O O NO NO' w w':=by
 obtain⟨N,nc,xs,FA,fn,fc,wh,hC,hN,hNO,hT,hF⟩:=h.rest
 obtain⟨i0,hi0,hz0,hz1,hz2⟩:=info_parts info_pthread
 have hn0:=h.n0w
 have hsl:s.next.length≤20000:=by have:=h.room;omega
 have hbx:=heap_alloc_new w (.cells #[.int .i64 (px:Int),.slice C ncaps cc] 108)
 have CX:=Cells.new w 108 #[.int .i64 (px:Int),.slice C ncaps cc]
 have hU1:=(Upd.refl Nob w).alloc (.cells #[.int .i64 (px:Int),.slice C ncaps cc] 108)
 have hwl:=hC.lt
 have H:=ah h
 have HC:=ah hC
 have HN:=ah hN
 have HNO:=ah hNO
 have HT:=ah hT
 have HF:=ah hF
 have HQ:=ah hQ
 have HC1:=ah (hC.upd hU1 aj)
 have HN1:=ah (aJ hN hU1 (fun _ _=>aj))
 have HCX:=ah CX
 have HU1:=ah hU1
 have hbn:(Value.slice N s.next.length nc).ownBlock≠some b:=own_ne hN hC (by decide)
 clear h hC hN hNO hT hF hQ CX hU1 hbx
 go_enter Try.func50,Try.ntmps50
 go_upto_region 1 with fail
 have hsz:(w.alloc (.cells #[.int .i64 (px:Int),.slice C ncaps cc] 108)).heap.size=w.heap.size+1:=by simp
 generalize w.alloc (.cells #[.int .i64 (px:Int),.slice C ncaps cc] 108)=w1 at *
 have ln:w1.cell? ⟨b,0+7,none⟩=some (.slice N s.next.length nc):=HC1.out.ak rfl
 have x0:w1.cell? ⟨w.heap.size,0,none⟩=some (.int .i64 (px:Int)):=HCX.out.ak rfl
 have x1:w1.cell? ⟨w.heap.size,0+1,none⟩=some (.slice C ncaps cc):=HCX.out.ak rfl
 have hnews:∀q,∀j u,[Value.int .i64 (px:Int),Value.slice C ncaps cc][j]?=some u→((w1.drewN q).alloc (.cells #[.int .i64 (px:Int),.slice C ncaps cc] 108)).cell? ((⟨w1.heap.size,0,none⟩:Addr).add j)=some u:=fun q =>
  World.news_of_block (cs:=#[.int .i64 (px:Int),.slice C ncaps cc]) (t:=108) (fr:=(0,0)) (heap_alloc_new (w1.drewN q) _)
 have hown:∀q,((w1.drewN q).alloc (.cells #[.int .i64 (px:Int),.slice C ncaps cc] 108)).ownsRow n0 108 2 (.slice N s.next.length nc) s.next.length xs:=fun q =>
  World.ownsRow.alloc (w:=w1.drewN q) HN1.out _
 have hbc:∀q w',((w1.drewN q).alloc (.cells #[.int .i64 (px:Int),.slice C ncaps cc] 108)).grownBy w' (Value.slice N s.next.length nc).ownBlock→Cells w' b 73 (jF A is.length c st ncaps T text.length tc j (part text j 6) sb N s.next.length nc s.found.isSome FA fn fc wh s.steps):=fun q w' hg =>
  Cells.grown (Cells.alloc (w:=w1.drewN q) HC1.out _) hg hbn
 rw[hsz] at hnews
 have HNW:=ah hnews
 have HOW:=ah hown
 have HBC:=ah hbc
 have ln2:∀q,((w1.drewN q).alloc (.cells #[.int .i64 (px:Int),.slice C ncaps cc] 108)).cell? ⟨b,0+7,none⟩=some (.slice N s.next.length nc):=fun q=>(Cells.alloc (w:=w1.drewN q) HC1.out _).ak rfl
 clear hnews hown hbc
 have ln3:((w1.drewN 1).alloc (.cells #[.int .i64 (px:Int),.slice C ncaps cc] 108)).cell? ⟨b,0+7,none⟩=some (.slice N s.next.length nc):=ln2 1
 have ln4:(w1.drew.alloc (.cells #[.int .i64 (px:Int),.slice C ncaps cc] 108)).cell? ⟨b,0+7,none⟩=some (.slice N s.next.length nc):=ln2 1
 clear ln2
 go_region_law ((refine step_append_lies _ rfl (.tmp 8) (.tmp 10) 71 rfl n0 108 i0 _ 2 32 Try.underlying71 hi0 hz0 hz1 hz2 rfl (by decide) (.slice N s.next.length nc) s.next.length xs (by rfl) (HOW.out _) ⟨w.heap.size+1,0,none⟩ 1 1 [.int .i64 (px:Int),.slice C ncaps cc] (by rfl) (by rfl) (HNW.out _) (by intro u hu;simp at hu;rcases hu with rfl | rfl <;> rfl) (by decide) (by unfold maxLen;omega) (by omega) (by simp;omega) (w.heap.size+1+1) (by simp[hsz]) ?_;intro gN cN w9 oN gr hat hlt;have HG:=ah gr;have HON:=ah oN;have HAT:=ah hat;have fzb:w9.drew.frozen? ⟨b,0+7,none⟩=false:=(HBC.out _ _ gr).frozen 7;have fzb2:w9.frozen? ⟨b,0+7,none⟩=false:=(HBC.out _ _ gr).frozen 7;have cb2:w9.cell? ⟨b,0+7,none⟩=some _:=(HBC.out _ _ gr).ak rfl;clear gr oN hat))
 all_goals (obtain⟨hVp,hUp⟩:=H.out.pushed (px:=px) (caps:=caps) HC.out HN.out HNO.out HT.out HF.out hp hcl HQ.out hroom ((HU1.out.drewN _).alloc _) HG.out (HAT.out.elim (fun e=>.inl e.symm) (fun e=>.inr (by omega))) HON.out)
 all_goals go_end0
 all_goals exact⟨rfl,some gN,hVp,hUp⟩
end Go.Proofs.Ytnkefclbchpafaa

/-
  The walks of pike's fits and with.
-/
namespace Go.Proofs.Ytnkefclbchpafaa
set_option maxHeartbeats 16000000
open Go.RowKit
set_option linter.unusedVariables false
theorem rising {rs:List (Int × Int)} (h:bq rs=true):∀k x,rs[k]?=some x→x.1≤x.2∧∀y,rs[k+1]?=some y→x.2 < y.1:=by
 have hf:rightFrom (bP rs 0) (rs.drop 0)=true:=by
   unfold bq at h
   rw[Bool.and_eq_true] at h
   exact h.2
 have hall:∀k,k≤rs.length→rightFrom (bP rs k) (rs.drop k)=true:=by
   intro k
   induction k with
   | zero=>intro _;exact hf
   | succ k ih =>
     intro hk
     have hx:=List.getElem?_eq_getElem (show k < rs.length by omega)
     have h1:=ih (by omega)
     rw[iE hx,Bool.and_eq_true] at h1
     exact h1.2
 have hone:∀k x,rs[k]?=some x→cO (bP rs k) x=true:=by
   intro k x hx
   have hl:=(List.getElem?_eq_some_iff.1 hx).1
   have h1:=hall k (by omega)
   rw[iE hx,Bool.and_eq_true] at h1
   exact h1.1
 intro k x hx
 have h1:=hone k x hx
 unfold cO at h1
 simp only[Bool.and_eq_true,decide_eq_true_eq] at h1
 refine⟨h1.1.1.2,fun y hy=>?_⟩
 have h2:=hone (k+1) y hy
 unfold cO at h2
 rw[Bool.and_eq_true] at h2
 have h3:=h2.2
 rw[show bP rs (k+1)=some x from hx] at h3
 have h4:x.2+1 < y.1:=of_decide_eq_true h3
 omega
theorem rising_lt {rs:List (Int × Int)} (h:bq rs=true):∀(d i:Nat) (x y:Int × Int),rs[i]?=some x→rs[i+1+d]?=some y→x.2 < y.1
 | 0,i,x,y,hx,hy=>(rising h i x hx).2 y hy
 | d+1,i,x,y,hx,hy=>by
   have hl:=(List.getElem?_eq_some_iff.1 hy).1
   have hz:=List.getElem?_eq_getElem (show i+1 < rs.length by omega)
   have h1:=(rising h i x hx).2 _ hz
   have h2:=(rising h (i+1) _ hz).1
   have h3:=rising_lt h d (i+1) _ y hz (by rw[show i+1+1+d=i+1+(d+1) by omega];exact hy)
   omega
theorem inB_at {rs:List (Int × Int)} (h:bq rs=true) {c:Int} {k:Nat} (h1:∀i x,i < k→rs[i]?=some x→x.2 < c) (h2:∀i x,k≤i→rs[i]?=some x→c≤x.2) :
   inB rs c=match rs[k]? with | none=>false | some x=>decide (x.1≤c):=by
 rw[Bool.eq_iff_iff]
 unfold inB
 rw[List.any_eq_true]
 constructor
 · rintro⟨x,hm,hx⟩
   have hx:=of_decide_eq_true hx
   obtain⟨i,hi,e⟩:=List.getElem_of_mem hm
   have hi2:rs[i]?=some x:=by rw[List.getElem?_eq_getElem hi,e]
   have hki:k≤i:=Classical.byContradiction fun hn=>by have:=h1 i x (by omega) hi2;omega
   have hkl:k < rs.length:=by omega
   rw[List.getElem?_eq_getElem hkl]
   by_cases hek:k=i
   · subst hek
     rw[e]
     exact decide_eq_true hx.1
   · have h3:=rising_lt h (i - k - 1) k _ x (List.getElem?_eq_getElem hkl) (by rw[show k+1+(i - k - 1)=i by omega];exact hi2)
     have h4:=h2 k _ (Nat.le_refl _) (List.getElem?_eq_getElem hkl)
     omega
 · intro hm
   rcases hk:rs[k]? with _ | x
   · rw[hk] at hm;cases hm
   · rw[hk] at hm
     exact⟨x,List.mem_of_getElem? hk,decide_eq_true ⟨of_decide_eq_true hm,h2 k x (Nat.le_refl _) hk⟩⟩
theorem fits_any (w:World) (S:Nat→Prop) (b:Nat) (B:Option Addr) (m c':Nat) (rs:List (Int × Int)) (T:Option Addr) (tc:Nat) (text:List Int) (j:Nat)
   (h3:w.cell? ⟨b,0+3,none⟩=some (.slice T text.length tc)) (h4:w.cell? ⟨b,0+4,none⟩=some (.int .i64 (j:Int))) (ht:dB w S T text.length text) (hr:bO w S B m rs) (hrb:bq rs=true) (hj:j≤text.length) :
   Calls Try.prog 52 #[.pointer (some ⟨b,0,none⟩),.slice B m c'] w fun e w'=>e=.returned (.bool (dI rs text j))∧∃q,w'=w.drewN q:=by
 obtain rfl:rs.length=m:=hr.len
 have hn:=ht.n
 have hm:=hr.n
 by_cases hjl:j=text.length
 · subst hjl
   have hv:dI rs text text.length=false:=by unfold dI;rw[List.getElem?_eq_none (Nat.le_refl _)]
   have HV:=ah hv
   clear hv hr ht
   go_enter Try.func52,Try.ntmps52
   go_wp2_with fail
   go_quiet (fail)
   go_wp2_with fail
   go_ret
   exact⟨congrArg Ending.returned (congrArg Value.bool HV.out.symm),_,rfl⟩
 obtain⟨ad2,cx,rfl,hcx,hcI,hat⟩:=ht.at_ (show j < text.length by omega)
 have hcc:w.cell? (ad2.add j)=some (.int .i64 cx):=hat w (Upd.refl _ _)
 have hv:dI rs text j=inB rs cx:=by unfold dI;rw[hcx];simp only[hasB,hrb,Bool.true_and]
 have hjb:((j:Int)==(text.length:Int))=false:=beq_eq_false_iff_ne.2 (by omega)
 have hjn:¬(j:Int)=(text.length:Int):=by omega
 have hjlt:(j:Int) < (text.length:Int):=by omega
 have HV:=ah hv
 have HR:=ah hr
 have HRB:=ah hrb
 have hcI1:=hcI.1
 have hcI2:=hcI.2
 clear hv hr ht hat hrb hcx
 go_enter Try.func52,Try.ntmps52
 go_wp2_with fail
 go_quiet (fail)
 go_wp2_with fail
 go_quiet (fail)
 go_wp2_with fail
 clear hcc h3 h4
 go_loopg [6,7,8] rs.length (fun gk v6 v7 v8 wr=>∃k t q:Nat,k+gk=t∧t≤rs.length∧v6=.int .i64 (k:Int)∧v7=.int .i64 (t:Int)∧wr=w.drewN q∧(∀i x,i < k→rs[i]?=some x→x.2 < cx)∧(∀i x,t≤i→rs[i]?=some x→cx≤x.2))
 case atStart=>exact⟨0,rs.length,_,by omega,Nat.le_refl _,rfl,rfl,rfl,fun i x h=>absurd h (by omega),fun i x h hx=>absurd (List.getElem?_eq_some_iff.1 hx).1 (by omega)⟩
 case round =>
   obtain⟨k,t,q,hkt,htl,rfl,rfl,rfl,hlo,hhi⟩:=hrel
   by_cases hlt:k < t
   · have g1:(k:Int) < (t:Int):=by omega
     obtain⟨q2,hq2⟩:∃q2,q2=(k+t) / 2:=⟨_,rfl⟩
     have hm2:((k:Int)+(t:Int)) / 2=(q2:Int):=by omega
     have hk2:k≤q2∧q2 < t:=by omega
     clear hq2
     go_upto_region 7 with fail
     rw[hm2]
     clear hm2
     obtain⟨ad,x,g,o,rfl,hx,i1,i2,hadd,c0,c1,-⟩:=HR.out.at1 (show q2 < rs.length by omega)
     have g2:(q2:Int) < (rs.length:Int):=by omega
     obtain⟨lo,hi⟩:=x
     simp only at c0 c1
     have c1':(w.drewN q).cell? ⟨g,o+1,none⟩=some (.int .i64 hi):=c1
     have HX:=ah hx
     have HLO:=ah hlo
     have HHI:=ah hhi
     clear hx hlo hhi c0
     by_cases hc2:hi < cx
     · go_wp2_with fail
       go_roundg (t - (q2+1))
       case measure=>omega
       case rel =>
         refine⟨q2+1,t,q,by omega,htl,by go_num,rfl,rfl,fun i x hi2 hx2=>?_,HHI.out⟩
         by_cases hiq:i=q2
         · subst hiq
           have e:=HX.out
           rw[hx2] at e
           injection e with e
           rw[e]
           exact hc2
         · rcases Nat.lt_or_ge i k with h5 | h5
           · exact HLO.out i x h5 hx2
           · have h6:=rising_lt HRB.out (q2 - i - 1) i x _ hx2 (by rw[show i+1+(q2 - i - 1)=q2 by omega];exact HX.out)
             have h7:=(rising HRB.out q2 _ HX.out).1
             simp only at h6 h7
             omega
     · have hc3:decide (hi < cx)=false:=decide_eq_false hc2
       go_wp2_with fail
       go_roundg (q2 - k)
       case measure=>omega
       case rel =>
         refine⟨k,q2,q,by omega,by omega,rfl,rfl,rfl,HLO.out,fun i x hi2 hx2=>?_⟩
         by_cases hiq:i=q2
         · subst hiq
           have e:=HX.out
           rw[hx2] at e
           injection e with e
           rw[e]
           show cx≤hi
           omega
         · have h6:=rising_lt HRB.out (i - q2 - 1) q2 _ x HX.out (by rw[show q2+1+(i - q2 - 1)=i by omega];exact hx2)
           have h7:=(rising HRB.out i _ hx2).1
           simp only at h6 h7
           omega
   · obtain rfl:k=t:=by omega
     have hA:=inB_at HRB.out hlo hhi
     have HA:=ah (HV.out.trans hA)
     clear hA hlo hhi
     have g1:¬(k:Int) < (k:Int):=by omega
     by_cases hkl:k < rs.length
     · obtain⟨ad,x,g,o,rfl,hx,i1,i2,hadd,c0,c1,-⟩:=HR.out.at1 hkl
       have g2:(k:Int) < (rs.length:Int):=by omega
       obtain⟨lo,hi⟩:=x
       simp only at c0 c1
       have c0':(w.drewN q).cell? ⟨g,o,none⟩=some (.int .i64 lo):=c0
       have HA2:=ah (HA.out.trans (show _=decide (lo≤cx) by rw[hx]))
       clear hx
       go_wp2_with fail
       go_ret
       exact⟨congrArg Ending.returned (congrArg Value.bool HA2.out.symm),_,rfl⟩
     · have g2:¬(k:Int) < (rs.length:Int):=by omega
       have HA2:=ah (HA.out.trans (show _=false by rw[List.getElem?_eq_none (by omega)]))
       go_wp2_with fail
       go_ret
       exact⟨congrArg Ending.returned (congrArg Value.bool HA2.out.symm),_,rfl⟩
theorem with_any (w:World) (S:Nat→Prop) (A:Option Addr) (n c:Nat) (caps:List Int) (i:Nat) (p:Int) (hr:Reads w S 1 A n (bn caps)) (hn:n≤1002) (hi:i < n) :
   Calls Try.prog 53 #[.slice A n c,.int .i64 (i:Int),.int .i64 p] w fun e w' =>
     ∃g,e=.returned (.slice (some ⟨g,0,none⟩) n n)∧w'.ownsRow w.heap.size 3 1 (.slice (some ⟨g,0,none⟩) n n) n (bn (caps.set i p))∧Upd Nob w w':=by
 obtain⟨i0,hi0,hz0,hz1,hz2⟩:=info_parts jG
 have hl:caps.length=n:=by have:=hr.1;simpa [bn] using this
 have hz:(madeCells (Value.int .i64 0).cells (n*1)).toList=List.replicate n (.int .i64 0):=by
   have:(Value.int .i64 0).cells=#[Value.int .i64 0]:=rfl
   rw[this,toList_madeCells_one,Nat.mul_one]
 have HZ:=ah hz
 have HX:=ah hr
 have hii:(i:Int) < (n:Int):=by omega
 clear hz hr
 go_enter Try.func53,Try.ntmps53
 go_wp2_with (first
   | (at_make;refine wpList_make_full w rfl (.tmp 9) (.tmp 9) 28 rfl w.heap.size 3 i0 (.int .i64 0) 1 Try.underlying28 hi0 hz0 hz1 .i64 .i64 (n:Int) (n:Int) n rfl rfl rfl rfl (by rw[hz2];omega) (by unfold maxLen;omega) (Nat.le_refl _) ?_;intro w1 o1 hg1;rw[HZ.out] at o1;have hr1:=HX.out.upd ((Upd.refl Nob w).grown hg1 (by simp)) (fun _ _=>aj))
   | ((with_reducible show wpList _ _ _ _ _ _);refine wpList_copy_reads rfl (.tmp 11) (.tmp 12) 28 28 rfl w.heap.size 3 i0 1 Try.underlying28 hi0 hz1 w.heap.size n n _ rfl o1 S A n c (bn caps) rfl hr1 (intv_one caps) (Nat.le_refl _) ?_;intro w2 o2 hg2;have fz:w2.frozen? ⟨w.heap.size,i,none⟩=false:=o2.frozenAt i;obtain⟨u,cu⟩:∃u,w2.cell? ⟨w.heap.size,i,none⟩=some u:=by
       rw[o2.cellAt i (by omega)]
       exact⟨_,List.getElem?_eq_getElem (by have:=o2.1;omega)⟩))
 go_ret
 have hd:bn caps++(List.replicate n (Value.int .i64 0)).drop (n*1)=bn caps:=by
   rw[List.drop_eq_nil_of_le (by simp),List.append_nil]
 rw[hd] at o2
 have o3:=(o2.stored i (.int .i64 p)).1
 have e3:(bn caps).set i (.int .i64 p)=bn (caps.set i p):=by simp[bn,List.map_set]
 rw[e3] at o3
 refine⟨_,rfl,o3,(((Upd.refl Nob w).grown hg1 (by simp)).grown hg2 ?_).setCell _ _ ?_⟩
 · intro k hk hlt;injection hk with hk;omega
 · intro hlt;simp at hlt
end Go.Proofs.Ytnkefclbchpafaa
