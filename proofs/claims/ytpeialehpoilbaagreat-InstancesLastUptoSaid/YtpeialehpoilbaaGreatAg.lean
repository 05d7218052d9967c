/- A part of the proof of InstancesLastUptoSaid: see the last text. -/
import Derived.Test.YtpeialehpoilbaaGreatAf
import Derived.Test.YtpeialehpoilbaaGreatAd
import Derived.Test.YtpeialehpoilbaaGreatAe
set_option linter.all false
noncomputable section
set_option maxRecDepth 100000
open Bool renaming false->G,true->Y,and_eq_true->zX
open Go.Am.ai renaming cells->K
open Go.Code renaming region->yM,block->zv,seq->zS,loop->yb
open Go.ResultVar renaming cell->yB,tmp->yx
open Go renaming TypeId->zQ,Value->E,Code->yG,IntKind->yq,Oper->yH
open Go.Value renaming agg->yu,func->zU,pointer->zM,slice->zL,bool->zP,map->wB,tuple->xC,string->zN
open List renaming getElem?_eq_getElem->zm,getElem_mem->zW,length->I,length_append->yD,length_singleton->wJ,take_of_length_le->yI,drop_eq_nil_of_le->yN,drop_eq_getElem_cons->yK,mem_map->xp,mem_cons->zp,mem_append->xX,mem_iff_getElem->yk,length_drop->wK,drop_zero->yY,mem_singleton->yi,reverse_cons->tt,mem_of_mem_drop->xf
open Nat renaming lt_succ_self->yL,beq->zV,le_refl->zR,ble->ze,ble_eq_true_of_le->zb,zero_add->xF,add->zl,mul->z7
open Option renaming none->U,some->O
open Go.Operand renaming tmp->vG
open Go.IntKind renaming i64->zx
open Decidable renaming decide->yF
open Go.TypeDesc renaming slice->zf
open Int renaming toNat_of_nonneg->wk
open Except renaming error->yZ
open Go Go.Am Go.Proofs Go.Am.Sym Go.Am.Eu
open Go.Proofs.Tryz
variable{n k m i j:Nat}
variable{h g:Go.Am.H}
variable{v N:Go.Value}
variable{t s:Go.TypeId}
variable{r q:Go.Am.Tr Go.Value}
variable{b:Bool}
variable{c e:Int}
variable{l p:List Go.Value}
variable{C:Go.Am.aV}
variable{a d:Go.Am.Eu.zA}
variable{A:Type}
variable{B:Nat->Option Go.Am.ai}
variable{y:List Go.Am.Eu.zA}
namespace Go.Proofs.YtpeialehpoilbaaGreat
def HN(x:zA×List zA):Prop:=aI iu x.1/\(∀v∈x.2,aI iu v/\zD v<ao)/\I x.2<=60000
@[simp] theorem aI4:zero Z 210=O .nilFunc:=by kernel_rfl
@[simp] theorem z52:zero Z 52=O (J 0):=by kernel_rfl
@[simp] theorem z66:zero Z 66=O (zL U 0 0):=by kernel_rfl
@[simp] theorem aDo{a:Option Addr}:ah (zL a n m)=[zL a n m]:=rfl
def at7:Am.zI Z 210=O 1:=by kernel_rfl
def at8{f:Fn}{p q:Array E}{g:Bool}(a:ae h k (K [N] t g)):zG Z h 210 (zU f p q) (pB k)=O (h.p k (K [zU f p q] t g)):=by rw[dY (v:=zU f p q) (n:=1) (off:=0) at7 rfl rfl a (by show 1<=1;omega)];rfl
def av4:Am.zI Z 66=O 1:=by kernel_rfl
def av5{b:Nat}{g:Bool}(c:ae h b (K [N] t g))(a:Option Addr)(n m:Nat):zG Z h 66 (zL a n m) (pB b)=O (h.p b (K [zL a n m] t g)):=by rw[dY (v:=zL a n m) (n:=1) (off:=0) av4 rfl rfl c (by show 1<=1;omega)];rfl
abbrev aLi(a:List zA):List E:=[ar (pS 0 a) 0,ar (al a) 0,ar (J 0) 0]
def akx{sz dp:zA->Int}(eU:aJ Z prog 119 (λt=>aI lP t/\zD t<ao) (λt=>[D t]) (λt=>J (sz t)))(hdp:aJ Z prog 120 (aI lP) (λt=>[D t]) (λt=>J (dp t))):
 aJ Z prog 104 HN (λx=>[D x.1,al x.2,J 0]) (λx=>aTu [D (lO sz dp x.1 x.2).1,J (lO sz dp x.1 x.2).2]):=by
 rintro⟨t,k⟩ ⟨X,F,hn⟩ h0;have X:aI iu t:=X;have adS:∀v∈k,aI iu v/\zD v<ao:=F;have F:∀v∈k,aI iu v:=λv M=>(adS v M).1;have hn:I k<=60000:=hn;have S:I k<ao:=by unfold ao;omega
 have rk:∀i:Nat,i<I k->i+1<=ao:=λi hi=>by unfold ao;omega
 let A:=k.map sz;have hl:I A=I k:=by simp[A]
 let⟨C1,n1,Wj,o1⟩:=amP 0 k A hl S (zD t+1) ((t,0),0) (yL _) X;generalize hcn:iM (fk 0 (I k) A) t 0 0=N at o1
 have o1:gJ 213 G [J N.1] (cB Z (af Z C1 n1) 141 (BO 0 k A 0 ((t,0),0)) (H.e.w (K [J 0] 213 G)) U (Z.f 141)) (dg N.2):=by have:=o1;simp only[]at this;exact this
 have M:KQ 168 [ar (bK 143 (aLi k)) 0] (aI iu) (fg (iz k 0)):=
  acf (ro:=iz k 0) ⟨(Oi k 0 F S).pure,(Oi k 0 F S).n1,(Oi k 0 F S).fn.UW λx hx=>hx.here.2⟩ λt X=>X.here.2
 have hb:=SE M λt X=>⟨X.here.1,λx hx=>X.ld hx⟩;have h42:kg Z prog 142 (λ_:Unit=>True) (λ_=>[bK 143 (aLi k)]) (λ_=>.ret (nU 143 (aLi k))):=λ_ _=>abr (143,aLi k) (Oi k 0 F S).pure;let c1:=Fi (λx:zA×Int=>aI iu x.1) (iK 168 [ar (bK 143 (aLi k)) 0]) (λx=>dg (dS (fg (iz k 0)) x.1 x.2));let c2:=Lf 213 G (BO 0 k A 0 ((t,0),0)) [J 0] [J N.1] (dg N.2) adR
 have hgr:∀v,dg N.2=.aU v->DC v:=λv M=>by
  cases hr:N.2 with
  |ok u=>rw[hr]at M;cases M
  |error e=>rw[hr]at M;cases M;exact .iface _ (.ground rfl)
 obtain⟨C,hC,av6,av7,adT,av8,av9,awa,awb⟩:∃C,aR Z prog C/\Has C 119 (λt=>aI lP t/\zD t<ao) (λt=>[D t]) (λt=>J (sz t))/\Has C 120 (aI lP) (λt=>[D t]) (λt=>J (dp t))/\
  Has C 137 (λ_:Int=>True) (λe=>[cL e]) (λe=>J e)/\oZ C 142 UX (λ_:Unit=>True) (λ_=>[bK 143 (aLi k)]) (λ_=>.ret (nU 143 (aLi k)))/\
  bS C 141 (λx:zA×Int=>aI iu x.1) (iK 168 [ar (bK 143 (aLi k)) 0]) (λx=>dg (dS (fg (iz k 0)) x.1 x.2))/\(C 141=Ga c1 c2)/\C 136=(λ_ _=>U):=by
  have Qg:=QT (eM:=UX) (aZ (aZ (aZ aW eU) hdp) ZG) h42;refine⟨_,ag1 (g:=141) (c1:=c1) (c2:=c2) (jL Qg hb) (agy Qg λh b a P Q q3=>o1.toB tok Wj P Q (.Cs (.Gd rfl) .Nl) rfl hgr q3),Has.Sk (by decide) (Has.Sk (by decide) (Has.Sk (by decide) (Has.Sk (by decide) (Has.Ad λx y e=>(by simp at e;rw[cf e]))))),Has.Sk (by decide) (Has.Sk (by decide) (Has.Sk (by decide) (Has.Ad λx y e=>(by simp at e;rw[cf e])))),Has.Sk (by decide) (Has.Sk (by decide) (Has.Ad λx y e=>(by simp[cL]at e;rw[e]))),oZ.skip (by decide) (oZ.add λ_ _ _ _ _ _ _ _=>rfl),?_,rfl,rfl⟩;intro x hx h;rw[gC];refine atw ?_
  have hi:bS (bY 141 c1 cg) 141 (λx:zA×Int=>aI iu x.1) (iK 168 [ar (bK 143 (aLi k)) 0]) (λx=>dg (dS (fg (iz k 0)) x.1 x.2)):=bS.add λx y _ _ e=>(by let⟨x1,x2⟩:=x;let⟨y1,y2⟩:=y;simp at e;rw[cf e.1,e.2])
  have:=hi x hx h;rw[gC]at this;exact this
 have awc:∀n v m,v∈k->af Z C n (aj 119 [D v] m)=.r (J (sz v)) m U:=λn v m M=>av6.ev (T:=Z) n (x:=v) ⟨aI.ng (F v M),(adS v M).2⟩ m;have awd:∀n v m,aI iu v->af Z C n (aj 120 [D v] m)=.r (J (dp v)) m U:=λn v m M=>av7.ev (T:=Z) n (x:=v) (aI.ng M) m
 have adU:∀n(m:H),m.g 5=O (K [bK 138 [zM (O ⟨2,0,U⟩),zM (O ⟨1,0,U⟩)]] 210 G)->m.g 2=O (K [J 0] 3 G)->m.g 1=O (K [al k] 29 G)->
  af Z C n (aj 142 [bK 143 [zM (O ⟨5,0,U⟩),zM (O ⟨1,0,U⟩),zM (O ⟨2,0,U⟩)]] m)=.r (nU 143 (aLi k)) (m.bx [5,1,2]) U:=λn m q5 Q P=>
  av8.ev (T:=Z) n (x:=()) trivial (m:=m) ⟨by rw[q5];simp,(by decide:¬(5∈[1,2])),by rw[P];simp,(by decide:¬(1∈[2])),by rw[Q];simp,(by decide:¬(2∈([]:List Nat))),trivial⟩
   (.Cs (.func 143 .Nl (.Cs (.box (ny (by decide:5∈[5,1,2]) q5) rfl (.func 138 .Nl (.Cs (.box (ny (by decide:2∈[5,1,2]) Q) rfl (.Pu (.Gd rfl))) (.Cs (.box (ny (by decide:1∈[5,1,2]) P) rfl (.Pu (fb k))) .Nl))))
     (.Cs (.box (ny (by decide:1∈[5,1,2]) P) rfl (.Pu (fb k))) (.Cs (.box (ny (by decide:2∈[5,1,2]) Q) rfl (.Pu (.Gd rfl))) .Nl)))) .Nl)
 have Lk:∀n m,af Z C n (aj 141 [nU 143 (aLi k),D t,J 0] m)=(dg (dS (fg (iz k 0)) t 0)).bi m:=λn m=>av9.ev (T:=Z) n (x:=(t,0)) X m
 have n1:∀args h,args=[aAg [bK 139 [zM (O ⟨5,0,U⟩),zM (O ⟨h.n-2+1,0,U⟩),zM (O ⟨7,0,U⟩)]],D t,J 0]->c1 args h=U:=λargs h e=>by subst e;show Fi _ _ _ _ _=U;unfold Fi;rw[dif_neg];rintro⟨x,_,e⟩;simp at e
 have at9:∀n B(h:H) c,Uc t k A c 0 B h->af Z C n (aj 141 [aAg [bK 139 [zM (O ⟨5,0,U⟩),zM (O ⟨c+1,0,U⟩),zM (O ⟨7,0,U⟩)]],D t,J 0] h)=(dg N.2).Ld (h.p c (K [J N.1] 213 G)):=λn B h c w=>by refine ji n ?_;rw[awa,atx (n1 _ h (by have:=w.nK;rw[show h.n-2+1=c+1 by omega]))];show Lf _ _ _ _ _ _ _ _ _=_;have hB:adR [yu ⟨[bK 139 [zM (O ⟨5,0,U⟩),zM (O ⟨c+1,0,U⟩),zM (O ⟨7,0,U⟩)]]⟩,D t,J 0]=c:=rfl;unfold Lf;rw[hB,if_pos ⟨w.gK,w.bl hl,w.men⟩]
 refine GU (gd:=136) (cap:=[zM (O ⟨3,0,U⟩),zM (O ⟨4,0,U⟩)]) tok C hC (.Cs (bg t) (.Cs (fb k) (.Cs (.Gd rfl) .Nl))) (I k+9) F104 aiz rfl ?_ h0;show ay (o3 Z _ [yB 6 31,yB 7 52] 136 _ (aTu [D (lO sz dp t k).1,J (lO sz dp t k).2])) (o3 Z _ [yB 6 31,yB 7 52] 136 _ (aTu [D (lO sz dp t k).1,J (lO sz dp t k).2])) _ (CU Z _ [yB 6 31,yB 7 52] 136 _ (aTu [D (lO sz dp t k).1,J (lO sz dp t k).2])) _;generalize hS:lO sz dp t k=S0;unfold lO at hS;rw[show iM (fk 0 (I k) (k.map sz)) t 0 0=N from hcn]at hS
 refine ax (Q0:=λB h=>h=((((H.e.w (K (ah (D t)) 31 G)).w (K [al k] 29 G)).w (K [J 0] 3 G)).w (K z5 31 G)).w (K [J 0] 52 G)/\
  B.g 3=O (zM (O ⟨0,0,U⟩))/\B.g 4=O (zM (O ⟨1,0,U⟩))/\B.g 5=O (zM (O ⟨2,0,U⟩))/\B.g 6=O (zM (O ⟨3,0,U⟩))/\B.g 7=O (zM (O ⟨4,0,U⟩))) ?_ λB h⟨e0,t3,t4,t5,t6,t7⟩=>?_
 .simp[z,f104];exact bB.mk ⟨rfl,by simp,by simp,by simp,by simp,by simp⟩
 subst e0;generalize hh:((((H.e.w (K (ah (D t)) 31 G)).w (K [al k] 29 G)).w (K [J 0] 3 G)).w (K z5 31 G)).w (K [J 0] 52 G)=h;have hb:h.b=0:=by subst hh;rfl
 have L:h.n=5:=by subst hh;rfl
 have g0:h.g 0=O (K (ah (D t)) 31 G):=by subst hh;simp
 have g1:h.g 1=O (K [al k] 29 G):=by subst hh;simp
 have g2:h.g 2=O (K [J 0] 3 G):=by subst hh;simp
 have g3:h.g 3=O (K z5 31 G):=by subst hh;simp
 have g4:h.g 4=O (K [J 0] 52 G):=by subst hh;simp
 clear hh;refine ax (Q0:=λo R=>R=h/\o.g 3=B.g 3/\o.g 4=B.g 4/\o.g 5=B.g 5/\o.g 6=B.g 6/\o.g 7=B.g 7) ?_ λV h1⟨e1,k3,k4,k5,k6,k7⟩=>?_
 .simp[z,f104,t5,hb,g2,an];exact .mk ⟨rfl,by simp,by simp,by simp[t5],by simp,by simp⟩
 subst e1;rw[t3]at k3;rw[t4]at k4;rw[t5]at k5;rw[t6]at k6;rw[t7]at k7;clear t3 t4 t5 t6 t7;refine iw (N':=js gY λo R=>R=h1/\o.g 3=V.g 3/\o.g 4=V.g 4/\o.g 5=V.g 5/\o.g 6=V.g 6/\o.g 7=V.g 7) ?_ λs hs=>?_
 .simp[z,f104,k6,k7];exact .mk ⟨rfl,by simp,by simp,by simp,by simp[k6],by simp[k7]⟩
 obtain⟨W,h2,rfl,e1,j3,j4,j5,j6,j7⟩:=hs.elim;subst e1;rw[k3]at j3;rw[k4]at j4;rw[k5]at j5;rw[k6]at j6;rw[k7]at j7
 refine qq (df:=gY) (Q0:=λo R=>R.b=0/\R.n=6/\R.g 0=h2.g 0/\R.g 1=h2.g 1/\R.g 2=h2.g 2/\R.g 3=h2.g 3/\R.g 4=h2.g 4/\R.g 5=O (K [bK 138 [zM (O ⟨2,0,U⟩),zM (O ⟨1,0,U⟩)]] 210 G)/\
  o.g 3=W.g 3/\o.g 4=W.g 4/\o.g 5=W.g 5/\o.g 6=W.g 6/\o.g 7=W.g 7/\o.g 8=O (zM (O ⟨5,0,U⟩))) ?_ λru h3⟨b0,b1,q0,P,Q,q3,q4,q5,i3,i4,i5,i6,i7,i8⟩=>?_
 .have s:=λ(h0:H)(f:Fn)(p q:Array E)(q':h0.g 5=O (K [.nilFunc] 210 G))=>at8 (f:=f) (p:=p) (q:=q) q';simp[z,f104,j4,j5,L,s];exact .mk ⟨by simp[hb],by simp[L],by simp[L],by simp[L],by simp[L],by simp[L],by simp[L],by simp,by simp,by simp[j4],by simp[j5],by simp,by simp,by simp⟩
 rw[g0]at q0;rw[g1]at P;rw[g2]at Q;rw[g3]at q3;rw[g4]at q4;rw[j3]at i3;rw[j4]at i4;rw[j5]at i5;rw[j6]at i6;rw[j7]at i7;refine qq (df:=gY) (Q0:=Un t k []) ?_ λCb h4 w=>?_
 .have mk:=λh=>mk3 h (n:=I k) (by omega);have s:=λ(h0:H)(q:h0.g 7=O (K [zL U 0 0] 66 G))(b:Nat)=>av5 (b:=7) q (O ⟨b,0,U⟩) (I k) (I k);simp[z,f104,i4,b0,b1,P,mk,s];exact .mk ⟨by simp[b0],by simp[b1],by simp[b1,q0],by simp[b1,P],by simp[b1,Q],by simp[b1,q3],by simp[b1,q4],by simp[b1,q5],by simp[b1,at4,AS],by simp,by simp,by simp[i3],by simp[i4],by simp[i5],by simp[i6],by simp[i7],by simp[i8],by simp⟩
 refine qq (df:=gY) (Q0:=Un t k A) ?_ λIK h5 w=>?_
 .let⟨hb,hn8,g0,g1,g2,g3,g4,g5,g6,g7,hle,t3,t4,t5,t6,t7,t8,t9⟩:=w;refine qq (df:=gY) (Q0:=Cd t k [] 0) ?_ λIL h6 w=>?_
  .simp[z,f104,t4,hb,g1];exact .mk ⟨⟨hb,hn8,g0,g1,g2,g3,g4,g5,g6,g7,hle,by simp[t3],by simp[t4],by simp[t5],by simp[t6],by simp[t7],by simp[t8],by simp[t9]⟩,by simp,by simp,by simp⟩
  refine pE 4 (λj s'=>∃l,j=I k-I l/\l=(k.take (I l)).map sz/\js gY (Cd t k l (I l)) s') (I k) ⟨[],by simp,by simp,.mk w⟩ (by omega) ?_;rintro j s' m ⟨l,rfl,PS,hs⟩ hm;obtain⟨Ce,h7,rfl,w⟩:=hs.elim;by_cases cA:I l<I k
  .have e:∀m',af Z C m (aj 119 [D k[I l]] m')=.r (J (sz k[I l])) m' U:=λm'=>awc m _ m' (zW cA);refine(akw w cA (rk _ cA) e).Mo (λCc q=>?_) (λ_ q=>q.elim) (λ_ _ q=>q.elim) (λ_ _ q=>q.elim);refine⟨_,?_,l++[sz k[I l]],rfl,?_,q⟩
   .simp;omega
   .rw[yD,wJ,List.take_add_one,List.map_append,<-PS,zm cA];rfl
  .refine(am6 w (by omega)).Mo (λ_ q=>q.elim) (λ_ q=>q.elim) (λj Cc q=>⟨q.1,?_⟩) (λ_ _ q=>q.elim)
   have:l=A:=by rw[PS,yI (by omega)]
   rw[<-this];exact q.2
 rw[ahi];refine qq (df:=gY) (Q0:=Uc t k A h5.n 0) ((am7 w).Mo (λ_ q=>q) (λ_ q=>q.elim) (λ_ _ q=>q.elim) (λ_ _ q=>q.elim)) λIL h6 w=>?_;refine qq (df:=gY) (Q0:=λB h=>(∃u,N.2=.ok u)/\Uc t k A h5.n N.1 B h) ((ana (c2:=N.1) (r:=N.2) w (at9 _ _ _ _ w)).Mo (λ_ q=>q) (λ_ q=>q.elim) (λ_ _ q=>q.elim) (λch s q=>?_)) λCe h7⟨⟨u0,hu⟩,w⟩=>?_
 .obtain⟨e,P,rfl,Q⟩:=q;obtain⟨Ce,h7,rfl,w⟩:=Q.elim;rw[P]at hS;rw[<-hS];exact aaD adT w.base w.g3 rfl w.g4 w.t6 w.t7
 rw[hu]at hS;refine qq (df:=gY) (Q0:=λB h=>∃u,dS (fg (iz k 0)) t 0=.ok u/\Ur (D u) B h) (?_:ay _ _ _ _ (aw _ _ _ (yM 13 Ez Y) _)) λDG h8⟨u,hu2,Mh⟩=>?_
 .rw[eg];refine(anc (r:=dS (fg (iz k 0)) t 0) w (λ_ _=>trivial) (adU _ h7 w.g5 w.g2 w.g1) (adU _ h7.f ?_ ?_ ?_) (Lk _)).Mo (λ_ q=>q) (λ_ q=>q.elim) (λ_ _ q=>q.elim) (λch s q=>?_)
  .rw[RW];exact w.g5
  .rw[RW];exact w.g2
  .rw[RW];exact w.g1
  .obtain⟨e,P,rfl,Q⟩:=q;obtain⟨Ce,h7,rfl,w⟩:=Q.elim;simp only[P]at hS;rw[<-hS];exact aaD adT w.base w.g3 rfl w.g4 w.t6 w.t7
 simp only[hu2]at hS;have US:aI iu u:=Ti iu.loc (ro:=iz k 0) (λt d u hk hp h=>YN iu.loc F hk hp h) _ t (yL _) X 0 u hu2;refine ane awb Mh (dp:=dp) (λm=>awd _ u m US) ?_;rw[<-hS];split<;>rfl
def anf:∃a,aJ Z prog 104 HN (λx=>[D x.1,al x.2,J 0]) (λx=>aTu [D (lO (λt=>(zD t:Nat)) a x.1 x.2).1,J (lO (λt=>(zD t:Nat)) a x.1 x.2).2]):=by let⟨a,b⟩:=aaC;exact⟨a,akx (sz:=λt=>(zD t:Nat)) abv b⟩
def F78:Z.f 78=O f78:=by kernel_rfl
abbrev cj(r:zA×Int):E:=aTu [D r.1,J r.2]
def JN(r:zA×Int):bH (cj r):=.Tt (.Cs (bg _) dF)
structure BR(sb:zA->List zA->zA×Int):Prop where
 fn:aJ Z prog 78 HN (λx=>[D x.1,al x.2]) (λx=>cj (sb x.1 x.2))
 gl:∀{p:zA->Prop},Am.Eu.Loc p->∀{t:zA}{vs:List zA},aI p t->(∀v∈vs,aI p v)->aI p (sb t vs).1
 small:∀{t:zA}{vs:List zA},(∀v∈vs,zD v<ao)->zD (sb t vs).1<=4096
def apL:∃g,BR g:=by
 let⟨d,a⟩:=anf;refine⟨lO (λt=>(zD t:Nat)) d,?_,λh t b i f=>amR h i f,λf=>ais f⟩;rintro⟨t,b⟩ j
 obtain⟨C,l,k⟩:∃C,aR Z prog C/\Has C 104 HN (λx=>[D x.1,al x.2,J 0]) (λx=>cj (lO (λt=>(zD t:Nat)) d x.1 x.2)):=
  ⟨_,aZ aW a,Has.Ad λx y e=>(by let⟨o,p⟩:=x;let⟨q,r⟩:=y;simp at e;rw[cf e.1,mN e.2])⟩
 have c:∀n m,af Z C n (aj 104 [D t,al b,J 0] m)=.r (cj (lO (λt=>(zD t:Nat)) d t b)) m U:=λn m=>k.ev (T:=Z) n (x:=(t,b)) j m;refine jf tok C l (.Cs (bg t) (.Cs (fb b) .Nl)) 1 F78 rfl rfl ?_;simp[f78,c];exact bG.Pu (JN _) (by simp)
def F235:Z.f 235=O f235:=by kernel_rfl
def F236:Z.f 236=O f236:=by kernel_rfl
def F267:Z.f 267=O f267:=by kernel_rfl
def F268:Z.f 268=O f268:=by kernel_rfl
def F290:Z.f 290=O f290:=by kernel_rfl
def isUnit:ag->Bool
 |.r (xC ⟨[]⟩) h U=>zV h.b 0
 |_=>G
def aiA{a:ag}(h:isUnit a=Y):∃h1,a=.r (aTu []) h1 U:=by
 unfold isUnit at h;split at h
 .exact⟨_,rfl⟩
 .cases h
def t162:isUnit (cB Z (af Z cg 40) 162 [cp [] 0 0 []] H.e U (Z.f 162))=Y:=by kernel_rfl
def apM:aJ Z prog 162 (λ_:Unit=>True) (λ_=>[cp [] 0 0 []]) (λ_=>aTu []):=by intro _ _ a;let⟨h1,e⟩:=aiA t162;exact TI (out:=.ret (aTu [])) tok cg aW (.Cs (.data _ _ _ _ .Nl) .Nl) 40 (by rw[e];exact .ret (.Pu (.Tt .Nl))) a
def Lm:List E->H->List Nat:=λ_ _=>[]
structure eE(h h':H):Prop where
 base:h'.b=0
 next:h.n<=h'.n
 get:∀j,j<h.n->h'.g j=h.g j
def eE.trans{h2:H}(a:eE h g)(b:eE g h2):eE h h2:=⟨b.base,Nat.le_trans a.next b.next,λj c=>by rw[b.get j (Nat.lt_of_lt_of_le c a.next),a.get j c]⟩
def eE.new(a:eE h g)(o:ai):eE h (g.w o):=⟨by simp[a.base],by have:=a.next;simp;omega,λj b=>by have:=a.next;rw[kP,if_neg (by omega),a.get j b]⟩
def eE.put{h':H}(a:eE h h'){b:Nat}(hb:h.n<=b)(o:ai):eE h (h'.p b o):=⟨by simp[a.base],by have:=a.next;simp;omega,λj c=>by rw[jd,if_neg (by omega),a.get j c]⟩
def eE.refl(hb:h.b=0):eE h h:=⟨hb,zR _,λ_ _=>rfl⟩
@[simp] theorem TT.aI5:Z.u 262=O (.map 3 3):=by kernel_rfl
def apN{x:Operand}:Am.execOp Z r s h (.range t x)=.of (Es h (Z.u t) (aA r x)):=rfl
def ar8{x:Operand}:Am.execOp Z r t h (.next x b)=.of (Ho h b (aA r x)):=rfl
def aky(a:h.b=0)(b:ae h n (.map #[] 0)):Es h (O (.map 3 3)) (O (wB (O n)))=.v (pB h.n) (h.w (.mapIter (O n) 0 #[] 0)):=by show rangeMap h n (h.g n)=_;rw[b];show Hn (h.az n) _=_;rw[Ae a];rfl
def ang(a:h.b=0){r:Nat}(b:ae h n (.map #[] 0))(c:ae h r (.mapIter (O n) 0 #[] 0)):Ho h G (O (pB r))=.v (aTu [zP G]) h:=by show abW h r G (h.g r)=_;rw[c];show Jy h r n 0 #[] 0 (h.g n)=_;rw[b];show aK.v (xC #[zP G]) ((h.az r).az n)=_;rw[Ae a,Ae a]
def awe:zE Z 262 [v] 0=O v:=by rw[dK (show Am.zK Z 262=O G by kernel_rfl)];rfl
section
variable{C:aV}
def ar9(f:C 268=λ_ _=>U){g:Bool}(a:h.b=0)(i:h.g k=O (K [wB (O m)] t g))(d:h.g m=O (.map #[] 0))(j:m<h.n):
 af Z C (n+2) (.call (bK 268 [zM (O ⟨k,0,U⟩)]) [v] h U)=.r (aTu []) (h.w (.mapIter (O m) 0 #[] 0)) U:=by
 have c:(h.w (.mapIter (O m) 0 #[] 0)).g m=O (.map #[] 0):=by rw[kP,if_neg (by omega)];exact d
 rw[oy _ (by rw[f]),dx (vs:=[]) (h2:=h.w (.mapIter (O m) 0 #[] 0)) (ab:=U) F268 rfl rfl (by have r:=aky a d;have l:=ang (h:=h.w (.mapIter (O m) 0 #[] 0)) (by simp[a]) c (r:=h.n) (by simp);simp[f268,apN,ar8,a,i,awe,r,l,an,fJ])]
 rfl
end
def ada:yG:=z f290 [Y,G,Y,G]
def O3:yG:=FX ada
def O4:yG:=nZ ada
def aiB:f290.body=O (zS (z f290 pF0) (zS (zS (z f290 [Y,G,G]) (zv 0 (.rangeFunc (vG 6) #[7] O3 O4))) (z f290 pT2))):=rfl
def CN(b M:Nat)(h:H):Prop:=h.b=0/\b<h.n/\M<h.n/\(∃e g,h.g b=O (K [wB (O M)] e g))/\h.g M=O (.map #[] 0)
def CN.keeps{b :Nat}{c:H}(a:CN b n h)(k:eE h c):CN b n c:=by obtain⟨l,d,f,⟨e,g,i⟩,j⟩:=a;have:=k.next;exact⟨k.base,by omega,by omega,⟨e,g,by rw[k.get b d];exact i⟩,by rw[k.get n f];exact j⟩
section
variable{C:aV}
def call268(f:C 268=λ_ _=>U){b :Nat}{yv:E}(a:CN b k h):∃c,af Z C (n+2) (.call (bK 268 [pB b]) [yv] h U)=.r (aTu []) c U/\eE h c:=by let⟨d,h1,i,⟨e,g,j⟩,l⟩:=a;exact⟨_,ar9 f d j l i,(eE.refl d).new _⟩
def asa(y:C 290=λ_ _=>U)(t:C 268=λ_ _=>U){b :Nat}(a:CN b m h):
 ∃c,af Z C (n+4) (aj 290 [zL U 0 0,bK 268 [zM (O ⟨b,0,U⟩)]] h)=.r (zL U 0 0) c U/\eE h c:=by
 have o:=a.1
 have code:ay (λ_=>False) (λs=>∃tm h2,s=⟨tm,eJ [h.n+1],h2,U⟩/\tm.g 4=O (zL U 0 0)/\eE h h2/\h2.g (h.n+1)=O (.Df (O []))) (λ_ _=>False) (λ_ _=>False)
  (aw Z (af Z C (n+1+1+1)) ⟨290,U⟩ (zS (z f290 pF0) (zS (zS (z f290 [Y,G,G]) (zv 0 (.rangeFunc (vG 6) #[7] O3 O4))) (z f290 pT2))) ⟨bF [zL U 0 0,bK 268 [zM (O ⟨b,0,U⟩)]] 0 .Nl,[],h,U⟩):=by
  refine ax (Q0:=λtm c=>c=h.w (K [zL U 0 0] 66 G)/\tm.g 1=O (bK 268 [zM (O ⟨b,0,U⟩)])/\tm.g 2=O (zM (O ⟨h.n,0,U⟩))/\tm.g 4=O (zL U 0 0)) ?_ λtm h1⟨A,B,j,t4⟩=>?_
  .simp[z,f290];exact .mk ⟨rfl,by simp,by simp,by simp⟩
  subst A
  refine iw (N':=λs=>∃tm h2,s=⟨tm,eJ [h.n+1],h2,U⟩/\tm.g 2=O (zM (O ⟨h.n,0,U⟩))/\eE h h2/\h2.g h.n=O (K [zL U 0 0] 66 G)/\h2.g (h.n+1)=O (.Df (O [])))
   (ax (Q0:=λd c=>c=h.w (K [zL U 0 0] 66 G)/\d.g 6=O (bK 268 [zM (O ⟨b,0,U⟩)])/\d.g 2=O (zM (O ⟨h.n,0,U⟩))) ?_ λd c⟨u,F,j⟩=>?_) λs⟨tm,h2,e,j,k,L,N⟩=>?_
  .simp[z,f290,B];exact .mk ⟨rfl,by simp,by simp[j]⟩
  .rw[hU];have P:c.n=h.n+1:=by rw[u];simp
   have v:eE h c:=by rw[u];exact(eE.refl o).new _
   obtain⟨r,i⟩:∃r:kz,r={state:=.ready,pending:=U,fn:=290,tmps:=d,params:= #[7],assign:=O3,body:=O4,defers:=c.n}:=⟨_,rfl⟩;have x:eE c ((c.w (.Df (O []))).w (.Lo r)):=((eE.refl v.base).new _).new _;let⟨Q,R,p⟩:=call268 t (n:=n+1) (yv:=zU (.yield (c.n+1)) #[] #[]) ((a.keeps v).keeps x);have S:Q.g (c.n+1)=O (.Lo r):=by rw[p.get _ (by simp)];simp
   have V:=Hs (T:=Z) (C:=C) (n:=n+2) (g:=290) (f:=vG 6) (ps:= #[7]) (a:=O3) (b:=O4) (tm:=d) (df:=[]) (h:=c) (r:=r) (show aA d (vG 6)=_ from F) (by rw[<-i];exact R) S (.inl (by rw[i];exact⟨rfl,rfl⟩));have l:r.pending=U:=by rw[i]
   rw[V,l];show ay _ _ _ _ (lq 0 (.c .Nr _));rw[Mz];refine⟨d,_,by rw[P];rfl,j,(v.trans (x.trans p)).put (by omega) _,?_,?_⟩
   .rw[jd,if_neg (by omega),p.get _ (by simp;omega),kP,if_neg (by simp;omega),kP,if_neg (by omega),u];simp
   .rw[jd,if_neg (by omega),p.get _ (by simp;omega),kP,if_neg (by simp;omega),kP,if_pos (by omega)]
  .subst e;have w:=k.base;simp[z,f290,j,L,w,Qe];exact⟨_,_,⟨rfl,rfl⟩,by simp,k,N⟩
 rcases code.cases with⟨_,_,q⟩|⟨s,e,W,h2,rfl,X,q2,q3⟩|⟨_,_,_,q⟩|⟨_,_,_,q⟩
 .cases q
 .refine⟨iR h2 [h.n+1],?_,?_⟩
  .rw[ll _ (by rw[y])];show cB Z (af Z C (n+1+I [h.n+1]+1)) 290 _ h U (Z.f 290)=_
   rw[Rw (T:=Z) (C:=C) (n:=n+1) (bs:=[h.n+1]) (vs:=[zL U 0 0]) (h2:=iR h2 [h.n+1]) F290 aiB rfl (.inr rfl) e (by simp) (λb o=>by simp at o;subst o;exact q3) (by simp[f290,X])]
   rfl
  .exact q2.put (by omega) _
 .cases q
 .cases q
def asb(g:C 290=λ_ _=>U)(d:C 268=λ_ _=>U)(f:C 267=λ_ _=>U)(a:CN m i h):
 ∃c,af Z C (n+5) (aj 267 [bK 268 [pB m]] h)=.r (zL U 0 0) c U/\eE h c:=by
 let⟨c,e,k⟩:=asa g d (n:=n) a;refine⟨c,?_,k⟩;rw[ll _ (by rw[f]),dx (vs:=[zL U 0 0]) (h2:=c) (ab:=U) F267 rfl rfl (by simp[f267,e])];rfl
def asc(o:C 290=λ_ _=>U)(f:C 268=λ_ _=>U)(g:C 267=λ_ _=>U)(l:C 235=λ_ _=>U)(U5:kY C 162 Lm (λ_:Unit=>True) (λ_=>[cp [] 0 0 []]) (λ_=>aTu []))(a:CN i j h):
 ∃c,af Z C (n+6) (aj 235 [bK 268 [pB i]] h)=.r (zL U 0 0) c U/\eE h c:=by
 let⟨c,e,k⟩:=asb o f g (n:=n) a;have d:af Z C (n+5) (aj 162 [zL U 0 0] c)=.r (aTu []) c U:=U5.ev (T:=Z) (n+5) (x:=()) trivial (m:=c) trivial (.Cs .cP .Nl);refine⟨c,?_,k⟩;rw[ll _ (by rw[l]),dx (vs:=[zL U 0 0]) (h2:=c) (ab:=U) F235 rfl rfl (by simp[f235,e,d])];rfl
end
def F39:Z.f 39=O f39:=by kernel_rfl
abbrev CZ:=Int×List zA
abbrev Fv(x:CZ):List E:=[J x.1,al x.2]
def Sf(x:CZ):bX (Fv x):=.Cs bJ (.Cs (fb _) .Nl)
def Ie:yG:=z f39 [Y,Y,G,Y,G,G]
def akz:f39.body=O (zS (z f39 pF0) (zS (z f39 pF1) (zS (zS (z f39 [Y,Y,G,G]) (zv 0 (yb Ie))) (z f39 pT3)))):=rfl
structure Ln(x:CZ)(i:Nat)(tm:Tr E)(h:H):Prop where
 base:h.b=0
 t0:aa tm 0 (J x.1)
 t5:∃k,aa tm 5 (J k)
 t8:aa tm 8 (al x.2)
 t9:aa tm 9 (J (I x.2:Nat))
 t10:aa tm 10 (J i)
section
variable{ev:zC->ag}{x:CZ}{i:Nat}{tm:Tr E}{h:H}
def anh(j:Ln x i tm h)(e:i<I x.2)(b:i+1<=ao)(d:∀k,∃y:H->Int,∀h,ev (aj 39 (Fv (k,x.2[i].M)) h)=.r (J (y h)) h U):
 aD (λa l=>Ln x (i+1) a l) (λa _=>∃k,aa a 4 (J k)) bE
  (aF Z ev 39 Ie tm h):=by
 let⟨f,t0,⟨k,t5⟩,t8,t9,t10⟩:=j;have g:=dA b;simp at g;let⟨y,m⟩:=d (zx.wrap (x.1-k));by_cases c:x.1<k
 .simp[Ie,z,f39,t0,t5,t8,t9,t10,e,c,an]
 .simp[Ie,z,f39,t0,t5,t8,t9,t10,f,e,g,m,c,an];exact⟨by simp[f],by simp[t0],⟨_,by simp;rfl⟩,by simp[t8],by simp[t9],by simp⟩
def apO(c:Ln x i tm h)(d:I x.2<=i):
 aD ap ap (λj a e=>j=0/\∃k,aa a 5 (J k)) (aF Z ev 39 Ie tm h):=by
 let⟨f,t0,⟨k,t5⟩,t8,t9,t10⟩:=c;have b:¬i<I x.2:=by omega
 simp[Ie,z,f39,t5,t9,t10,b]
end
def abx:∃f:CZ->Int,aJ Z prog 39 (λx=>fA x.2<ao) Fv (λx=>J (f x)):=by
 refine NT J (λx=>fA x.2) λx n⟨f,o⟩=>?_
 obtain⟨C,p,r⟩:∃C,aR Z prog C/\iA C 39 (λy:CZ=>fA y.2<fA x.2/\fA y.2<ao) Fv J:=
  ⟨_,Bb aW (λ_=>rfl) o,iA.add⟩
 have n:fA x.2<ao:=n;have hlen:=Hc x.2;refine CE tok C p (Sf x) (λ_=>.Gd rfl) (I x.2+1) F39 akz rfl ?_
 have s:aD (λtm h=>h.b=0/\aa tm 0 (J x.1)/\aa tm 1 (al x.2)) ap bE (aF Z (af Z C (I x.2+1+1)) 39 (z f39 pF0) (bF (Fv x) 0 .Nl) H.e):=by simp[z,f39]
 have t:∀tm h,(h.b=0/\aa tm 0 (J x.1)/\aa tm 1 (al x.2))->aD (λtm h=>h.b=0/\aa tm 0 (J x.1)/\aa tm 1 (al x.2)/\∃k,aa tm 5 (J k)) ap bE (aF Z (af Z C (I x.2+1+1)) 39 (z f39 pF1) tm h):=by rintro tm h ⟨c,d,e⟩;simp[z,f39,d,e,c]
 have u:∀tm h,(h.b=0/\aa tm 0 (J x.1)/\aa tm 1 (al x.2)/\∃k,aa tm 5 (J k))->aD (λtm h=>Ln x 0 tm h) ap bE (aF Z (af Z C (I x.2+1+1)) 39 (z f39 [Y,Y,G,G]) tm h):=by rintro tm h ⟨c,d,e,k,g⟩;simp[z,f39,e];exact⟨c,by simp[d],⟨k,by simp[g]⟩,by simp,by simp,by simp⟩
 refine aS (s.Mo bT aP cS) λtm h q=>aS ((t tm h q).Mo bT aP cS) λtm h q=>
  aS (N':=λtm _=>∃k,aa tm 5 (J k)) (aS ((u tm h q).Mo bT aP cS) λtm h b=>?_) λtm h q=>?_
 .refine fU 0 (λj tm h=>∃i,j=I x.2-i/\i<=I x.2/\Ln x i tm h) (I x.2) ⟨0,rfl,by omega,b⟩ (by omega) ?_;rintro j tm h m ⟨i,rfl,A,b⟩-;by_cases a:i<I x.2
  .have B:=HB (zW a);have F:=rZ x.2[i];refine(anh b a (by omega) (λk=>?_)).Mo (λl v q=>⟨_,by omega,i+1,rfl,a,q⟩) (λl v q=>q) jr;let⟨y,w⟩:=r.data (T:=Z) (x:=(k,x.2[i].M)) ⟨by show fA x.2[i].M<_;omega,by show fA x.2[i].M<_;omega⟩ (Sf _);exact⟨y,w m⟩
  .exact(apO b (by omega)).Mo aP aP cS
 .let⟨k,g⟩:=q;simp[z,f39,g]
end Go.Proofs.YtpeialehpoilbaaGreat
namespace Go.Am.Eu
structure SL where
 l:List ByteArray
 isNil:Bool
def asd(x:SL):List E:=match x.l with|[]=>[zP x.isNil]|_::_=>[]
def sV(x:SL):E:=cp (x.l.map zN) 0 (I x.l) (asd x)
end Go.Am.Eu
namespace Go.Proofs.YtpeialehpoilbaaGreat
def F37:Z.f 37=O f37:=by kernel_rfl
def F38:Z.f 38=O f38:=by kernel_rfl
def F59:Z.f 59=O f59:=by kernel_rfl
def F5:Z.f 5=O f5:=by kernel_rfl
@[simp] theorem aH7{h:H}{e:zQ}(x:SL):mX h (O (zf e)) (sV x)=.v (.int zx (I x.l)) h:=rfl
@[simp] theorem aH8{h:H}{x:SL}{k:yq}{i:Nat}(a:i<I x.l):dI Z h (O (zf 9)) (O (sV x)) (O (.int k (i:Int)))=.v (ar (zN x.l[i]) 0) h:=
  np (e:=zN x.l[i]) s9 a (by simp[a]) rfl
def aua:aJ Z prog 38 (λ_=>True) (λs=>[zN s]) (λs=>zP (yF (80<s.size))):=by
 intro s _;have e:(80<(s.size:Int))=(80<s.size):=by apply propext;omega
 refine ku (v:=zP (yF (80<s.size))) tok cg aW dF bJ 1 F38 rfl rfl ?_;simp[e]
def Ig:yG:=z f59 [Y,G,Y,G,G]
def akA:f59.body=O (zS (z f59 pF0) (zS (zS (z f59 [Y,G,G]) (zv 0 (yb Ig))) (z f59 pT2))):=rfl
section
variable{ev:zC->ag}{x:SL}{i:Nat}{tm:Tr E}{h:H}
end
@[simp] theorem aH9{h:H}{x y:Operand}(s:SL):fu Z h .eql 24 x y (O (sV s)) (O (zL U 0 0))=.v (zP (s.l.isEmpty&&s.isNil)) h:=by
  obtain⟨l,n⟩:=s;cases l with
  |nil=>kernel_rfl
  |cons a l=>kernel_rfl
@[simp] theorem aHm{h:H}:iQ Z h 0 (O (zf 9)) (O [])=.v (zL (pO h.n) 0 0) (h.w (ad [] 9)):=by kernel_rfl
def F40:Z.f 40=O f40:=by kernel_rfl
def F60:Z.f 60=O f60:=by kernel_rfl
def F61:Z.f 61=O f61:=by kernel_rfl
def F86:Z.f 86=O f86:=by kernel_rfl
abbrev AB:E:=zU (.func 61) #[] #[]
def apP:∃f:aB->Bool,aJ Z prog 61 (λ_=>True) (λs=>[aT s]) (λs=>zP (f s)):=by refine qi zP λs _=>CE tok cg aW (.Cs (kR s) .Nl) (λ_=>.Gd rfl) 1 F61 rfl rfl ?_;simp;omega
def aLj:yG:=z f86 [Y,G,Y,G,G]
def ZK:f86.body=O (zS (z f86 pF0) (zS (zS (z f86 [Y,G,G]) (zv 0 (yb aLj))) (z f86 pT2))):=rfl
structure Lq(l:List aB)(i:Nat)(tm:Tr E):Prop where
 t0:aa tm 0 (aO l)
 t1:aa tm 1 AB
 t7:aa tm 7 (J (I l:Nat))
 t8:aa tm 8 (J i)
section
variable{ev:zC->ag}{l:List aB}{i:Nat}{tm:Tr E}{h:H}
def ani(j:Lq l i tm)(e:i<I l)(b:i+1<=ao)(d:∃y:H->Bool,∀h,ev (aj 61 [aT l[i]] h)=.r (zP (y h)) h U):
 aD (λa m=>m=h/\Lq l (i+1) a) (λa _=>∃k,aa a 4 (J k)) bE
  (aF Z ev 86 aLj tm h):=by
 let⟨t0,t1,t7,t8⟩:=j;have f:=dA b;simp at f;let⟨y,g⟩:=d;cases c:y h
 .simp[aLj,z,f86,t0,t1,t7,t8,e,f,g,c];exact⟨by simp[t0],by simp[t1],by simp[t7],by simp⟩
 .simp[aLj,z,f86,t0,t1,t7,t8,e,g,c]
def apQ(b:Lq l i tm)(c:I l<=i):
 aD ap ap (λj _ _=>j=0) (aF Z ev 86 aLj tm h):=by
 let⟨t0,t1,t7,t8⟩:=b;have a:¬i<I l:=by omega
 simp[aLj,z,f86,t7,t8,a]
end
def MM(l:List aB):bX [aO l,AB]:=.Cs (jM l) (.Cs (.func _ .Nl .Nl) .Nl)
def anj:∃f:List aB->Int,aJ Z prog 86 (λl=>I l<ao) (λl=>[aO l,AB]) (λx=>J (f x)):=by
 let⟨f,g⟩:=apP
 obtain⟨C,k,n⟩:∃C,aR Z prog C/\iA C 61 (λ_:aB=>True) (λs=>[aT s]) zP:=
  ⟨_,Bb aW (λ_=>rfl) g,iA.add⟩
 refine qi J λl d=>CE tok C k (MM l) (λ_=>.Gd rfl) (I l+1) F86 ZK rfl ?_;have d:I l<ao:=d
 have o:aD (λtm h=>tm.g 0=O (aO l)/\aa tm 1 AB) ap bE (aF Z (af Z C (I l+1+1)) 86 (z f86 pF0) (bF [aO l,AB] 0 .Nl) H.e):=by simp[z,f86]
 have p:∀tm h,(aa tm 0 (aO l)/\aa tm 1 AB)->aD (λtm h=>Lq l 0 tm) ap bE (aF Z (af Z C (I l+1+1)) 86 (z f86 [Y,G,G]) tm h):=by rintro tm h ⟨e,r⟩;simp[z,f86,e];exact⟨by simp[e],by simp[r],by simp,by simp⟩
 refine aS (o.Mo bT aP cS) λtm h q=>aS (N':=λ_ _=>True) (aS ((p tm h q).Mo bT aP cS) λtm h b=>?_) λtm h q=>?_
 .refine fU 0 (λj tm h=>∃i,j=I l-i/\i<=I l/\Lq l i tm) (I l) ⟨0,rfl,by omega,b⟩ (by omega) ?_;rintro j tm h m ⟨i,rfl,v,b⟩-;by_cases a:i<I l
  .refine(ani b a (by omega) ?_).Mo (λc t q=>⟨_,by omega,i+1,rfl,a,q.2⟩) (λc t q=>q) jr;let⟨y,u⟩:=n.data (T:=Z) (x:=l[i]) trivial (.Cs (kR _) .Nl);exact⟨y,u m⟩
  .exact(apQ b (by omega)).Mo aP aP (λ_ _ _ q=>⟨q,trivial⟩)
 .simp[z,f86]
def ahj:∃f:List aB->Bool,aJ Z prog 60 (λl=>I l<ao) (λl=>[aO l,AB]) (λx=>zP (f x)):=by
 let⟨f,a⟩:=anj;refine qi zP λl b=>?_
 obtain⟨C,c,d⟩:∃C,aR Z prog C/\iA C 86 (λl:List aB=>I l<ao) (λl=>[aO l,AB]) J:=
  ⟨_,Bb aW (λ_=>rfl) a,iA.add⟩
 let⟨k,e⟩:=d.data (T:=Z) (x:=l) b (MM l);refine CE tok C c (MM l) (λ_=>.Gd rfl) 1 F60 rfl rfl ?_;simp[e];omega
def Lr:yG:=z f40 [Y,Y,G,Y,G,G]
def akB:f40.body=O (zS (z f40 pF0) (zS (z f40 pF1) (zS (zS (z f40 [Y,Y,G,G]) (zv 0 (yb Lr))) (z f40 pT3)))):=rfl
structure Ih(l:List zA)(i:Nat)(tm:Tr E)(h:H):Prop where
 base:h.b=0
 t8:aa tm 8 (al l)
 t9:aa tm 9 (J (I l:Nat))
 t10:aa tm 10 (J i)
section
variable{ev:zC->ag}{l:List zA}{i:Nat}{tm:Tr E}{h:H}
def ank(s:Ih l i tm h)(t:i<I l)(m:i+1<=ao)(g:∃y:H->Bool,∀h,ev (aj 60 [aO l[i].H,AB] h)=.r (zP (y h)) h U)
 (n:∃y:H->Bool,∀h,ev (aj 40 [al l[i].M] h)=.r (zP (y h)) h U):
 aD (λf j=>Ih l (i+1) f j) (λf _=>∃k,aa f 2 (zP k)) bE
  (aF Z ev 40 Lr tm h):=by
 let⟨p,q,r,t10⟩:=s;have u:=dA m;simp at u;let⟨y,v⟩:=g;let⟨e,w⟩:=n;have o:∀f j,j.b=0->aa f 8 (al l)->aa f 9 (J (I l:Nat))->aa f 10 (J ((i:Int)+1))->Ih l (i+1) f j:=λf j a b c d=>⟨a,b,c,d⟩;simp+contextual [Lr,z,ak,sub,f40,q,r,t10,p,t,v,w,an];repeat' (first|split|(refine o _ _ (by simp[p]) (by simp[q]) (by simp[r]) (by simp))|simp+contextual [*])
def apR(b:Ih l i tm h)(c:I l<=i):
 aD ap ap (λj _ _=>j=0) (aF Z ev 40 Lr tm h):=by
 let⟨d,t8,t9,t10⟩:=b;have a:¬i<I l:=by omega
 simp[Lr,z,f40,t9,t10,a]
end
def aub:∃f:List zA->Bool,aJ Z prog 40 (λx=>fA x<ao) (λx=>[al x]) (λx=>zP (f x)):=by
 let⟨N,o⟩:=abx;let⟨f2,p⟩:=ahj;refine NT zP fA λx r⟨f,w⟩=>?_
 obtain⟨C,A,s,d,t⟩:∃C,aR Z prog C/\iA C 39 (λx:CZ=>fA x.2<ao) Fv J/\iA C 60 (λl:List aB=>I l<ao) (λl=>[aO l,AB]) zP/\
  iA C 40 (λy:List zA=>fA y<fA x/\fA y<ao) (λx=>[al x]) zP:=
  ⟨_,Bb (Bb (Bb aW (λ_=>rfl) o) (λ_=>rfl) p) (λ_=>rfl) w,.skip (by decide) (.skip (by decide) .add),.skip (by decide) .add,.add⟩
 have r:fA x<ao:=r;have hlen:=Hc x;refine CE tok C A (.Cs (fb x) .Nl) (λ_=>.Gd rfl) (I x+1) F40 akB rfl ?_;let⟨y,a⟩:=s.data (T:=Z) (x:=(200,x)) r (Sf _);have a:∀n m,af Z C n (aj 39 [J 200,al x] m)=.r (J (y m)) m U:=a
 have B:aD (λtm h=>h.b=0/\aa tm 0 (al x)) ap bE (aF Z (af Z C (I x+1+1)) 40 (z f40 pF0) (bF [al x] 0 .Nl) H.e):=by simp[z,f40]
 have F:∀tm h,(h.b=0/\aa tm 0 (al x))->aD (λtm h=>h.b=0/\aa tm 0 (al x)) (λtm _=>∃k,aa tm 2 (zP k)) bE (aF Z (af Z C (I x+1+1)) 40 (z f40 pF1) tm h):=by
  rintro tm h ⟨u,e⟩;by_cases c:200<y h
  .simp[z,f40,e,a,c]
  .simp[z,f40,e,u,a,c]
 have L:∀tm h,(h.b=0/\aa tm 0 (al x))->aD (λtm h=>Ih x 0 tm h) ap bE (aF Z (af Z C (I x+1+1)) 40 (z f40 [Y,Y,G,G]) tm h):=by rintro tm h ⟨u,e⟩;simp[z,f40,e];exact⟨u,by simp,by simp,by simp⟩
 refine aS (B.Mo bT aP cS) λtm h q=>aS (F tm h q) λtm h q=>
  aS (N':=λ_ _=>True) (aS ((L tm h q).Mo bT aP cS) λtm h g=>?_) λtm h q=>?_
 .refine fU 0 (λj tm h=>∃i,j=I x-i/\i<=I x/\Ih x i tm h) (I x) ⟨0,rfl,by omega,g⟩ (by omega) ?_;rintro j tm h m ⟨i,rfl,P,g⟩-;by_cases b:i<I x
  .have Q:=HB (zW b);have R:=rZ x[i];have S:=Sd x[i];refine(ank g b (by omega) ?_ ?_).Mo (λv M q=>⟨_,by omega,i+1,rfl,b,q⟩) (λv M q=>q) jr
   .let⟨y,a⟩:=d.data (T:=Z) (x:=x[i].H) (by show _<ao;omega) (MM _);exact⟨y,a m⟩
   .let⟨y,a⟩:=t.data (T:=Z) (x:=x[i].M) ⟨by omega,by omega⟩ (.Cs (fb _) .Nl);exact⟨y,a m⟩
  .exact(apR g (by omega)).Mo aP aP (λ_ _ _ q=>⟨q,trivial⟩)
 .simp[z,f40]
def F195:Z.f 195=O f195:=by kernel_rfl
def F234:Z.f 234=O f234:=by kernel_rfl
abbrev BC:E:=zU (.func 234) #[] #[]
def DH(x:aB):Prop:=I x.v<ao
def ase:aJ Z prog 234 DH (λx=>[aT x]) (λx=>zP (!fL x)):=by intro x b;have b:I x.v<ao:=b;obtain⟨C,c,k⟩:∃C,aR Z prog C/\Has C 194 (λx=>I x.v<ao) (λx=>[aT x]) (λx=>zP (fL x)):=⟨_,aZ aW SJ,Has.Ad λx y e=>(by simp at e;rw[qC e])⟩;have a:∀n m,af Z C n (aj 194 [aT x] m)=.r (zP (fL x)) m U:=λn m=>k.ev (T:=Z) n (x:=x) b m;refine jf tok C c (.Cs (kR x) .Nl) 1 F234 rfl rfl ?_;simp[f234,a];exact bG.Pu bJ (by simp)
structure Lt(l:List aB)(i:Nat)(tm:Tr E):Prop where
 t0:aa tm 0 (aO l)
 t1:aa tm 1 BC
 t7:aa tm 7 (J (I l:Nat))
 t8:aa tm 8 (J i)
section
variable{ev:zC->ag}{l:List aB}{i:Nat}{tm:Tr E}{h:H}
def akC(j:Lt l i tm)(d:i<I l)(e:i+1<=ao)(b:∀h,ev (aj 234 [aT l[i]] h)=.r (zP (!fL l[i])) h U):
 aD (λa m=>m=h/\Lt l (i+1) a) (λa _=>∃k,aa a 4 (J k)/\(l=[]->k= -1)) bE
  (aF Z ev 86 aLj tm h):=by
 let⟨t0,t1,t7,t8⟩:=j;have g:=dA e;simp at g;have f:l≠[]:=λq=>by subst q;simp at d
 cases c:fL l[i]
 .simp[aLj,z,f86,t0,t1,t7,t8,d,b,c,f]
 .simp[aLj,z,f86,t0,t1,t7,t8,d,g,b,c];exact⟨by simp[t0],by simp[t1],by simp[t7],by simp⟩
def anl(b:Lt l i tm)(c:I l<=i):
 aD ap ap (λj _ _=>j=0) (aF Z ev 86 aLj tm h):=by
 let⟨t0,t1,t7,t8⟩:=b;have a:¬i<I l:=by omega
 simp[aLj,z,f86,t7,t8,a]
end
def ahk(l:List aB):bX [aO l,BC]:=.Cs (jM l) (.Cs (.func _ .Nl .Nl) .Nl)
def DI(l:List aB):Prop:=I l<ao/\∀x∈l,DH x
def anm:∃f:List aB->Int,aJ Z prog 86 DI (λl=>[aO l,BC]) (λx=>J (f x))/\∀l,DI l->(l=[]->f l= -1):=by
 obtain⟨C,o,k⟩:∃C,aR Z prog C/\Has C 234 DH (λx=>[aT x]) (λx=>zP (!fL x)):=⟨_,aZ aW ase,Has.Ad λx y e=>(by simp at e;rw[qC e])⟩;refine iC J (λ(l:List aB) v=>l=[]->v= -1) λl g=>JV (Q:=λv=>l=[]->v= -1) tok C o (ahk l) (λ_=>.Gd rfl) (I l+1) F86 ZK rfl ?_;let⟨g,b⟩:=g
 have p:aD (λtm h=>tm.g 0=O (aO l)/\aa tm 1 BC) ap bE (aF Z (af Z C (I l+1+1)) 86 (z f86 pF0) (bF [aO l,BC] 0 .Nl) H.e):=by simp[z,f86]
 have r:∀tm h,(aa tm 0 (aO l)/\aa tm 1 BC)->aD (λtm h=>Lt l 0 tm) ap bE (aF Z (af Z C (I l+1+1)) 86 (z f86 [Y,G,G]) tm h):=by rintro tm h ⟨n,s⟩;simp[z,f86,n];exact⟨by simp[n],by simp[s],by simp,by simp⟩
 refine aS (p.Mo bT aP cS) λtm h q=>aS (N':=λ_ _=>True) (aS ((r tm h q).Mo bT aP cS) λtm h c=>?_) λtm h q=>?_
 .refine fU 0 (λj tm h=>∃i,j=I l-i/\i<=I l/\Lt l i tm) (I l) ⟨0,rfl,by omega,c⟩ (by omega) ?_;rintro j tm h m ⟨i,rfl,u,c⟩-;by_cases a:i<I l
  .exact(akC c a (by omega) λh=>k.ev (T:=Z) m (x:=l[i]) (b _ (zW a)) h).Mo (λd t q=>⟨_,by omega,i+1,rfl,a,q.2⟩) (λd t q=>q) jr
  .exact(anl c (by omega)).Mo aP aP (λ_ _ _ q=>⟨q,trivial⟩)
 .simp[z,f86]
def ahl:∃f:List aB->Bool,aJ Z prog 195 DI (λl=>[aO l]) (λx=>zP (f x))/\∀l,DI l->(l=[]->f l=Y):=by
 let⟨f,g,h⟩:=anm;refine iC zP (λ(l:List aB) v=>l=[]->v=Y) λl d=>?_;obtain⟨C,i,k,a⟩:∃C,aR Z prog C/\Has C 86 DI (λl=>[aO l,BC]) (λx=>J (f x))/\C 60=λ_ _=>U:=⟨_,aZ aW g,Has.Ad λx y e=>(by simp at e;rw[qy e]),rfl⟩;have b:∀n m,af Z C n (aj 86 [aO l,BC] m)=.r (J (f l)) m U:=λn m=>k.ev (T:=Z) n (x:=l) d m
 have c:∀n m,af Z C (n+2) (aj 60 [aO l,BC] m)=.r (zP (yF (0<=f l))) m U:=λn m=>by rw[ll _ (by rw[a]),dx (vs:=[zP (yF (0<=f l))]) (h2:=m) (ab:=U) F60 rfl rfl (by simp[f60,b])];rfl
 refine⟨!yF (0<=f l),λe=>by rw[h l d e];decide,?_⟩;refine jf tok C i (.Cs (jM l) .Nl) 2 F195 rfl rfl ?_;simp[f195,c];exact bG.Pu bJ (by simp)
def F196:Z.f 196=O f196:=by kernel_rfl
def F237:Z.f 237=O f237:=by kernel_rfl
def params196:∃f:aB->Int,aJ Z prog 196 DH (λx=>[aT x]) (λx=>J (f x))/\∀x,DH x->(x.v=[]->f x=0):=by
 refine iC J (λ(x:aB) v=>x.v=[]->v=0) λx d=>?_;obtain⟨C,g,k⟩:∃C,aR Z prog C/\Has C 194 (λx=>I x.v<ao) (λx=>[aT x]) (λx=>zP (fL x)):=⟨_,aZ aW SJ,Has.Ad λx y e=>(by simp at e;rw[qC e])⟩;have a:∀n m,af Z C n (aj 194 [aT x] m)=.r (zP (fL x)) m U:=λn m=>k.ev (T:=Z) n (x:=x) d m;have d:I x.v<ao:=d;by_cases i:I x.v=0
 .refine⟨0,λ_=>rfl,jf tok C g (.Cs (kR x) .Nl) 1 F196 rfl rfl ?_⟩;cases c:fL x
  .simp[f196,a,c,an];exact bG.Pu bJ (by simp)
  .simp[f196,a,c,i,an];exact bG.Pu bJ (by simp)
 .have j:x.v≠[]:=λq=>by rw[q]at i;exact i rfl
  cases c:fL x
  .refine⟨0,λ_=>rfl,jf tok C g (.Cs (kR x) .Nl) 1 F196 rfl rfl ?_⟩;simp[f196,a,c,an];exact bG.Pu bJ (by simp)
  .have l:I x.v-1<I x.v:=by omega
   have b:0<I x.v:=by omega
   have w:zx.wrap ((I x.v:Int)-1)=((I x.v-1:Nat):Int):=by have:=dA (n:=I x.v-1) (by omega);rw[<-this];congr 1;omega
   have o:=λ(h:H)=>ajH (h:=h) (k:=zx) l;refine⟨(if 0<aL (x.v[I x.v-1].index+1)then aL (x.v[I x.v-1].index+1)else 0),λe=>absurd e j,jf tok C g (.Cs (kR x) .Nl) 1 F196 rfl rfl ?_⟩
   simp[f196,a,c,b,w,o,an];exact bG.Pu bJ (by simp)
def F197:Z.f 197=O f197:=by kernel_rfl
def F199:Z.f 199=O f199:=by kernel_rfl
def F200:Z.f 200=O f200:=by kernel_rfl
@[simp] theorem aI6:zero Z 264=O (aAg [wB U,J 0]):=by kernel_rfl
def asf:eK Z h 264 (O (aAg [wB U,J 0])) (O [(0,wB (O n))])=.v (aAg [wB (O n),J 0]) h:=by kernel_rfl
def ZL:Am.execOp Z r s h (.makeMap t U)=.of (.v (wB (O h.n)) (h.w (.map #[] 0))):=rfl
@[simp] theorem aFl:aX Z h 264 1 (O (zM (O ⟨n,k,U⟩)))=.v (zM (O ⟨n,k+1,U⟩)) h:=by kernel_rfl
@[simp] theorem aFm:aX Z h 264 0 (O (zM (O ⟨n,k,U⟩)))=.v (zM (O ⟨n,k+0,U⟩)) h:=by kernel_rfl
def PA:zE Z 3 [v,N] 1=O N:=by rw[dK (show Am.zK Z 3=O G by kernel_rfl)];rfl
def asg:zE Z 262 [v,N] 0=O v:=by rw[dK (show Am.zK Z 262=O G by kernel_rfl)];rfl
def SK{w:E}{n:Int}{g:Bool}(a:ae h k (K [N,w] t g)):zG Z h 3 (J n) (zM (O ⟨k,1,U⟩))=O (h.p k (K [N,J n] t g)):=by rw[dY (v:=J n) (n:=1) (off:=1) IG rfl rfl a (by show 2<=2;omega)];rfl
def O5:Array yH:=bq (z f199 pF1)
def Om:Tr Nat:=bj O5.toList 0 .Nl
def ann:(aN (aE Om 12) 4&&aN (aE Om 12) 6)=Y:=by kernel_rfl
def aiC:f199.body=O (zS (z f199 pF0) (zS (yM 1 O5 Y) (z f199 pT2))):=rfl
section
variable{C:aV}
def ash(a:C 197=λ_ _=>U):af Z C (n+2) (aj 197 [] h)=.r (pB (h.n+1)) ((h.w (.map #[] 0)).w (ad [wB (O h.n),J 0] 264)) U:=by
 rw[ll _ (by rw[a]),dx (vs:=[pB (h.n+1)]) (h2:=(h.w (.map #[] 0)).w (ad [wB (O h.n),J 0] 264)) (ab:=U) F197 rfl rfl (by simp[f197,ZL,asf])]
 rfl
def asi(u:C 199=λ_ _=>U){k:Int}(hb:h.b<=h.n)(hB:m<h.n)(w:h.g m=O (K [N,J c] 264 G)):
 ∃v d,af Z C (n+2) (aj 199 [zM (O ⟨m,0,U⟩),aT ⟨e,[]⟩,J k] h)=.r v d U/\(v=aTu []/\d.b=h.b/\d.n=h.n+1/\(∀j,¬j=m->j<h.n->d.g j=h.g j)/\d.g m=O (K [N,J (if c<aL (e+k)then aL (e+k)else c)] 264 G)):=by
 refine Zm (n:=n) (Q:=λv d=>v=aTu []/\d.b=h.b/\d.n=h.n+1/\(∀j,¬j=m->j<h.n->d.g j=h.g j)/\d.g m=O (K [N,J (if c<aL (e+k)then aL (e+k)else c)] 264 G)) u F199 aiC rfl ?_
 have s:=λ(x:H)(q:x.g m=O (K [N,J c] 264 G))(n:Int)=>SK (n:=n) q;have y:¬m=h.n:=by omega
 have i:¬h.n=m:=by omega
 have A:m<h.n+1:=by omega
 refine ax (Q0:=λg f=>f=h.w (K (ah (aT ⟨e,[]⟩)) 63 G)/\g.g 0=O (zM (O ⟨m,0,U⟩))/\g.g 2=O (J k)/\g.g 4=O (zM (O ⟨h.n,0,U⟩))) ?_ λg f⟨a,F,L,l⟩=>?_
 .simp[z,f199];exact .mk ⟨rfl,by simp,by simp,by simp⟩
 subst a;refine ax (Q0:=λo f=>o.g 4=g.g 4/\f.b=h.b/\f.n=h.n+1/\(∀j,¬j=m->f.g j=(h.w (K (ah (aT ⟨e,[]⟩)) 63 G)).g j)/\f.g m=O (K [N,J (if c<aL (e+k)then aL (e+k)else c)] 264 G)) ?_ λM d⟨p,P,R,r,S⟩=>?_
 .rw[eg,dJ];have t:=ann;simp only[zX]at t;let⟨b4,T⟩:=t;have a:bj O5.toList 0 .Nl=Om:=rfl;rw[a];generalize Om=bs at*;simp[O5,bq,z,f199,fT,fZ,F,L,l,w,y,A,PA,s,Rg,ajE,cY,cZ,dc,b4,T];exact .mk ⟨by simp[l],by simp,by simp,λj d=>by simp[d],by simp⟩
 rw[l]at p;have V:=ag2 (h:=d) (b:=h.n) (by omega);have W:d.g h.n=O (K (ah (aT ⟨e,[]⟩)) 63 G):=by rw[r _ i];simp
 simp[z,f199,p,W,V,fJ,an];refine nb.mk (v:=aTu []) rfl ⟨rfl,P,R,λj X q2=>?_,S⟩;rw[r j X,kP,if_neg (by omega)]
end
end Go.Proofs.YtpeialehpoilbaaGreat
namespace Go.Am.Eu
abbrev pu(c:Int):aB:=⟨c,[]⟩
def rb(c:Int):aB×Int:=if 100<c then(pu 0,15)else(pu c,0)
abbrev km(r:aB×Int):E:=aTu [aT r.1,J r.2]
def SM(r:aB×Int):bH (km r):=.Tt (.Cs (kR _) dF)
def TN(g:Nat->Option ai)(c:Int):DV g (aAg [J c,zL U 0 0]) (aT (pu c)):=.agg (.Cs eI (.Cs .cP .Nl))
end Go.Am.Eu
namespace Go.Proofs.YtpeialehpoilbaaGreat
def ahm:oS (pu c)=G:=by unfold oS;simp
def On:eK Z h 63 (O (aAg [J 0,zL U 0 0])) (O [])=.v (aAg [J 0,zL U 0 0]) h:=by kernel_rfl
def asj:eK Z h 63 (O (aAg [J 0,zL U 0 0])) (O [(0,J c)])=.v (aAg [J c,zL U 0 0]) h:=by kernel_rfl
def Uz{x:E}{g:Bool}(a:x=aAg [N,v])(c:da [N,v]=Y)(d:ae h k (K l t g))(f:I l=2):zG Z h 63 x (pB k)=O (h.p k (K [N,v] t g)):=by subst a;have:=dY (T:=Z) (v:=aAg [N,v]) (n:=2) (off:=0) AZ rfl c d (by omega);rw[this,yN (by omega)];rfl
def aiD:aJ Z prog 237 (λ_:Int=>True) (λc=>[aT (pu c)]) (λc=>km (rb c)):=by
 intro c _;obtain⟨C,d,k⟩:∃C,aR Z prog C/\Has C 233 (λx=>I x.v<ao) (λx=>[aT x]) (λx=>zP (oS x)):=⟨_,aZ aW YI,Has.Ad λx y e=>(by simp at e;rw[qC e])⟩
 have a:∀n m,af Z C n (aj 233 [aT (pu c)] m)=.r (zP G) m U:=λn m=>by have:=k.ev (T:=Z) n (x:=pu c) (by unfold ao;simp) m;rw[ahm]at this;exact this
 refine jf tok C d (.Cs (kR _) .Nl) 2 F237 rfl rfl ?_;unfold rb;by_cases b:100<c
 .have s:=λ(f:H)(q:ae f 1 (ad [J 0,zL U 0 0] 63))=>Uz (x:=yu ⟨[J 0,zL U 0 0]⟩) rfl rfl q rfl;simp[f237,fJ,b,an,On,s];refine⟨rfl,rfl,aTu [aAg [J 0,zL U 0 0],J 15],_,_,rfl,by simp[VZ];rfl,.Tt (.Cs (TN _ _) ka)⟩
 .simp[f237,fJ,b,a,an];exact bG.Pu (SM _) (by simp)
structure Wk(C:aV)(c:Int):Prop where
 awf:C 235=λ_ _=>U
 awg:C 236=λ_ _=>U
 awh:C 267=λ_ _=>U
 awi:C 268=λ_ _=>U
 awj:C 290=λ_ _=>U
 awk:C 197=λ_ _=>U
 awl:C 199=λ_ _=>U
 awm:C 200=λ_ _=>U
 U5:kY C 162 Lm (λ_:Unit=>True) (λ_=>[cp [] 0 0 []]) (λ_=>xC ⟨[]⟩)
 U6:kY C 237 Lm (λ_:Unit=>True) (λ_=>[aT (pu c)]) (λ_=>km (rb c))
section
variable{C:aV}
def asl(L:Wk C c){M:Nat}:af Z C (n+2) (aj 236 [wB (O M)] h)=.r (bK 268 [pB h.n]) (h.w (ad [wB (O M)] 262)) U:=by
 rw[ll _ (by rw[L.awg]),dx (vs:=[bK 268 [pB h.n]]) (h2:=h.w (ad [wB (O M)] 262)) (ab:=U) F236 rfl rfl (by simp[f236];rfl)]
 rfl
def asm(L:Wk C c){M:Nat}(N:h.b=0)(P:h.g k=O (K [wB (O M),J c] 264 G))(R:h.g M=O (.map #[] 0))(V:k<h.n)(W:M<h.n):
 ∃v a,af Z C (n+10) (aj 200 [zM (O ⟨k,0,U⟩)] h)=.r v a U/\(v=km (rb c)/\eE h a):=by
 refine Zm (n:=n+8) (Q:=λv a=>v=km (rb c)/\eE h a) L.awm F200 rfl rfl ?_;have X:¬k=h.n:=by omega
 have nM:¬M=h.n:=by omega
 have nS1:¬k=h.n+1:=by omega
 have nM1:¬M=h.n+1:=by omega
 have i:=λh=>asl (n:=n+7) L (M:=M) (h:=h);have U6:∀n m,af Z C n (aj 237 [aAg [J c,zL U 0 0]] m)=.r (km (rb c)) m U:=λn m=>L.U6.ev (T:=Z) n (x:=()) trivial (m:=m) trivial (.Cs (TN _ c) .Nl);refine ax (Q0:=λr d=>d=h.w (K [J 0,zL U 0 0] 63 G)/\r.g 0=O (zM (O ⟨k,0,U⟩))/\r.g 2=O (zM (O ⟨h.n,0,U⟩))) ?_ λr a⟨e,l,g⟩=>?_
 .simp[f200];exact .mk ⟨rfl,by simp,by simp⟩
 subst e;refine ax (Q0:=λb d=>eE h d/\d.n=h.n+2/\d.g h.n=O (K [J 0,zL U 0 0] 63 G)/\d.g (h.n+1)=O (K [J c,zL U 0 0] 63 G)/\b.g 0=O (zM (O ⟨k,0,U⟩))/\b.g 2=O (zM (O ⟨h.n,0,U⟩))/\b.g 4=O (zM (O ⟨h.n+1,0,U⟩))) ?_ λfQ a⟨o,n1,t,u,l,g,w⟩=>?_
 .have s:=λ(y:H)(q:y.g (h.n+1)=O (K [J 0,zL U 0 0] 63 G))=>Uz (x:=yu ⟨[J c,zL U 0 0]⟩) rfl rfl q rfl;simp[f200,fT,fZ,l,N,P,X,PA,asj,s];exact .mk ⟨(((eE.refl N).new _).new _).put (by omega) _,by simp,by simp,by simp,by simp[l],by simp[g],by simp⟩
 refine ax (Q0:=λb d=>eE a d/\b.g 2=O (zM (O ⟨h.n,0,U⟩))/\b.g 4=O (zM (O ⟨h.n+1,0,U⟩))) ?_ λjH h2⟨p,g,w⟩=>?_
 .have f:=o.base;have A:a.g k=O (K [wB (O M),J c] 264 G):=by rw[o.get k V];exact P
  have B:a.g M=O (.map #[] 0):=by rw[o.get M W];exact R
  have cl:CN a.n M (a.w (K [wB (O M)] 262 G)):=⟨by simp[f],by simp,by simp;omega,⟨262,G,by simp⟩,by rw[kP,if_neg (by omega)];exact B⟩;let⟨h3,F,k3⟩:=asc L.awj L.awi L.awh L.awf L.U5 (n:=n+3) cl;have F:af Z C (n+9) (aj 235 [bK 268 [zM (O ⟨a.n,0,U⟩)]] (a.w (K [wB (O M)] 262 G)))=.r (zL U 0 0) h3 U:=F;simp[f200,fT,fZ,l,f,A,asg,i,F,fJ,an];exact .mk ⟨((eE.refl f).new _).trans k3,by simp[g],by simp[w]⟩
 have t:h2.g h.n=O (K [J 0,zL U 0 0] 63 G):=by rw[p.get _ (by omega)];exact t
 have u:h2.g (h.n+1)=O (K [J c,zL U 0 0] 63 G):=by rw[p.get _ (by omega)];exact u
 have j:=p.base;have s:=λ(y:H)(q:y.g h.n=O (K [J 0,zL U 0 0] 63 G))(x:aB)=>Fq (x:=x) q;simp[f200,g,w,t,u,j,VZ,U6,s];exact nb.mk (v:=km (rb c)) (h2:=_) (by simp[g,j];rfl) ⟨rfl,(o.trans p).put (zR _) _⟩
end
end Go.Proofs.YtpeialehpoilbaaGreat
namespace Go.Am.Eu
def A0(ps:List aB):List ga->Int->Int
 |[],c=>c
 |x::r,c=>A0 ps r (if c<aL ((ps.getD x.index.toNat (pu 0)).c+x.plus)then aL ((ps.getD x.index.toNat (pu 0)).c+x.plus)else c)
def dC(a:List aB->Bool)(b:aB->Int)(l:aB)(ps:List aB):aB×Int:=
 if fL l=Y/\a ps=Y then if(I ps:Int)<b l then(pu 0,24)else rb (A0 ps l.v l.c)else(pu 0,3)
def ahn(c:Int):(rb c).1.v=[]:=by unfold rb;split<;>rfl
def YP(a:List aB->Bool)(b:aB->Int)(l:aB)(ps:List aB):(dC a b l ps).1.v=[]:=by
 unfold dC;split
 .split
  .rfl
  .exact ahn _
 .rfl
def apS{b:List aB->Bool}{c:aB->Int}{l:aB}(a:fL l=Y)(e:b []=Y)(f:c l=0)(d:l.v=[]):dC b c l []=(l,0):=by
 have g:¬100<l.c:=by unfold fL at a;simp only[decide_eq_true_eq]at a;have:=a.1.2;omega
 unfold dC;rw[if_pos ⟨a,e⟩,f,if_neg (by simp),d];unfold A0 rb;rw[if_neg g];cases l;cases d;rfl
end Go.Am.Eu
namespace Go.Proofs.YtpeialehpoilbaaGreat
def F172:Z.f 172=O f172:=by kernel_rfl
def my:yG:=z f172 [Y,Y,Y,Y,Y,G,Y,G,G]
def KW:Array yH:=bq (ak [Y,Y,G,G,Y,Y,Y] my)
def Oo:Tr Nat:=bj KW.toList 0 .Nl
def ano:(aN (aE Oo 8) 3&&aN (aE Oo 8) 7)=Y:=by kernel_rfl
def aiE:f172.body=O (zS (z f172 pF0) (zS (zS (z f172 [Y,G,G]) (z f172 [Y,G,Y])) (zS (zS (z f172 [Y,Y,G,G]) (z f172 [Y,Y,G,Y])) (zS (z f172 pF3) (zS (z f172 pF4)
 (zS (zS (z f172 [Y,Y,Y,Y,Y,G,G]) (zv 0 (yb my))) (z f172 pT6))))))):=rfl
def aho:my=zS (ak [G] my) (zS (ak [Y,G] my) (zS (zv 1 (zS (ak [Y,Y,G,G,G] my) (zS (ak [Y,Y,G,G,Y,G] my) (.cond (vG 39) (ak [Y,Y,G,G,Y,Y,G] my) (yM 12 KW Y))))) (ak [Y,Y,Y] my))):=rfl
structure Ls(l:aB)(ps:List aB)(c:Int)(i k:Nat)(tm:Tr E)(h:H):Prop where
 base:h.b=0
 next:4<=h.n
 g1:ae h 1 (ad [J 0,zL U 0 0] 63)
 g2:ae h 2 (.map #[] 0)
 g3:ae h 3 (ad [wB (O 2),J c] 264)
 le:i<=I l.v
 eq:A0 ps l.v l.c=A0 ps (l.v.drop i) c
 t1:aa tm 1 (aO ps)
 t4:aa tm 4 (pB 1)
 t6:aa tm 6 (pB 3)
 t31:aa tm 31 (fq l.v)
 t32:aa tm 32 (J (I l.v:Nat))
 t33:aa tm 33 (J (k:Nat))
section
variable{ev:zC->ag}{l:aB}{ps:List aB}{c:Int}{i:Nat}{tm:Tr E}{h:H}
def anp(A:Ls l ps c i i tm h)(s:i<I l.v)(t:l.v[i].index=n)(b:n<I ps)(d:ps[n].v=[])(C:m<h.n)(F:4<=m)(o:ae h m (ad (ah (cW l.v[i])) 96))(L:aa tm 8 (pB m))
 (f:∀a k,∃v h1,ev (aj 199 [pB 3,aT ⟨a,[]⟩,J k] h.f)=.r v h1 U/\(v=aTu []/\h1.b=h.f.b/\h1.n=h.f.n+1/\(∀j,¬j=3->j<h.f.n->h1.g j=h.f.g j)/\ae h1 3 (ad [wB (O 2),J (if c<aL (a+k)then aL (a+k)else c)] 264))):
 ay (bB λtm h=>∃c,Ls l ps c (i+1) i tm h) ca ap ap (jN Z ev ⟨172,U⟩ KW Y ⟨tm,[],h,U⟩):=by
 let⟨q,hn,g1,g2,g3,hle,r,t1,t4,t6,t31,t32,t33⟩:=A
 obtain⟨a,g⟩:∃a,ps[n]=pu a:=by generalize ps[n]=x at d;cases x;cases d;exact⟨_,rfl⟩
 obtain⟨v,h1,e,rfl,V,M,u,N⟩:=f a l.v[i].plus;rw[dJ];have w:=ano;simp only[zX]at w;let⟨b3,P⟩:=w;have Q:bj KW.toList 0 .Nl=Oo:=rfl;rw[Q];generalize Oo=bs at*;have W:3<h.n:=by omega
 have y:=λ(h:H)=>aan (h:=h) (k:=zx) b;have R:=λ(k:List aG->S->ag)(l:List aG)(tm:Tr E)(df:List Deferred)(ab:Option (List PanicEntry))(T:lJ (aE bs 8) l=Y)=>EQ (bs:=bs) (i:=8) (l:=l) (tm:=tm) (df:=df) (h:=h) (h1:=h1) (ab:=ab) (k:=k) q T;simp only[g]at y;simp[KW,bq,my,z,f172,t1,t6,L,q,o,C,t,y,e,R,al4,ajB,b3,P];refine .mk ⟨_,by simp[q],by simp[M];omega,by simp[u 1 (by omega) (by simp;omega),g1],by simp[u 2 (by omega) (by simp;omega),g2],by simp;exact N,s,?_,by simp[t1],by simp[t4],by simp[t6],by simp[t31],by simp[t32],by simp[t33]⟩;rw[r,yK s];conv=>lhs;unfold A0
 rw[t];simp[b,g]
def akD(o:Ls l ps c i i tm h)(w:i<I l.v)(P:i+1<=ao)(Q:l.v[i].index=n)(x:n<I ps)(y:ps[n].v=[])
 (q:∀r k(h:H),h.b<=h.n->3<h.n->ae h 3 (ad [wB (O 2),J c] 264)->∃v g,ev (aj 199 [pB 3,aT ⟨r,[]⟩,J k] h)=.r v g U/\(v=aTu []/\g.b=h.b/\g.n=h.n+1/\(∀j,¬j=3->j<h.n->g.g j=h.g j)/\ae g 3 (ad [wB (O 2),J (if c<aL (r+k)then aL (r+k)else c)] 264))):
 ay (bB λtm h=>∃c,Ls l ps c (i+1) (i+1) tm h) ca ap ap (aF Z ev 172 my tm h):=by
 have L:=dA P;simp at L;rw[aho];let⟨m,hn,g1,g2,g3,hle,b,t1,t4,t6,t31,t32,t33⟩:=o;refine ax (Q0:=λa e=>a=tm.s 34 (zP Y)/\e=h) ?_ λs g⟨A,B⟩=>?_
 .simp[my,z,f172,t32,t33,w];exact .mk ⟨rfl,rfl⟩
 subst A;subst B;refine ax (Q0:=λa e=>a=tm.s 34 (zP Y)/\e=g) ?_ λs d⟨A,B⟩=>?_
 .simp[my,z,f172,an];exact .mk ⟨rfl,rfl⟩
 subst A;subst B;refine ax (Q0:=λtm h=>∃c,Ls l ps c (i+1) i tm h) ?_ λs X⟨R,o⟩=>?_
 .rw[hU];refine mM (ax (Q0:=λa e=>Ls l ps c i i a e/\e.n=d.n+1/\ae e d.n (ad (ah (cW l.v[i])) 96)/\aa a 8 (pB d.n)) ?_ λa e⟨o,q3,M,C⟩=>?_)
  .have n1:¬d.n=1:=by omega
   have S:¬2=d.n:=by omega
   have T:¬3=d.n:=by omega
   have F:¬1=d.n:=by omega
   simp[my,z,f172,t31,t33,w];exact .mk ⟨⟨by simp[m],by simp;omega,by simp[F,g1],by simp[S,g2],by simp[T,g3],hle,b,by simp[t1],by simp[t4],by simp[t6],by simp[t31],by simp[t32],by simp[t33]⟩,by simp,by simp,by simp⟩
  .have t:¬l.v[i].index<0:=by omega
   refine ax (Q0:=λf d=>d=e/\Ls l ps c i i f d/\f.g 8=a.g 8/\aa f 39 (zP G)) ?_ λf h4⟨V,u,N,W⟩=>?_
   .let⟨m,hn,g1,g2,g3,hle,b,t1,t4,t6,t31,t32,t33⟩:=o;simp[my,z,f172,C,M,m,t];exact .mk ⟨rfl,⟨m,hn,g1,g2,g3,hle,b,by simp[t1],by simp[t4],by simp[t6],by simp[t31],by simp[t32],by simp[t33]⟩,by simp[C],by simp⟩
   subst V;rw[C]at N;rw[oR];simp only[qI,W,Aa];rw[eg];refine(anp u w Q x y (by omega) (by omega) M N λr k=>q r k _ (by simp) (by simp;omega) (by simp;exact u.g3)).Mo fP dN aP aP
 .let⟨m,hn,g1,g2,g3,hle,b,t1,t4,t6,t31,t32,t33⟩:=o;simp[my,z,f172,t33,L];exact .mk ⟨R,m,hn,g1,g2,g3,hle,b,by simp[t1],by simp[t4],by simp[t6],by simp[t31],by simp[t32],by simp⟩
def anq(d:Ls l ps c i i tm h)(f:I l.v<=i):
 ay ca ca (λj s=>j=0/\bB (Ls l ps c i i) s) ap (aF Z ev 172 my tm h):=by
 let⟨e,hn,g1,g2,g3,hle,a,t1,t4,t6,t31,t32,t33⟩:=d;have b:¬i<I l.v:=by omega
 simp[my,z,f172,t32,t33,b,an];exact .mk ⟨e,hn,g1,g2,g3,hle,a,by simp[t1],by simp[t4],by simp[t6],by simp[t31],by simp[t32],by simp[t33]⟩
end
def BS(x:aB×List aB):Prop:=DH x.1/\I x.2<ao/\(∀p∈x.2,p.v=[])/\∀v∈x.1.v,0<=v.index/\v.index<(I x.2:Nat)
def akE{w:List aB->Bool}{A:aB->Int}(hav:aJ Z prog 195 DI (λl=>[aO l]) (λx=>zP (w x)))(qf:aJ Z prog 196 DH (λx=>[aT x]) (λx=>J (A x))):
 aJ Z prog 172 BS (λx=>[aT x.1,aO x.2]) (λx=>km (dC w A x.1 x.2)):=by
 rintro⟨l,ps⟩ ⟨hl,hn,S,IM⟩ M;have hl:I l.v<ao:=hl;have hn:I ps<ao:=hn;have L5:DI ps:=⟨hn,λp hp=>by show I p.v<ao;rw[S p hp];unfold ao;simp⟩
 obtain⟨C,hC,V,W,X,L⟩:∃C,aR Z prog C/\Has C 194 (λx=>I x.v<ao) (λx=>[aT x]) (λx=>zP (fL x))/\Has C 195 DI (λl=>[aO l]) (λx=>zP (w x))/\Has C 196 DH (λx=>[aT x]) (λx=>J (A x))/\Wk C (A0 ps l.v l.c):=
  ⟨_,I8 (eM:=Lm) (I8 (eM:=Lm) (aZ (aZ (aZ aW SJ) hav) qf) apM) (λ_ _=>aiD (A0 ps l.v l.c) trivial),Has.Sk (by decide) (Has.Sk (by decide) (Has.Sk (by decide) (Has.Sk (by decide) (Has.Ad λx y e=>(by simp at e;rw[qC e]))))),Has.Sk (by decide) (Has.Sk (by decide) (Has.Sk (by decide) (Has.Ad λx y e=>(by simp at e;rw[qy e])))),Has.Sk (by decide) (Has.Sk (by decide) (Has.Ad λx y e=>(by simp at e;rw[qC e]))),⟨rfl,rfl,rfl,rfl,rfl,rfl,rfl,rfl,kY.skip (by decide) (kY.add λ_ _ _ _ _ _=>rfl),kY.add λ_ _ _ _ _ _=>rfl⟩⟩
 .have g:∀n m,af Z C n (aj 194 [aT l] m)=.r (zP (fL l)) m U:=λn m=>V.ev (T:=Z) n (x:=l) hl m;have B:∀n m,af Z C n (aj 195 [aO ps] m)=.r (zP (w ps)) m U:=λn m=>W.ev (T:=Z) n (x:=ps) L5 m;have F:∀n m,af Z C n (aj 196 [aT l] m)=.r (J (A l)) m U:=λn m=>X.ev (T:=Z) n (x:=l) hl m;refine jf tok C hC (.Cs (kR l) (.Cs (jM ps) .Nl)) (I l.v+12) F172 aiE rfl ?_ M;show ay (bG Z [yB 4 63,yx 5] _ (.ret (km (dC w A l ps)))) (bG Z [yB 4 63,yx 5] _ (.ret (km (dC w A l ps)))) _ _ _
  have fail:∀tm h(e:Int),tm.g 4=O (zM (O ⟨1,0,U⟩))->tm.g 5=O (J e)->h.b=0->h.g 1=O (K [J 0,zL U 0 0] 63 G)->bG Z [yB 4 63,yx 5] (λh=>h.g) (.ret (km (pu 0,e))) ⟨tm,[],h,U⟩:=λtm h e a t5 P g1=>
   ⟨rfl,rfl,aTu [aAg [J 0,zL U 0 0],J e],_,_,rfl,by simp[a,t5,g1,P,VZ];rfl,.Tt (.Cs (TN _ _) (.Cs (.Pu (.Gd rfl)) .Nl))⟩
  generalize o:dC w A l ps=S0;unfold dC at o;have s:=λ(M:H)(q:M.g 1=O (K [J 0,zL U 0 0] 63 G))=>Uz (x:=yu ⟨[J 0,zL U 0 0]⟩) rfl rfl q rfl;refine ax (Q0:=λtm h=>h=(H.e.w (K (ah (aT l)) 63 G)).w (K [J 0,zL U 0 0] 63 G)/\tm.g 1=O (aO ps)/\tm.g 2=O (zM (O ⟨0,0,U⟩))/\tm.g 4=O (zM (O ⟨1,0,U⟩))) ?_ λtm h⟨e,d,f,a⟩=>?_
  .simp[z,f172];exact .mk ⟨rfl,by simp,by simp,by simp⟩
  subst e;refine ax (Q0:=λtm h=>(fL l=Y/\w ps=Y)/\h=(H.e.w (K (ah (aT l)) 63 G)).w (K [J 0,zL U 0 0] 63 G)/\tm.g 1=O (aO ps)/\tm.g 2=O (zM (O ⟨0,0,U⟩))/\tm.g 4=O (zM (O ⟨1,0,U⟩))) ?_ λfQ h1⟨VA,e,d,f,a⟩=>?_
  .cases hv:fL l
   .rw[if_neg (by rw[hv];simp)]at o;subst o;simp[z,f172,d,f,a,g,hv,an,On,s];exact fail _ _ _ (by simp[a]) (by simp) (by simp) (by simp)
   .cases ha:w ps
    .rw[if_neg (by rw[ha];simp)]at o;subst o;simp[z,f172,d,f,a,g,B,hv,ha,an,On,s];exact fail _ _ _ (by simp[a]) (by simp) (by simp) (by simp)
    .simp[z,f172,d,f,g,B,hv,ha,an];exact .mk ⟨rfl,by simp[d],by simp[f],by simp[a]⟩
  subst e;rw[if_pos VA]at o;refine ax (Q0:=λtm h=>¬(I ps:Int)<A l/\h=(H.e.w (K (ah (aT l)) 63 G)).w (K [J 0,zL U 0 0] 63 G)/\tm.g 1=O (aO ps)/\tm.g 2=O (zM (O ⟨0,0,U⟩))/\tm.g 4=O (zM (O ⟨1,0,U⟩))) ?_ λjH h2⟨b,e,d,f,a⟩=>?_
  .by_cases b:(I ps:Int)<A l
   .rw[if_pos b]at o;subst o;simp[z,f172,d,f,a,F,b,an,On,s];exact fail _ _ _ (by simp[a]) (by simp) (by simp) (by simp)
   .simp[z,f172,d,f,F,b,an];exact .mk ⟨rfl,by simp[d],by simp[f],by simp[a]⟩
  subst e;rw[if_neg b]at o;have r:=λ(n:Nat)(h:H)=>ash (n:=n) L.awk (h:=h);refine ax (Q0:=λtm h=>h=((((H.e.w (K (ah (aT l)) 63 G)).w (K [J 0,zL U 0 0] 63 G)).w (.map #[] 0)).w (K [wB (O 2),J 0] 264 G))/\tm.g 1=O (aO ps)/\tm.g 2=O (zM (O ⟨0,0,U⟩))/\tm.g 4=O (zM (O ⟨1,0,U⟩))/\tm.g 6=O (zM (O ⟨3,0,U⟩))) ?_ λru h3⟨e,d,f,a,Q⟩=>?_
  .have r:=λh=>r (I l.v+11) h;simp[z,f172,r];exact .mk ⟨rfl,by simp[d],by simp[f],by simp[a],by simp⟩
  subst e;refine ax (Q0:=λtm h=>h.b=0/\h.n=4/\h.g 0=O (K (ah (aT l)) 63 G)/\h.g 1=O (K [J 0,zL U 0 0] 63 G)/\h.g 2=O (.map #[] 0)/\h.g 3=O (K [wB (O 2),J l.c] 264 G)/\tm.g 1=O (aO ps)/\tm.g 2=O (zM (O ⟨0,0,U⟩))/\tm.g 4=O (zM (O ⟨1,0,U⟩))/\tm.g 6=O (zM (O ⟨3,0,U⟩))) ?_ λCb h4⟨P,hnx,g0,g1,g2,g3,d,f,a,Q⟩=>?_
  .have s3:=λ(M:H)(q:M.g 3=O (K [wB (O 2),J 0] 264 G))=>SK (n:=l.c) q;simp[z,f172,fT,fZ,f,Q,s3];exact .mk ⟨by simp,by simp,by simp,by simp,by simp,by simp,by simp[d],by simp[f],by simp[a],by simp[Q]⟩
  refine ax (Q0:=λtm h=>∃c,Ls l ps c (I l.v) (I l.v) tm h) ?_ λIK h5⟨c,R⟩=>?_
  .refine ax (Q0:=Ls l ps l.c 0 0) ?_ λIL h6 R=>?_
   .simp[z,f172,f,P,g0];exact .mk ⟨P,by omega,g1,g2,g3,Nat.zero_le _,by simp,by simp[d],by simp[a],by simp[Q],by simp,by simp,by simp⟩
   refine pE 10 (λj s'=>∃i c,j=I l.v-i/\bB (Ls l ps c i i) s') (I l.v) ⟨0,_,by simp,.mk R⟩ (by omega) ?_;rintro j s' m ⟨i,c,rfl,hs⟩ hm;obtain⟨Ce,h7,rfl,R⟩:=hs.elim;by_cases b:i<I l.v
   .let⟨q1,q2⟩:=IM _ (zW b);obtain⟨p,hp⟩:∃p:Nat,l.v[i].index=p:=⟨_,(wk q1).symm⟩;have pn:p<I ps:=by have:l.v[i].index<(I ps:Nat):=q2;omega
    obtain⟨m,rfl⟩:∃m',m=m'+2:=⟨m-2,by omega⟩;refine(akD R b (by unfold ao at*;omega) hp pn (S _ (zW pn)) λpc k h b1 b2 b3=>asi L.awl b1 b2 b3).Mo (λCc q=>?_) (λ_ q=>q.elim) (λ_ _ q=>q.elim) (λ_ _ q=>q.elim);obtain⟨DG,h8,rfl,c',t⟩:=q.elim;exact⟨_,by omega,i+1,c',rfl,.mk t⟩
   .refine(anq R (by omega)).Mo (λ_ q=>q.elim) (λ_ q=>q.elim) (λj Cc q=>⟨q.1,?_⟩) (λ_ _ q=>q.elim);obtain⟨DG,h8,rfl,t⟩:=q.2.elim;have:=t.le;have e:i=I l.v:=by omega
    rw[e]at t;exact .mk ⟨c,t⟩
  let⟨P,hn4,g1,g2,g3,hle,N,d,a,Q,t31,t32,t33⟩:=R;have N:A0 ps l.v l.c=c:=by rw[N];simp[A0]
  rw[N]at o L;obtain⟨v,h6,u,rfl,k6⟩:=asm L (n:=I l.v+3) P g3 g2 (by omega) (by omega);have u:af Z C (I l.v+12+1) (aj 200 [zM (O ⟨3,0,U⟩)] h5)=.r (km (rb c)) h6 U:=u;have hb6:=k6.base;have g16:h6.g 1=O (K [J 0,zL U 0 0] 63 G):=by rw[k6.get 1 (by omega)];exact g1
  have s:=λ(M:H)(q:M.g 1=O (K [J 0,zL U 0 0] 63 G))(x:aB)=>Fq (x:=x) q;subst o;simp[z,f172,a,Q,u,g16,s];exact bG.Pu (SM _) ⟨_,by simp[a,hb6];rfl⟩
abbrev TO(t:zA)(b:Nat):E:=aAg [J t.w,J t.Q,zN t.F,zL (pO b) (I t.H) (I t.H),al []]
def anr{d:List Raw}{ls:List aB}(f:I d=I ls)(p:∀j(s:j<I d)(f:j<I ls),RL h d[j] ls[j]/\Hw d[j] (zL (pO k) n n)):DL (AP h k) (zF BN d) (zF aT ls):=by
 induction d generalizing ls with
 |nil=>cases ls with
  |nil=>exact .Nl
  |cons _ _=>simp at f
 |cons r d i=>cases ls with
  |nil=>simp at f
  |cons x ls=>
   let⟨⟨g,l⟩,q3⟩:=p 0 (by simp) (by simp);simp only[List.getElem_cons_zero]at g l q3
   have i:=i (ls:=ls) (by simpa using f) λj s m=>by have:=p (j+1) (by simpa using s) (by simpa using m);simpa using this
   let⟨c,q⟩:=r;have g:c=x.c:=g;subst g;show DL (AP h k) (J x.c::adN q::zF BN d) (J x.c::fq x.v::zF aT ls);refine .Cs eI (.Cs ?_ i);cases q with
   |none=>rw[show x.v=[] from l];exact .cP
   |some u=>
    let⟨t,A⟩:=u;obtain⟨rfl,B,v⟩:=l
    have o:¬t=k:=λe=>by subst e;exact(q3 t _ rfl).2 _ _ _ rfl rfl
    refine .slice (pre:=[]) (post:=[]) (es:=x.v.map cW) (sz:=2) (e:=96) (gr:=Y) ?_ rfl (λy w=>by obtain⟨a,_,rfl⟩:=xp.1 w;rfl) (by simp) (zR _) (DL.pure (map_pure Rx x.v))
    unfold AP;rw[if_neg o,v,qB];simp
def akF:VX Z prog 145 63 Y (λt=>mD t/\t.H≠[]) (λt=>[D t]) (λt=>zF aT t.H) (λb t=>TO t b):=by
 rintro t ⟨R,S⟩ M
 have V:aD (λd h=>False) (λd h=>∃b f,h.b=0/\d.g 2=O (zM (O ⟨1,0,U⟩))/\h.g 1=O (K [J t.w,J t.Q,zN t.F,zL (O ⟨b,0,U⟩) (I t.H) (I t.H),zL U 0 0] 31 G)/\h.g b=O (K (zF BN f) 63 Y)/\I f=I t.H/\
  ∀j(l:j<I f)(o:j<I t.H),RL h f[j] t.H[j]/\Hw f[j] (zL (O ⟨b,0,U⟩) (I t.H) (I t.H))) (λ_ _ _=>False)
  (aw Z (af Z cg (I t.H+3+1)) ⟨145,U⟩ (zS (z f145 pF0) (zS (z f145 pF1) (zS (zS (z f145 [Y,Y,G,G]) (zv 0 (yb mw))) (z f145 pT3)))) ⟨bF [D t] 0 .Nl,[],H.e,U⟩):=by
  refine aS (N':=λd h=>h=(H.e.w (K (ah (D t)) 31 G)).w (K z5 31 G)/\d.g 1=O (zM (O ⟨0,0,U⟩))/\d.g 2=O (zM (O ⟨1,0,U⟩))) ?_ λd h⟨e,y,r⟩=>?_
  .simp[z,f145]
  subst e;refine aS (N':=λd h=>h.b=0/\h.n=3/\h.g 0=O (K (ah (D t)) 31 G)/\h.g 1=O (K z5 31 G)/\h.g 2=O (K [J t.w,J t.Q,zN t.F,zL U 0 0,zL U 0 0] 31 G)/\d.g 1=O (zM (O ⟨0,0,U⟩))/\d.g 2=O (zM (O ⟨1,0,U⟩))/\d.g 3=O (zM (O ⟨2,0,U⟩))) ?_ λd h⟨w,hn,W,A,N,y,r,X⟩=>?_
  .have s:=λ(M:H)(q:M.g 2=O (K z5 31 G))=>fp (c:=[J t.w,J t.Q,zN t.F,zL U 0 0,zL U 0 0]) rfl rfl q rfl;simp[z,f145,y,r,ace,s]
  refine aS (N':=λd h=>oE t (I t.H) (I t.H) d h) (aS (N':=λd h=>oE t 0 0 d h) ?_ λd h x=>?_) λd h x=>?_
  .simp[z,f145,y,w,W];exact⟨w,by omega,W,A,by omega,⟨_,[],N,eu.nil _,(λ_ _ _ q=>by cases q),(λ_ _ _ q=>by cases q),(λ_ _ _ q=>by cases q),rfl,λj l=>by simp at l⟩,by simp[y],by simp[r],by simp[X],by simp,by simp,by simp⟩
  .refine fU 3 (λj d h=>∃i,j=I t.H-i/\i<=I t.H/\oE t i i d h) (I t.H) ⟨0,by omega,by omega,x⟩ (by omega) ?_;rintro j d h m ⟨i,rfl,hi,x⟩ P;by_cases B:i<I t.H
   .exact(ZD x B R).Mo (λV8 h' q=>⟨_,by omega,i+1,rfl,B,q⟩) (λ_ _ q=>q.elim) (λ_ _ _ q=>q.elim)
   .refine(aax x (by omega)).Mo (λ_ _ q=>q.elim) (λ_ _ q=>q.elim) (λ_ _ _ q=>⟨q.1,?_⟩);have:i=I t.H:=by omega
    rw[this]at q;exact q.2
  .let⟨w,h3,W,A,_,⟨v,f,N,hs,v0,v1,v2,o,u⟩,y,r,X,t14,t15,t16⟩:=x;rcases hs with⟨rfl,rfl⟩|⟨b,B8,rfl,h3'⟩
   .exact absurd (List.length_eq_zero_iff.1 (by simpa using o.symm)) S
   have u:∀j(l:j<I f)(k:j<I t.H),RL h f[j] t.H[j]/\Hw f[j] (zL (O ⟨b,0,U⟩) (I t.H) (I t.H)):=λj l k=>by have:=u j l k;rw[<-o];exact this
   rw[o]at N v0 v1 v2;have s:=λ(M:H)(q:M.g 1=O (K z5 31 G))=>fp (c:=[J t.w,J t.Q,zN t.F,zL (O ⟨b,0,U⟩) (I t.H) (I t.H),zL U 0 0]) rfl rfl q rfl;have p:=fh (c:=[J t.w,J t.Q,zN t.F,zL (O ⟨b,0,U⟩) (I t.H) (I t.H),zL U 0 0]) rfl;have nb1:¬b=1:=λe=>v1 b _ _ rfl e.symm;simp[z,f145,r,X,w,N,s,A,p];refine⟨f,by simp[nb1,h3'],o,λj l k=>?_⟩;let⟨⟨q1,Q⟩,q3⟩:=u j l k;refine⟨⟨q1,?_⟩,q3⟩;cases F:(f[j]).2 with
   |none=>rw[F]at Q;exact Q
   |some bn=>
    let⟨b',n⟩:=bn;rw[F]at Q;let⟨q4,q5,q6⟩:=Q;have:¬b'=1:=by have:=(q3 b' n F).1;omega
    exact⟨q4,by simpa using q5,by simp[this,q6]⟩
 rcases V.cases with⟨_,_,_,q⟩|⟨d,h1,e,b,f,w,r,A,gb,o,F⟩|⟨_,_,_,_,q⟩
 .cases q
 .have p:=fh (c:=[J t.w,J t.Q,zN t.F,zL (O ⟨b,0,U⟩) (I t.H) (I t.H),zL U 0 0]) rfl
  have L:=dx (T:=Z) (C:=cg) (args:=[D t]) (h:=H.e) (n:=I t.H+3) (vs:=[aAg [J t.w,J t.Q,zN t.F,zL (O ⟨b,0,U⟩) (I t.H) (I t.H),zL U 0 0]]) (h2:=h1) (ab:=U) F145 YK rfl (by rw[e];simp[r,w,A,p])
  refine Nj tok (pI tok aW _) (.Cs (bg t) .Nl) L gb (anr o F) (.adH (.dv (.Pu (.Gd rfl))) (.dv (.Pu (.Gd rfl))) (.dv (.Pu (.Gd rfl))) (.slice 0 _ _) (.dv .cP)) λm a g=>?_;cases g with
  |agg g=>cases g with
   |Cs _ g=>cases g with
    |Cs _ g=>cases g with
     |Cs _ g=>cases g with
      |Cs g _=>
       rcases g.lk with⟨pl,_,P,_⟩|⟨_,_,pl,_,P,_⟩
       .rw[P];simp
       .rw[P];simp
 .cases q
end Go.Proofs.YtpeialehpoilbaaGreat
namespace Go.Am.Eu
def kC(f:aB->aB×Int):List aB->Except Int (List aB)
 |[]=>.ok []
 |l::r=>if(f l).2=0 then(match kC f r with|.ok a=>.ok ((f l).1::a)|.error e=>yZ e)else yZ (f l).2
def ig(f:aB->aB×Int)(t:zA)(_:Int):VO:=match kC f t.H with
 |.ok a=>.go (.mk t.w t.Q t.F a [])
 |.error e=>.stop e
def As(f:aB->aB×Int)(a b:List aB):Except Int (List aB):=match kC f (b.drop (I a))with|.ok r=>.ok (a++r)|.error e=>yZ e
def aiF(f:aB->aB×Int)(a:List aB):As f [] a=kC f a:=by unfold As;simp;cases kC f a<;>rfl
def akG{f:aB->aB×Int}{a b:List aB}(c:I a<I b)(h:(f b[I a]).2=0):As f a b=As f (a++[(f b[I a]).1]) b:=by
 unfold As;rw[yK c,kC,if_pos h];simp only[yD,wJ];cases kC f (b.drop (I a+1))with
 |ok r=>simp
 |error e=>rfl
def aiG{f:aB->aB×Int}{a b:List aB}(c:I a<I b)(h:¬(f b[I a]).2=0):As f a b=yZ (f b[I a]).2:=by unfold As;rw[yK c,kC,if_neg h]
def aiH{f:aB->aB×Int}{a b:List aB}(h:I b<=I a):As f a b=.ok a:=by unfold As;rw[yN h,kC];simp
end Go.Am.Eu
namespace Go.Proofs.YtpeialehpoilbaaGreat
def F193:Z.f 193=O f193:=by kernel_rfl
def F171:Z.f 171=O f171:=by kernel_rfl
def akH{b :Nat}{k:yq}(a:i<n):dI Z h (O (zf 63)) (O (zL (pO b) n m)) (O (.int k (i:Int)))=.v (zM (O ⟨b,i*2,U⟩)) h:=by show Jd h ⟨b,0,U⟩ i n (Am.zI Z 63)=_;rw[AZ];show cond (ze (Nat.succ i) n) (aK.v (zM (O ((⟨b,0,U⟩:Addr).add (i*2)))) h) .f=_;rw[zb a,kT,xF];rfl
def ahp{l:List aB}{x:aB}{g:Bool}(a:ae h k (K (zF aT l) t g))(c:i<I l):
 zG Z h 63 (aT x) (zM (O ⟨k,i*2,U⟩))=O (h.p k (K (zF aT (l.set i x)) t g)):=by
 have:=dY (T:=Z) (v:=aT x) (n:=2) (off:=i*2) AZ (O1.len x) (O1.one x) a (by rw[O1.ia];omega);rw[this,O1.aai c]
abbrev lz(a:List aB):E:=bK 171 [ar (aO a) 0]
def M6(a:List aB):bH (lz a):=Ek (.Cs (je (jM a)) .Nl)
section
variable{av:List aB->Bool}{pr:aB->Int}
def asn(c:aJ Z prog 172 BS (λx=>[aT x.1,aO x.2]) (λx=>km (dC av pr x.1 x.2))):aJ Z prog 171 BS (λx=>[aT x.1,ar (aO x.2) 0]) (λx=>km (dC av pr x.1 x.2)):=by
 rintro⟨l,b⟩ f
 obtain⟨C,g,k⟩:∃C,aR Z prog C/\Has C 172 BS (λx=>[aT x.1,aO x.2]) (λx=>km (dC av pr x.1 x.2)):=
  ⟨_,aZ aW c,Has.Ad λx y e=>(by let⟨i,j⟩:=x;let⟨o,p⟩:=y;simp at e;rw[qC e.1,qy e.2])⟩
 have a:∀n m,af Z C n (aj 172 [aT l,aO b] m)=.r (km (dC av pr l b)) m U:=λn m=>k.ev (T:=Z) n (x:=(l,b)) f m;refine jf tok C g (.Cs (kR l) (.Cs (je (jM b)) .Nl)) 1 F171 rfl rfl ?_;have d:∀v:E,zE Z 28 [v] 0=O v:=λv=>by rw[dK (show Am.zK Z 28=O G by kernel_rfl)];rfl
 have s:=λ(h:H)(q:ae h 1 (ad [J 0,zL U 0 0] 63))(x:aB)=>Fq (x:=x) q;simp[f171,a,d,s];exact bG.Pu (SM _) (by simp)
end
def kE:yG:=z f193 [Y,Y,G,Y,G,G]
def aiI:f193.body=O (zS (z f193 pF0) (zS (z f193 pF1) (zS (zS (z f193 [Y,Y,G,G]) (zv 0 (yb kE))) (z f193 pT3)))):=rfl
def ahq:kE=zS (ak [G] kE) (zS (ak [Y,G] kE) (zS (zv 1 (zS (ak [Y,Y,G,G,G] kE) (zS (ak [Y,Y,G,G,Y,G] kE) (zS (zS (ak [Y,Y,G,G,Y,Y,G,G] kE) (ak [Y,Y,G,G,Y,Y,G,Y] kE)) (ak [Y,Y,G,G,Y,Y,Y] kE))))) (ak [Y,Y,Y] kE))):=rfl
def Wl(ps:List aB)(t:zA):Prop:=mD t/\∀l∈t.H,BS (l,ps)
structure Lw(t:zA)(ps ds:List aB)(k:Nat)(tm:Tr E)(h:H):Prop where
 base:h.b=0
 next:4<=h.n
 g0:ae h 0 (ad (ah (D t)) 31)
 g1:ae h 1 (ad z5 31)
 g2:ae h 2 (K (zF aT (ds++t.H.drop (I ds))) 63 Y)
 g3:ae h 3 (ad [J t.w,J t.Q,zN t.F,zL (pO 2) (I t.H) (I t.H),al []] 31)
 le:I ds<=I t.H
 t2:aa tm 2 (ar (lz ps) 0)
 t3:aa tm 3 (pB 0)
 t5:aa tm 5 (pB 1)
 t7:aa tm 7 (pB 3)
 t15:aa tm 15 (aO t.H)
 t16:aa tm 16 (J (I t.H:Nat))
 t17:aa tm 17 (J (k:Nat))
def awn:zE Z 245 l n=l[n]?:=dK (show Am.zK Z 245=O G by kernel_rfl) l n
def auc{c d e:E}:zE Z 28 [v,N,c,d,e] 3=O d:=by rw[dK (show Am.zK Z 28=O G by kernel_rfl)];rfl
section
variable{ev:zC->ag}{t:zA}{ps ds:List aB}{tm:Tr E}{h:H}
def akI{f:aB->aB×Int}(st:Lw t ps ds (I ds) tm h)(W:I ds<I t.H)(hw:I ds+1<=ao)(A:∀m,ev (.call (lz ps) [aT t.H[I ds]] m U)=.r (km (f t.H[I ds])) m U)(M:∀m k,ev (aj 166 [J k] m)=.p [⟨cL k,G,G⟩] m U):
 ay (bB λtm h=>(f t.H[I ds]).2=0/\Lw t ps (ds++[(f t.H[I ds]).1]) (I (ds++[(f t.H[I ds]).1])) tm h) ca ap (λch s=>¬(f t.H[I ds]).2=0/\s.df=[]/\s.ab=U/\ch=[⟨cL (f t.H[I ds]).2,G,G⟩]) (aF Z ev 193 kE tm h):=by
 have e2:=dA hw;simp at e2;rw[ahq];let⟨hb,hn,N,P,Q,L,hle,p,v,w,u,g,j,d⟩:=st;generalize hr:f t.H[I ds]=r at A⊢;let⟨x,er⟩:=r;refine ax (Q0:=λa n=>a=tm.s 18 (zP Y)/\n=h) ?_ λR h1⟨q1,q2⟩=>?_
 .simp[kE,z,f193,j,d,W];exact .mk ⟨rfl,rfl⟩
 subst q1;subst q2;refine ax (Q0:=λa n=>a=tm.s 18 (zP Y)/\n=h1) ?_ λR l⟨q1,q2⟩=>?_
 .simp[kE,z,f193,an];exact .mk ⟨rfl,rfl⟩
 subst q1;subst q2;refine ax (Q0:=λtm h=>er=0/\Lw t ps (ds++[x]) (I ds) tm h) ?_ λR h3⟨S,st⟩=>?_
 .rw[hU];refine mM ?_;have n0:¬0=l.n:=by omega
  have n1:¬1=l.n:=by omega
  have n1':¬l.n=1:=by omega
  have n2:¬2=l.n:=by omega
  have n3:¬3=l.n:=by omega
  have m0:¬0=l.n+1:=by omega
  have m1:¬l.n=0:=by omega
  have m2:¬2=l.n+1:=by omega
  have m2':¬1=l.n:=by omega
  have m3:¬3=l.n+1:=by omega
  refine ax (Q0:=λa n=>(eE l n/\n.n=l.n+1/\ae n l.n (ad (ah (aT t.H[I ds])) 63))/\aa a 2 (ar (lz ps) 0)/\aa a 3 (pB 0)/\aa a 5 (pB 1)/\aa a 7 (pB 3)/\aa a 15 (aO t.H)/\aa a 16 (J (I t.H:Nat))/\aa a 17 (J (I ds:Nat))/\
   aa a 8 (J (I ds:Nat))/\aa a 9 (pB l.n)) ?_ λa h4⟨⟨B,X,gL⟩,p,v,w,u,g,j,d,T,t9⟩=>?_
  .have s:=λ(C:H)(b:Nat)(q:ae C b (ad [J 0,zL U 0 0] 63))(x:aB)=>Fq (x:=x) q;simp[kE,z,f193,g,d,W,s];exact .mk ⟨⟨((eE.refl hb).new _).put (zR _) _,by simp,by simp⟩,by simp[p],by simp[v],by simp[w],by simp[u],by simp[g],by simp[j],by simp[d],by simp,by simp⟩
  refine ax (Q0:=λa n=>(eE l n/\n.n=l.n+2/\ae n (l.n+1) (ad (ah (aT x)) 63))/\aa a 2 (ar (lz ps) 0)/\aa a 3 (pB 0)/\aa a 5 (pB 1)/\aa a 7 (pB 3)/\aa a 15 (aO t.H)/\aa a 16 (J (I t.H:Nat))/\aa a 17 (J (I ds:Nat))/\
   aa a 8 (J (I ds:Nat))/\aa a 10 (pB (l.n+1))/\aa a 11 (J er)) ?_ λa n⟨⟨B,X,gX⟩,p,v,w,u,g,j,d,T,F,V⟩=>?_
  .have s:=λ(C:H)(b:Nat)(q:ae C b (ad [J 0,zL U 0 0] 63))(x:aB)=>Fq (x:=x) q;have y:=B.base;have s:=λ(C:H)(q:ae C h4.n (ad [J 0,zL U 0 0] 63))=>Fq (x:=x) q;simp[kE,z,f193,p,t9,y,gL,awn,A,s];exact .mk ⟨⟨(B.new _).put (by omega) _,by simp[X],by simp[X]⟩,by simp[p],by simp[v],by simp[w],by simp[u],by simp[g],by simp[j],by simp[d],by simp[T],by simp[X],by simp⟩
  by_cases S:er=0
  .refine ax (Q0:=λc o=>o=n/\aa c 2 (ar (lz ps) 0)/\aa c 3 (pB 0)/\aa c 5 (pB 1)/\aa c 7 (pB 3)/\aa c 15 (aO t.H)/\aa c 16 (J (I t.H:Nat))/\aa c 17 (J (I ds:Nat))/\
    aa c 8 (J (I ds:Nat))/\aa c 10 (pB (l.n+1))) ?_ λc o⟨e,p,v,w,u,g,j,d,T,F⟩=>?_
   .subst S;simp[kE,z,f193,V,an];exact .mk ⟨rfl,by simp[p],by simp[v],by simp[w],by simp[u],by simp[g],by simp[j],by simp[d],by simp[T],by simp[F]⟩
   subst e;have ix:=λ(h:H)=>akH (h:=h) (b:=2) (m:=I t.H) (k:=zx) W;have sr:=λ(C:H)(q:ae C 2 (K (zF aT (ds++t.H.drop (I ds))) 63 Y))=>ahp (x:=x) (i:=I ds) q (by simp;omega);have y:=B.base;have N:o.g 0=O (ad (ah (D t)) 31):=by rw[B.get 0 (by omega)];exact N
   have P:o.g 1=O (ad z5 31):=by rw[B.get 1 (by omega)];exact P
   have Q:o.g 2=O (K (zF aT (ds++t.H.drop (I ds))) 63 Y):=by rw[B.get 2 (by omega)];exact Q
   have L:o.g 3=O (ad [J t.w,J t.Q,zN t.F,zL (pO 2) (I t.H) (I t.H),al []] 31):=by rw[B.get 3 (by omega)];exact L
   simp[kE,z,f193,u,T,F,y,L,gX,Q,auc,ix,sr];refine .mk ⟨S,by simp[y],by simp;omega,by simp[N],by simp[P],?_,by simp[L],by simp;omega,by simp[p],by simp[v],by simp[w],by simp[u],by simp[g],by simp[j],by simp[d]⟩;simp;rw[yK W];rfl
  .refine ax (Q0:=λ_ _=>False) ?_ λ_ _ q=>q.elim;simp[kE,z,f193,V,S,an,M]
 .let⟨hb,hn,N,P,Q,L,hle,p,v,w,u,g,j,d⟩:=st;simp[kE,z,f193,d,e2];exact .mk ⟨S,hb,hn,N,P,by simpa using Q,L,hle,by simp[p],by simp[v],by simp[w],by simp[u],by simp[g],by simp[j],by simp⟩
def ant(b:Lw t ps ds (I ds) tm h)(d:I t.H<=I ds):
 ay ca ca (λj s=>j=0/\bB (Lw t ps ds (I ds)) s) ap (aF Z ev 193 kE tm h):=by
 let⟨c,hn,g0,g1,g2,g3,hle,t2,t3,t5,t7,t15,t16,t17⟩:=b;have a:¬I ds<I t.H:=by omega
 simp[kE,z,f193,t16,t17,a,an];exact .mk ⟨c,hn,g0,g1,g2,g3,hle,by simp[t2],by simp[t3],by simp[t5],by simp[t7],by simp[t15],by simp[t16],by simp[t17]⟩
end
def anu{c:List aB}(d:n=I c)(f:ae h k (K (zF aT c) 63 Y)):DV h.g (zL (pO k) n n) (aO c):=by
 subst d
 exact .slice (pre:=[]) (post:=[]) (es:=c.map aT) (sz:=2) (e:=63) (gr:=Y) (by rw[f,qB];simp) rfl (λy g=>by obtain⟨a,_,rfl⟩:=xp.1 g;rfl) (by simp) (zR _) (DL.pure (map_pure kR c))
section
variable{av:List aB->Bool}{pr:aB->Int}
def acm(hls:aJ Z prog 172 BS (λx=>[aT x.1,aO x.2]) (λx=>km (dC av pr x.1 x.2)))(a:List aB):KQ 193 [ar (lz a) 0] (Wl a) (ig λl=>dC av pr l a):=by
 refine⟨.Cs (je (M6 a)) .Nl,by decide,by decide,λ⟨t,d⟩ i B=>?_⟩;have i:Wl a t:=i;have r:bX ([D t,J d]++[ar (lz a) 0]):=.Cs (bg t) (.Cs (.Gd rfl) (.Cs (je (M6 a)) .Nl));show bP Z prog _ _ B U ((ig (λl=>dC av pr l a) t d).mo.bi B);by_cases v:t.H=[]
 .have hv:ig (λl=>dC av pr l a) t d=.go t.bare:=by unfold ig;rw[v,kC,abp,v]
  rw[hv]
  obtain⟨C,hC,F⟩:∃C,aR Z prog C/\bS C 145 mD (λt=>[D t]) (λt=>.ret (D t.bare)):=
   ⟨_,jL aW NE,bS.add λx y _ _ e=>(by simp at e;rw[cf e])⟩
  have u:∀n m,af Z C n (aj 145 [D t] m)=.r (D t.bare) m U:=λn m=>F.ev (T:=Z) n (x:=t) i.1 m;refine mi (out:=.ret (aTu [D t.bare,zP G])) tok C hC r 3 F193 rfl rfl ?_ B;simp[f193,u,v,fJ,an];exact bG.Pu (.Tt (.Cs (bg _) (.Cs (.Gd rfl) .Nl))) (by simp)
 .obtain⟨C,hC,F,Q,S⟩:∃C,aR Z prog C/\C 145=aLf 63 Y (λt=>mD t/\t.H≠[]) (λt=>[D t]) (λt=>zF aT t.H) (λb t=>TO t b)/\Has C 171 BS (λx=>[aT x.1,ar (aO x.2) 0]) (λx=>km (dC av pr x.1 x.2))/\bS C 166 (λ_:Int=>True) (λe=>[J e]) (λe=>.aU (cL e)):=
   ⟨_,Jv (aZ (jL aW NZ) (asn hls)) akF,rfl,Has.Sk (by decide) (Has.Ad λx y e=>(by let⟨x1,x2⟩:=x;let⟨y1,y2⟩:=y;simp at e;rw[qC e.1,qy e.2])),bS.skip (by decide) (bS.skip (by decide) (bS.add λx y _ _ e=>(by simp at e;rw[e])))⟩
  have u:∀n m,af Z C n (aj 145 [D t] m)=.r (TO t m.n) (m.w (K (zF aT t.H) 63 Y)) U:=λn m=>Ta F (λx y e=>by simp at e;exact cf e) n (x:=t) ⟨i.1,v⟩ m;have V:∀n m l,l∈t.H->af Z C n (.call (lz a) [aT l] m U)=.r (km (dC av pr l a)) m U:=λn m l hl=>Q.FY (T:=Z) n (x:=(l,a)) (i.2 l hl) rfl m;have W:∀n m k,af Z C n (aj 166 [J k] m)=.p [⟨cL k,G,G⟩] m U:=λn m k=>S.ev (T:=Z) n (x:=k) trivial m;refine mi tok C hC r (I t.H+9) F193 aiI rfl ?_ B;show ay (bG Z [yB 5 31,yx 6] _ (ig (λl=>dC av pr l a) t d).mo) (bG Z [yB 5 31,yx 6] _ (ig (λl=>dC av pr l a) t d).mo) _ (iX _ (ig (λl=>dC av pr l a) t d).mo) _;generalize X:(ig (λl=>dC av pr l a) t d).mo=R;unfold ig at X;refine ax (Q0:=λo h=>h=(H.e.w (K (ah (D t)) 31 G)).w (K z5 31 G)/\o.g 2=O (ar (lz a) 0)/\o.g 3=O (zM (O ⟨0,0,U⟩))/\o.g 5=O (zM (O ⟨1,0,U⟩))) ?_ λo h⟨e,t2,M,N⟩=>?_
  .simp[z,f193];exact .mk ⟨rfl,by simp,by simp,by simp⟩
  subst e;refine ax (Q0:=λo h=>h.b=0/\h.n=4/\h.g 0=O (K (ah (D t)) 31 G)/\h.g 1=O (K z5 31 G)/\h.g 2=O (K (zF aT t.H) 63 Y)/\h.g 3=O (K [J t.w,J t.Q,zN t.F,zL (O ⟨2,0,U⟩) (I t.H) (I t.H),al []] 31 G)/\o.g 2=O (ar (lz a) 0)/\o.g 3=O (zM (O ⟨0,0,U⟩))/\o.g 5=O (zM (O ⟨1,0,U⟩))/\o.g 7=O (zM (O ⟨3,0,U⟩))) ?_ λo h⟨hb,hn,g0,g1,g2,g3,t2,M,N,t7⟩=>?_
  .have s:=λ(B:H)(q:B.g 3=O (K z5 31 G))=>fp (c:=[J t.w,J t.Q,zN t.F,zL (O ⟨2,0,U⟩) (I t.H) (I t.H),al []]) rfl rfl q rfl;simp[z,f193,M,u,s];exact .mk ⟨by simp,by simp,by simp,by simp,by simp,by simp,by simp[t2],by simp[M],by simp[N],by simp⟩
  refine ax (Q0:=λo h=>∃g,kC (λl=>dC av pr l a) t.H=.ok g/\I g=I t.H/\Lw t a g (I g) o h) ?_ λo h⟨g,L7,hl,P⟩=>?_
  .refine ax (Q0:=Lw t a [] 0) ?_ λIL h6 P=>?_
   .simp[z,f193,M,hb,g0];exact .mk ⟨hb,by omega,g0,g1,by simpa using g2,g3,by simp,by simp[t2],by simp[M],by simp[N],by simp[t7],by simp,by simp,by simp⟩
   refine pE 4 (λj s'=>∃g,j=I t.H-I g/\bB (Lw t a g (I g)) s'/\kC (λl=>dC av pr l a) t.H=As (λl=>dC av pr l a) g t.H) (I t.H) ⟨[],by simp,.mk P,(aiF _ _).symm⟩ (by omega) ?_;rintro j s' m ⟨g,rfl,hs,L⟩ hm;obtain⟨Ce,h7,rfl,P⟩:=hs.elim;by_cases w:I g<I t.H
   .refine(akI (f:=λl=>dC av pr l a) P w (by have:=i.1.1;unfold ao;omega) (λm'=>V m m' _ (zW w)) (λm' k=>W m m' k)).Mo (λCc q=>?_) (λ_ q=>q.elim) (λ_ _ q=>q.elim) (λch Cc q=>?_)
    .obtain⟨DG,h8,rfl,he,A⟩:=q.elim;refine⟨_,?_,_,rfl,.mk A,?_⟩
     .simp;omega
     .rw[L];exact akG w he
    .obtain⟨he,q1,q2,rfl⟩:=q;rw[L,aiG (f:=λl=>dC av pr l a) w he]at X;subst X;exact⟨q1,q2,_,_,rfl,rfl,.Pu (mO _)⟩
   .refine(ant P (by omega)).Mo (λ_ q=>q.elim) (λ_ q=>q.elim) (λj Cc q=>⟨q.1,?_⟩) (λ_ _ q=>q.elim);obtain⟨DG,h8,rfl,A⟩:=q.2.elim;have:=A.le;exact .mk ⟨g,by rw[L];exact aiH (by omega),by omega,A⟩
  rw[L7]at X;subst X;let⟨hb,hn,g0,g1,g2,g3,hle,t2,M,N,t7,t15,t16,t17⟩:=P;have g2:h.g 2=O (K (zF aT g) 63 Y):=by rw[g2,yN (by omega)];simp
  have p:=fh (c:=[J t.w,J t.Q,zN t.F,zL (O ⟨2,0,U⟩) (I t.H) (I t.H),al []]) rfl;have s:=λ(B:H)(q:B.g 1=O (K z5 31 G))=>fp (c:=[J t.w,J t.Q,zN t.F,zL (O ⟨2,0,U⟩) (I t.H) (I t.H),al []]) rfl rfl q rfl;simp[z,f193,N,t7,hb,g1,g3,p,s];refine⟨rfl,rfl,aTu [aAg [J t.w,J t.Q,zN t.F,zL (O ⟨2,0,U⟩) (I t.H) (I t.H),al []],zP G],_,_,rfl,by simp[N,hb,p];rfl,?_⟩;rw[By];exact .Tt (.Cs (.agg (.Cs (.Pu (.Gd rfl)) (.Cs (.Pu (.Gd rfl)) (.Cs (.Pu (.Gd rfl)) (.Cs (anu hl.symm (by simp[g2])) (.Cs (.Pu (fb [])) .Nl)))))) (.Cs (.Pu (.Gd rfl)) .Nl))
end
end Go.Proofs.YtpeialehpoilbaaGreat
namespace Go.Am.Eu
def lT(f:aB->aB×Int)(t:zA):zA×Int:=match dS (ig f) t 0 with
 |.ok u=>(u,0)
 |.error e=>(zT,e)
end Go.Am.Eu
namespace Go.Proofs.YtpeialehpoilbaaGreat
def F170:Z.f 170=O f170:=by kernel_rfl
def F192:Z.f 192=O f192:=by kernel_rfl
def F154:Z.f 154=O f154:=by kernel_rfl
def apT(a:C 192=λ_ _=>U):af Z C (n+2) (.call (bK 192 [pB k,pB m]) [] h U)=.r (aTu []) h U:=by rw[oy _ (by rw[a]),dx (vs:=[]) (h2:=h) (ab:=U) F192 rfl rfl (by simp[f192,HA,an])];rfl
def apU{x:Int}{c0:List E}(b:Has C 137 (λ_:Int=>True) (λe=>[cL e]) (λe=>J e))(s:h.b=0)(j:ae h k (ad c0 31))(l:I c0=5)(o:ae h i (ad [J x] 52))(f:¬i=k):
 af Z C (n+2) (.call (bK 192 [pB k,pB i]) [] h (O [⟨cL e,G,G⟩]))=.r (aTu []) ((h.p k (ad z5 31)).p i (ad [J e] 52)) (O [⟨cL e,Y,G⟩]):=by
 have d:∀n m,af Z C n (aj 137 [.iface 240 (J e)] m)=.r (J e) m U:=λn m=>b.ev (T:=Z) n (x:=e) trivial m;have p:=λ(g:H)(q:ae g k (ad c0 31))=>fp (c:=z5) rfl rfl q l;have r:=λ(g:H)(q:ae g i (ad [J x] 52))=>qF (n:=e) q
 have a:∃tm,aw Z (af Z C (n+1)) ⟨192,U⟩ (f192.body.getD .skip) ⟨bF [pB k,pB i] 0 .Nl,[],h,O [⟨cL e,G,G⟩]⟩=.c .Nr ⟨tm,[],(h.p k (ad z5 31)).p i (ad [J e] 52),O [⟨cL e,Y,G⟩]⟩:=by simp[f192,cL,ac8,an,d,jn,j,o,p,r,f]
 let⟨tm,a⟩:=a;rw[G2];show cB Z (af Z C (n+1)) 192 [pB k,pB i] h (O [⟨cL e,G,G⟩]) (Z.f 192)=_;rw[Hb (vs:=[]) F192 rfl rfl (.inl rfl) a (by simp[f192])];rfl
def acn{c:List E}(a:h.b=0)(b:ae h 2 (ad c 31))(d:I c=5)(f:ae h 3 (ad [J e] 52))(g:aa r 4 (pB 2))(i:aa r 5 (pB 3)):
 fw U (Am.zJ Z r [yB 4 31,yB 5 52] h)=.r (aTu [aAg c,J e]) h U:=by
 have p:=fh d;simp[g,i,a,b,f,p];rfl
def Dg(l:List Nat):List E->H->List Nat:=λ_ _=>l
def IN(a:List aB)(t:zA):Prop:=I t.M<=3/\Wl a t
section
variable{av:List aB->Bool}{pr:aB->Int}
def aiJ(k:aJ Z prog 172 BS (λx=>[aT x.1,aO x.2]) (λx=>km (dC av pr x.1 x.2)))(b:List aB):
 aJ Z prog 170 (aI (IN b)) (λt=>[D t,lz b]) (λt=>cj (lT (λl=>dC av pr l b) t)):=by
 intro t v B;have F:aI (IN b) t:=v;have j:=SE (pre:=aI (IN b)) (vo:=ig λl=>dC av pr l b) (g:=193) (cap:=[ar (lz b) 0]) ⟨(acm k b).pure,by decide,by decide,(acm k b).fn.UW λx L=>L.here.2⟩ λt v=>⟨v.here.1,λx L=>v.ld L⟩;have M:kg Z prog 141 (λ_:Unit=>True) (λ_=>iK 193 [ar (lz b) 0] (t,0)) (λ_=>dg (dS (ig λl=>dC av pr l b) t 0)):=λ_ _=>j (t,0) F
 obtain⟨C,hC,N,o,p⟩:∃C,aR Z prog C/\oZ C 141 (Dg [1]) (λ_:Unit=>True) (λ_=>iK 193 [ar (lz b) 0] (t,0)) (λ_=>dg (dS (ig λl=>dC av pr l b) t 0))/\Has C 137 (λ_:Int=>True) (λe=>[cL e]) (λe=>J e)/\C 192=λ_ _=>U:=
  ⟨_,QT (eM:=Dg [1]) (aZ aW ZG) M,oZ.add λ_ _ _ _ _ _ _ _=>rfl,Has.Sk (by decide) (Has.Ad λx y e=>(by simp[cL]at e;rw[e])),rfl⟩
 have a:∀n(m:H),ae m 1 (ad [lz b] 245)->af Z C n (aj 141 [aAg [bK 193 [pB 1]],D t,J 0] m)=(dg (dS (ig λl=>dC av pr l b) t 0)).bi (m.bx [1]):=λn m X=>
  N.ev (T:=Z) n (x:=()) trivial (m:=m) ⟨by rw[X];simp,(by decide:¬(1∈([]:List Nat))),trivial⟩ (.Cs (.agg (.Cs (.func 193 .Nl (.Cs (.box (ny (by decide:1∈[1]) X) rfl (.Pu (M6 b))) .Nl)) .Nl)) (.Cs (.Pu (bg t)) ka))
 refine GU (gd:=192) (cap:=[pB 2,pB 3]) tok C hC (.Cs (bg t) (.Cs (M6 b) .Nl)) 3 F170 rfl rfl ?_ B;show ay (o3 Z _ [yB 4 31,yB 5 52] 192 _ (cj (lT (λl=>dC av pr l b) t))) (o3 Z _ [yB 4 31,yB 5 52] 192 _ (cj (lT (λl=>dC av pr l b) t))) _ (CU Z _ [yB 4 31,yB 5 52] 192 _ (cj (lT (λl=>dC av pr l b) t))) _;unfold lT;generalize dS (ig λl=>dC av pr l b) t 0=r at a
 refine ax (Q0:=λf h=>h.b=0/\h.n=4/\ae h 0 (ad (ah (D t)) 31)/\ae h 1 (ad [lz b] 245)/\ae h 2 (ad z5 31)/\ae h 3 (ad [J 0] 52)/\
  aa f 2 (pB 0)/\aa f 3 (pB 1)/\aa f 4 (pB 2)/\aa f 5 (pB 3)) ?_ λf h⟨P,hn,g0,g1,g2,g3,t2,t3,Q,R⟩=>?_
 .simp;exact .mk ⟨by simp,by simp,by simp,by simp,by simp,by simp,by simp,by simp,by simp,by simp⟩
 refine iw (N':=js (lK 192 [pB 2,pB 3]) λi h'=>h'=h/\i.g 2=f.g 2/\i.g 3=f.g 3/\i.g 4=f.g 4/\i.g 5=f.g 5) ?_ λs hs=>?_
 .simp[Q,R];exact .mk ⟨rfl,by simp,by simp,by simp[Q],by simp[R]⟩
 obtain⟨fQ,d,rfl,e1,S,V,w,A⟩:=hs.elim;subst e1;rw[t2]at S;rw[t3]at V;rw[Q]at w;rw[R]at A;have k2:(d.bx [1]).g 2=d.g 2:=kQ (by decide);have k3:(d.bx [1]).g 3=d.g 3:=kQ (by decide);let⟨d1,W,_,_⟩:=rI P [1];have a:=λn=>a n d g1;have bl:∀c:E,eK Z d 216 (O (aAg [.nilFunc])) (O [(0,bK 193 [c])])=.v (aAg [bK 193 [c]]) d:=λc=>Oh d _ _ _;have s2:=λ(B:H)(n:Int)(q:ae B 3 (ad [J 0] 52))=>qF (n:=n) q;cases r with
 |ok u=>
  have a:∀n,af Z C n (aj 141 [aAg [bK 193 [pB 1]],D t,J 0] d)=.r (D u) (d.bx [1]) U:=a;simp[S,V,w,A,P,g0,bl,a,k2,k3,g2,g3,s2];refine⟨rfl,rfl,_,_,_,_,apT p,acn (c:=tc u) (e:=0) (by simp[W]) (by simp[dP]) rfl (by simp) (by simp[w]) (by simp[A]),?_⟩;rw[show aAg (tc u)=D u from (eD u).symm];exact .Tt (.Cs (.Pu (bg u)) ka)
 |error e=>
  have a:∀n,af Z C n (aj 141 [aAg [bK 193 [pB 1]],D t,J 0] d)=.p [⟨cL e,G,G⟩] (d.bx [1]) U:=a;simp[S,V,P,g0,bl,a];refine⟨rfl,rfl,_,_,_,_,_,apU (c0:=z5) (x:=0) o W (by simp[k2,g2]) rfl (by simp[k3,g3]) (by decide),rfl,acn (c:=z5) (e:=e) (by simp[W]) (by simp) rfl (by simp) (by simp[w]) (by simp[A]),?_⟩;exact .Tt (.Cs (rS _) ka)
def C2(x:zA×List aB):Prop:=aI (IN x.2) x.1
def akJ(e:aJ Z prog 172 BS (λx=>[aT x.1,aO x.2]) (λx=>km (dC av pr x.1 x.2))):
 aJ Z prog 154 C2 (λx=>[D x.1,aO x.2]) (λx=>cj (lT (λl=>dC av pr l x.2) x.1)):=by
 rintro⟨t,a⟩ f o;have f:aI (IN a) t:=f;have c:aJ Z prog 170 (λ_:Unit=>True) (λ_=>[D t,lz a]) (λ_=>cj (lT (λl=>dC av pr l a) t)):=λ_ _=>aiJ e a t f
 obtain⟨C,p,k⟩:∃C,aR Z prog C/\kY C 170 (Dg [1]) (λ_:Unit=>True) (λ_=>[D t,lz a]) (λ_=>cj (lT (λl=>dC av pr l a) t)):=
  ⟨_,I8 (eM:=Dg [1]) aW c,kY.add λ_ _ _ _ _ _=>rfl⟩
 have b:∀n(m:H),ae m 1 (ad [aO a] 28)->af Z C n (aj 170 [D t,bK 171 [pB 1]] m)=.r (cj (lT (λl=>dC av pr l a) t)) (m.bx [1]) U:=λn m g=>
  k.ev (T:=Z) n (x:=()) trivial (m:=m) ⟨by rw[g];simp,(by decide:¬(1∈([]:List Nat))),trivial⟩ (.Cs (.Pu (bg t)) (.Cs (.func 171 .Nl (.Cs (.box (ny (by decide:1∈[1]) g) rfl (.Pu (jM a))) .Nl)) .Nl))
 refine jf tok C p (.Cs (bg t) (.Cs (jM a) .Nl)) 1 F154 rfl rfl ?_ o;show ay (bG Z [yB 4 31,yx 5] _ (.ret (cj (lT (λl=>dC av pr l a) t)))) (bG Z [yB 4 31,yx 5] _ (.ret (cj (lT (λl=>dC av pr l a) t)))) _ _ _;generalize lT (λl=>dC av pr l a) t=r at b;let⟨u,F⟩:=r;refine ax (Q0:=λd h=>h.b=0/\h.n=3/\ae h 0 (ad (ah (D t)) 31)/\ae h 1 (ad [aO a] 28)/\ae h 2 (ad z5 31)/\aa d 2 (pB 0)/\aa d 3 (pB 1)/\aa d 4 (pB 2)) ?_ λd h⟨i,L,q,s,v,w,y,j⟩=>?_
 .simp;exact .mk ⟨by simp,by simp,by simp,by simp,by simp,by simp,by simp,by simp⟩
 have A:(h.bx [1]).g 2=h.g 2:=kQ (by decide);let⟨M,B,_,_⟩:=rI i [1];have b:=λn=>b n h s;simp[w,y,j,i,q,b,A,v];exact bG.Pu (JN _) (by simp[j,B])
end
end Go.Proofs.YtpeialehpoilbaaGreat
namespace Go.Am.Eu
def cC(t:zA):Prop:=I t.M=mZ t.w/\mD t/\∀l∈t.H,l.v=[]
def Wn(t:zA):Prop:=cC t/\∀l∈t.H,fL l=Y
def jI(n:Nat)(t:zA):Prop:=I t.M=mZ t.w/\mD t/\∀l∈t.H,∀v∈l.v,0<=v.index/\v.index<(n:Nat)
def Nk(k:Int):mZ k<=3:=by unfold mZ;split;omega;split;omega;split<;>omega
def cC.ok(h:cC a):iu a:=⟨by rw[h.1];exact Nk _,h.2.1⟩
def cC.pr(h:cC a)(n:Nat):jI n a:=⟨h.1,h.2.1,λl c v b=>by rw[h.2.2 l c]at b;cases b⟩
def cC.loc:Eu.Loc cC:=⟨λt e h⟨f,a,b⟩=>by
 cases t;exact⟨by rw[GG];show I e=mZ _;rw[h];exact f,a,b⟩,λn=>⟨rfl,⟨by show 0<1000000;omega,λx c=>by cases c⟩,λx c=>by cases c⟩,λt d⟨f,a,b⟩=>by
 cases t with
 |mk k i n g e=>
  have d:k=0:=d;subst d;exact⟨rfl,a,b⟩⟩
def cC.zero:aI cC zT:=.var cC.loc 0
def akK{f:aB->aB×Int}:∀{l r:List aB},kC f l=.ok r->I r=I l/\∀x∈r,∃y∈l,x=(f y).1:=by
 intro l;induction l with
 |nil=>intro r h;rw[kC]at h;cases h;exact⟨rfl,λx b=>by cases b⟩
 |cons a l c=>
  intro r h;rw[kC]at h;split at h
  .split at h
   .rename_i q;cases h;let⟨h1,d⟩:=c q;refine⟨by simp[h1],λx b=>?_⟩;rcases zp.1 b with rfl|b
    .exact⟨a,.head _,rfl⟩
    .let⟨y,g,e⟩:=d x b;exact⟨y,.tail _ g,e⟩
   .cases h
  .cases h
def aaE{f:aB->aB×Int}{b:List aB}(h:kC f a.H=.ok b):ig f a c=.go (.mk a.w a.Q a.F b []):=by unfold ig;rw[h]
def aiK{f:aB->aB×Int}(h:kC f a.H=yZ e):ig f a c=.stop e:=by unfold ig;rw[h]
def aby{p q:zA->Prop}{f:aB->aB×Int}(C:∀(t:zA)(k:List aB)(b:List zA),p t->I b=I t.M->I k=I t.H->(∀x∈k,∃y∈t.H,x=(f y).1)->q (.mk t.w t.Q t.F k b)):
 ∀(N:Nat)(t:zA),zD t<N->aI p t->∀d u,dS (ig f) t d=.ok u->aI q u/\zD u=zD t:=by
 intro N;induction N with
 |zero=>intro t h;omega
 |succ N F=>
  intro t M A d u h;rw[Hx]at h;cases l:kC f t.H with
  |error e=>rw[aiK l]at h;cases h
  |ok k=>
   rw[aaE l]at h
   have m:∀(b:List zA)(i:Nat)(r:List zA),(∀x∈b,zD x<N/\aI p x)->fH (ig f) t.w i b d=.ok r->(∀x∈r,aI q x)/\bA r=bA b:=by
    intro b;induction b with
    |nil=>intro i r _ h;rw[Bh]at h;cases h;exact⟨λx g=>(by cases g),rfl⟩
    |cons y b n=>
     intro i r j h;rw[CC]at h;cases o:dS (ig f) y (aL (d+eN t.w i))with
     |error e=>rw[o]at h;cases h
     |ok P=>
      rw[o]at h;cases c:fH (ig f) t.w (i+1) b d with
      |error e=>rw[c]at h;cases h
      |ok H=>
       rw[c]at h;cases h;let⟨s,v⟩:=F y (j y (by simp)).1 (j y (by simp)).2 _ _ o;let⟨q3,w⟩:=n (i+1) H (λa L=>j a (by simp[L])) c;refine⟨λx g=>?_,by rw[hG,hG,v,w]⟩;rcases zp.1 g with rfl|g
       .exact s
       .exact q3 x g
   cases c:fH (ig f) t.w 0 t.M d with
   |error e=>simp only[c]at h;cases h
   |ok r=>
    simp only[c]at h;cases h;let⟨s,v⟩:=m t.M 0 r (λy B=>⟨by have:=mg B;omega,A.ld B⟩) c;let⟨q3,w⟩:=akK l;refine⟨.mk (C t k r A.here (SG c) q3 w) λx g=>s x g,?_⟩;rw[QO,SI t,v]
def anv{f:aB->aB×Int}:∀{l:List aB},(∀x∈l,f x=(x,0))->kC f l=.ok l:=by
 intro l;induction l with
 |nil=>intro _;rw[kC]
 |cons a l b=>intro h;rw[kC,h a (by simp),if_pos rfl,b λx c=>h x (by simp[c])]
def aiL{f:aB->aB×Int}:∀(N:Nat)(t:zA),zD t<N->aI (λt=>∀x∈t.H,f x=(x,0)) t->∀d,dS (ig f) t d=.ok t:=by
 intro N;induction N with
 |zero=>intro t h;omega
 |succ N l=>
  intro t n j d;rw[Hx,aaE (anv j.here)]
  have e:∀(c:List zA)(i:Nat),(∀x∈c,zD x<N/\aI (λt=>∀x∈t.H,f x=(x,0)) x)->fH (ig f) t.w i c d=.ok c:=by
   intro c;induction c with
   |nil=>intro i _;rw[Bh]
   |cons y c g=>
    intro i b;rw[CC,l y (b y (by simp)).1 (b y (by simp)).2,g (i+1) λa m=>b a (by simp[m])]
  simp only[e t.M 0 λy k=>⟨by have:=mg k;omega,j.ld k⟩];cases t;rfl
end Go.Am.Eu
namespace Go.Proofs.YtpeialehpoilbaaGreat
structure Dh(lf:zA->List aB->zA×Int):Prop where
 fn:aJ Z prog 154 C2 (λx=>[D x.1,aO x.2]) (λx=>cj (lf x.1 x.2))
 nil:∀{t:zA},aI Wn t->lf t []=(t,0)
 cl:∀{t:zA}{ps:List aB},aI (jI (I ps)) t->aI cC (lf t ps).1
 nodes:∀(t:zA)(ps:List aB),aI (jI (I ps)) t->zD (lf t ps).1<=zD t
def jI.Qh{b:List aB}(e:I b<ao)(f:∀p∈b,p.v=[])(h:jI (I b) a):IN b a:=by let⟨h1,c,g⟩:=h;exact⟨by rw[h1];exact Nk _,c,λl d=>⟨by have:=c.2 l d;show I l.v<ao;unfold ao;omega,e,f,g l d⟩⟩
def adV:∃lf,Dh lf:=by
 let⟨c,m,d⟩:=ahl;let⟨k,n,f⟩:=params196;have o:=akJ (akE m n);refine⟨λt b=>lT (λl=>dC c k l b) t,o,λ{t} g=>?_,λ{t b} g=>?_,λt b g=>?_⟩
 .have i:c []=Y:=d [] ⟨by unfold ao;simp,λx a=>by cases a⟩ rfl
  have r:aI (λt=>∀x∈t.H,dC c k x []=(x,0)) t:=g.imp λt h x a=>by have j:=h.1.2.2 x a;exact apS (h.2 x a) i (f x (by show I x.v<ao;rw[j];unfold ao;simp) j) j
  show lT _ t=_;unfold lT;rw[aiL _ t (yL _) r]
 .show aI cC (lT _ t).1;unfold lT;cases h:dS (ig λl=>dC c k l b) t 0 with
  |error e=>exact cC.zero
  |ok u=>
   refine(aby (p:=jI (I b)) (q:=cC) (λt v w⟨j,A,F⟩ B C s=>⟨by show I w=_;rw[B];exact j,⟨by show I v<_;rw[C];exact A.1,λx a=>?_⟩,λx a=>?_⟩) _ t (yL _) g 0 u h).1
   .obtain⟨y,_,rfl⟩:=s x a;rw[YP];show 0<1000000;omega
   .obtain⟨y,_,rfl⟩:=s x a;exact YP _ _ _ _
 .show zD (lT _ t).1<=zD t;unfold lT;cases h:dS (ig λl=>dC c k l b) t 0 with
  |error e=>show zD zT<=_;rw[kU];have:=Sb t;simp[bA];exact this
  |ok u=>exact Nat.le_of_eq (aby (p:=jI (I b)) (q:=λ_=>True) (λ_ _ _ _ _ _ _=>trivial) _ t (yL _) g 0 u h).2
end Go.Proofs.YtpeialehpoilbaaGreat
namespace Go.Am.Eu
abbrev eF:E:=.iface 317 (aAg [])
def kn:bH eF:=.iface 317 (.agg .Nl)
abbrev mc(env:List zB)(l:Int):List E:=[bw env,J l]
def iI(env:List zB)(l:Int):bX (mc env l):=.Cs (me env) dF
def iN(l:Int):Prop:=0<=l/\l<=1000000
def iN.w{l:Int}(h:iN l):aL (l-1)=l-1:=by
 by_cases h0:l=0
 .subst h0;decide
 .exact Ag (by have:=h.1;omega) (by have:=h.2;omega)
def mz(l:Int):MO:=if l-1<0 then .aU eF else .ret (aTu [])
end Go.Am.Eu
namespace Go.Proofs.YtpeialehpoilbaaGreat
def F284:Z.f 284=O f284:=by kernel_rfl
def F256:Z.f 256=O f256:=by kernel_rfl
def F257:Z.f 257=O f257:=by kernel_rfl
@[simp] theorem aFn:aX Z h 320 1 (O (zM (O ⟨n,k,U⟩)))=.v (zM (O ⟨n,k+1,U⟩)) h:=by kernel_rfl
@[simp] theorem aFo:aX Z h 320 0 (O (zM (O ⟨n,k,U⟩)))=.v (zM (O ⟨n,k+0,U⟩)) h:=by kernel_rfl
@[simp] theorem aI7:zero Z 317=O (aAg []):=by kernel_rfl
def TP:eK Z h 317 (O (aAg [])) (O [])=.v (aAg []) h:=by kernel_rfl
def UA:Bi h 317 (Z.u 317) (O (aAg []))=.v eF h:=by kernel_rfl
def KY:zE Z 22 [v,N] 0=O v:=by rw[dK (show Am.zK Z 22=O G by kernel_rfl)];rfl
def nV(m:M)(a:List E)(h:LR m (pB n::l) a):m n≠U:=abb m a h
abbrev E3(b:Nat)(_:Int):List E:=[pB b]
section
variable(env:List zB)
abbrev aLk(g:FuncId)(a:A->Prop)(b:Nat->A->List E)(d e:A->Int)(c:A->MO):Prop:=AY Z prog g 320 G a b (λx=>mc env (d x)) (λx=>mc env (e x)) c
def NF:aLk env 284 iN E3 (λl=>l) (λl=>l-1) mz:=by
 intro l c h b d;refine gJ.toM (a0:=E3 0 l) (C:=cg) (n:=3) tok aW (lm F284 rfl rfl ?_) (.Cs (.ptr 0) .nil) (λm e q=>nV m e q) (iI env l) (iI env (l-1)) d;have s:=λ(f:H)(q:ae f 0 (ad (mc env l) 320))=>SK (n:=l-1) q;have w:=c.w;show ay (cn Z _ 320 G (mz l) (mc env (l-1))) (cn Z _ 320 G (mz l) (mc env (l-1))) ap (dD 320 G (mz l) (mc env (l-1))) _;unfold mz;by_cases a:l-1<0
 .rw[if_pos a];simp[f284,fT,fZ,PA,w,s,a,an,TP,UA];exact dD.pure kn (by simp)
 .rw[if_neg a];simp[f284,fT,fZ,PA,w,s,a,an];exact cn.pure (.Tt .Nl) (by simp)
def NG.add{C:aV}:bQ (bY 284 (qW 320 G iN E3 (λl=>mc env l) (λl=>mc env (l-1)) mz) C) 284 320 G iN E3 (λl=>mc env l) (λl=>mc env (l-1)) mz:=bQ.add λb c x y e=>by simp at e;refine⟨e,λa=>?_⟩;simp at a;rw[a];exact⟨rfl,rfl⟩
abbrev Oq(C:aV):Prop:=bQ C 284 320 G iN E3 (λl=>mc env l) (λl=>mc env (l-1)) mz
def pW(t p:zA):zA:=p.M.getD (1+(t.w-9)).toNat zT
abbrev UB(b:Nat)(x:Int×zA×zA):List E:=[pB b,D x.2.1,D x.2.2]
def Ot(x:Int×zA×zA):Prop:=iN x.1/\(x.2.1.w=9\/x.2.1.w=10)/\I x.2.2.M=3
def At(x:Int×zA×zA):MO:=if x.1-1<0 then .aU eF else .ret (D (pW x.2.1 x.2.2))
def agB:aLk env 257 Ot UB (λx=>x.1) (λx=>x.1-1) At:=by
 rintro⟨l,t,p⟩ ⟨g,c,o⟩ h b s;have g:iN l:=g;have c:t.w=9\/t.w=10:=c;have o:I p.M=3:=o;have r:aR Z prog (bY 284 (qW 320 G iN E3 (λl=>mc env l) (λl=>mc env (l-1)) mz) cg):=iv aW (NF env);generalize j:bY 284 (qW 320 G iN E3 (λl=>mc env l) (λl=>mc env (l-1)) mz) cg=C at r;have d:Oq env C:=by rw[<-j];exact NG.add env
 have a:∀n(m:H),ae m 0 (ad (mc env l) 320)->af Z C n (aj 284 [pB 0] m)=(mz l).bi (m.p 0 (ad (mc env (l-1)) 320)):=λn m u=>d.ev (T:=Z) n (x:=l) g u;refine gJ.toM (a0:=UB 0 (l,t,p)) (C:=C) (n:=3) tok r (lm F257 rfl rfl ?_) (.Cs (.ptr 0) (.Cs (.pure (bg t)) (.Cs (.pure (bg p)) .nil))) (λm v q=>nV m v q) (iI env l) (iI env (l-1)) s;show ay (cn Z _ 320 G (At (l,t,p)) (mc env (l-1))) (cn Z _ 320 G (At (l,t,p)) (mc env (l-1))) ap (dD 320 G (At (l,t,p)) (mc env (l-1))) _;unfold At;unfold mz at a
 obtain⟨i,w,e,y⟩:∃i:Nat,aL (aL (1+t.w)-9)=i/\i<I p.M/\pW t p=p.M.getD i zT:=by
  rcases c with c|c
  .exact⟨1,by rw[c];decide,by omega,by unfold pW;rw[c];rfl⟩
  .exact⟨2,by rw[c];decide,by omega,by unfold pW;rw[c];rfl⟩
 by_cases f:l-1<0
 .simp only[if_pos f]at a⊢;simp[f257,a,MO.bi];exact dD.pure kn (by simp)
 .simp only[if_neg f]at a⊢;have A:=λ(h:H)=>nu (h:=h) (k:=zx) e;simp[f257,a,MO.bi,w,A];have:pW t p=p.M[i]:=by rw[y];simp[e]
  rw[this];exact cn.pure (bg _) (by simp)
end
section
variable(env:List zB){sb:zA->List zA->zA×Int}
abbrev KZ(b:Nat)(x:Int×zA×List zA):List E:=[pB b,D x.2.1,al x.2.2]
def C3(x:Int×zA×List zA):Prop:=iN x.1/\HN x.2
def ij(sb:zA->List zA->zA×Int)(x:Int×zA×List zA):MO:=if x.1-1<0 then .aU eF else if(sb x.2.1 x.2.2).2=0 then .ret (D (sb x.2.1 x.2.2).1)else .aU eF
def aso(j:BR sb):aLk env 256 C3 KZ (λx=>x.1) (λx=>x.1-1) (ij sb):=by
 rintro⟨l,t,c⟩ ⟨k,p⟩ h b s;have k:iN l:=k
 obtain⟨C,v,f,o⟩:∃C,aR Z prog C/\Oq env C/\Has C 78 HN (λx=>[D x.1,al x.2]) (λx=>cj (sb x.1 x.2)):=
  ⟨_,iv (aZ aW j.fn) (NF env),NG.add env,Has.Sk (by decide) (Has.Ad λx y e=>(by let⟨F,L⟩:=x;let⟨M,N⟩:=y;simp at e;rw[cf e.1,mN e.2]))⟩
 have a:∀n(m:H),ae m 0 (ad (mc env l) 320)->af Z C n (aj 284 [pB 0] m)=(mz l).bi (m.p 0 (ad (mc env (l-1)) 320)):=λn m w=>f.ev (T:=Z) n (x:=l) k w;have d:∀n m,af Z C n (aj 78 [D t,al c] m)=.r (cj (sb t c)) m U:=λn m=>o.ev (T:=Z) n (x:=(t,c)) p m;refine gJ.toM (a0:=KZ 0 (l,t,c)) (C:=C) (n:=3) tok v (lm F256 rfl rfl ?_) (.Cs (.ptr 0) (.Cs (.pure (bg t)) (.Cs (.pure (fb c)) .nil))) (λm A q=>nV m A q) (iI env l) (iI env (l-1)) s;show ay (cn Z _ 320 G (ij sb (l,t,c)) (mc env (l-1))) (cn Z _ 320 G (ij sb (l,t,c)) (mc env (l-1))) ap (dD 320 G (ij sb (l,t,c)) (mc env (l-1))) _;unfold ij;unfold mz at a;dsimp only;generalize sb t c=r at d⊢;let⟨u,B⟩:=r;by_cases g:l-1<0
 .simp only[if_pos g]at a⊢;simp[f256,a,MO.bi];exact dD.pure kn (by simp)
 .simp only[if_neg g]at a⊢;by_cases i:B=0
  .simp only[if_pos i];subst i;simp[f256,a,MO.bi,d,an];exact cn.pure (bg _) (by simp)
  .simp only[if_neg i];simp[f256,a,MO.bi,d,i,an,TP,UA];exact dD.pure kn (by simp)
structure Ij(x:(Int×zA×List zA)×Nat×Nat×Bool)(args:List E)(h:H):Prop where
 ok:C3 x.1
 args:args=[pB x.2.1,D x.1.2.1,zL (pO x.2.2.1) (I x.1.2.2) (I x.1.2.2)]
 ne:x.2.2.1≠x.2.1
 m:ae h x.2.1 (ad (mc env x.1.1) 320)
 row:ae h x.2.2.1 (K (zF D x.1.2.2) 31 x.2.2.2)
def Ik(sb:zA->List zA->zA×Int)(env:List zB)(x:(Int×zA×List zA)×Nat×Nat×Bool)(_:List E)(h:H):ag:=(ij sb x.1).bi ((h.bx [x.2.2.1]).p x.2.1 (ad (mc env (x.1.1-1)) 320))
def Hg{ts:List zA}{gr:Bool}(d:n=I ts)(f:B k=O (K (zF D ts) 31 gr)):DV B (zL (pO k) n n) (al ts):=by
 subst d
 exact .slice (pre:=[]) (post:=[]) (es:=ts.map D) (sz:=5) (e:=31) (gr:=gr) (by rw[f,qB];simp) rfl (λa h=>by obtain⟨c,_,rfl⟩:=xp.1 h;rw[dP];rfl) (by simp) (zR _) (DL.pure (map_pure bg ts))
def abz(c:BR sb):P6 Z prog 256 (Ij env) (Ik sb env):=by rintro⟨⟨l,t,d⟩,b,B,i⟩ args h ⟨j,rfl,f,g,a⟩;have g:ae h b (ad (mc env l) 320):=g;have a:ae h B (K (zF D d) 31 i):=a;have f:B≠b:=f;refine ah4 (p:=pB b) (args:=[D t,al d]) (bs:=[B]) ?_ ⟨by rw[a];simp,by simp,trivial⟩ (.Cs (.Pu (bg t)) (.Cs (Hg rfl (ny (by simp) a)) .Nl));exact aso env c (l,t,d) j (h.bx [B]) b (by show _=_;rw[kQ (by simp;exact λe=>f e.symm)];exact g)
def anw(x y:(Int×zA×List zA)×Nat×Nat×Bool)(args:List E)(h:H)(n:Ij env x args h)(o:Ij env y args h):Ik sb env x args h=Ik sb env y args h:=by let⟨⟨l,t,vs⟩,b,B,gr⟩:=x;let⟨⟨p,u,f⟩,q,v,g⟩:=y;let⟨_,r,_,i,j⟩:=n;let⟨_,e,_,c,d⟩:=o;rw[r]at e;simp at e;let⟨k,m,s,_⟩:=e;have k:b=q:=k;subst k;subst s;have m:=cf m;subst m;have i:h.g b=O (K (mc env l) 320 G):=i;have c:h.g b=O (K (mc env p) 320 G):=c;rw[i]at c;simp at c;subst c;have j:h.g B=O (K (zF D vs) 31 gr):=j;have d:h.g B=O (K (zF D f) 31 g):=d;rw[j]at d;simp at d;have:=mH.G1 (λa b h=>by rw[dP,dP]at h;exact CL h) d.1;subst this;rfl
def abA(d:C 256=nP (Ij env) (Ik sb env))(n:Nat){vs:List zA}{b B:Nat}{gr:Bool}(e:C3 (c,a,vs))(f:B≠b)(g:ae h b (ad (mc env c) 320))(i:ae h B (K (zF D vs) 31 gr)):
 af Z C n (aj 256 [pB b,D a,zL (pO B) (I vs) (I vs)] h)=(ij sb (c,a,vs)).bi ((h.bx [B]).p b (ad (mc env (c-1)) 320)):=
 J3 (x:=((c,a,vs),b,B,gr)) d (anw env) n ⟨e,rfl,f,g,i⟩
end
end Go.Proofs.YtpeialehpoilbaaGreat
namespace Go.Am.Eu
def Cf(env:List zB)(t:zA):cK×Bool:=match fM t.F 0 env with
 |some x=>(x,yF ((I t.H:Int)=x.params))
 |none=>(E0,G)
abbrev Ge(r:cK×Bool):E:=aTu [ee r.1,zP r.2]
def aaF(r:cK×Bool):bH (Ge r):=.Tt (.Cs (Ed _) dF)
end Go.Am.Eu
namespace Go.Proofs.YtpeialehpoilbaaGreat
def F280:Z.f 280=O f280:=by kernel_rfl
def Ou:Array yH:=bq (z f280 pF1)
def Ky:Array yH:=bq (z f280 pF2)
def aiM:f280.body=O (zS (z f280 pF0) (zS (yM 1 Ou Y) (zS (yM 2 Ky Y) .ret))):=rfl
def Ov:Tr Nat:=bj Ky.toList 0 .Nl
def TQ:Tr Nat:=bj Ou.toList 0 .Nl
def akL:aN (aE TQ 11) 10=Y:=by kernel_rfl
def akM:(aN (aE Ov 11) 0&&aN (aE Ov 12) 8)=Y:=by kernel_rfl
section
variable(env:List zB)
abbrev nI(b:Nat)(x:Int×zA):List E:=[pB b,D x.2]
def akN(S:nA env):aLk env 280 (λ_:Int×zA=>True) nI (λx=>x.1) (λx=>x.1) (λx=>.ret (Ge (Cf env x.2))):=by
 rintro⟨l,t⟩ _ h b d
 obtain⟨C,V,r⟩:∃C,aR Z prog C/\Has C 95 (λx:List zB×ByteArray=>nA x.1) (λx=>[bw x.1,zN x.2]) (λx=>nH x.1 x.2):=
  ⟨_,aZ aW Ks,Has.Ad λx y e=>(by let⟨x1,x2⟩:=x;let⟨y1,y2⟩:=y;simp at e;rw[pF e.1,e.2])⟩
 have a:∀n m,af Z C n (aj 95 [bw env,zN t.F] m)=.r (nH env t.F) m U:=λn m=>r.ev (T:=Z) n (x:=(env,t.F)) S m;refine gJ.toM (a0:=nI 0 (l,t)) (C:=C) (n:=3) tok V (lm F280 aiM rfl ?_) (.Cs (.ptr 0) (.Cs (.pure (bg t)) .nil)) (λm W q=>nV m W q) (iI env l) (iI env l) d;show ay (cn Z [yB 4 163,yx 5] 320 G (.ret (Ge (Cf env t))) (mc env l)) (cn Z [yB 4 163,yx 5] 320 G (.ret (Ge (Cf env t))) (mc env l)) ap (dD 320 G (.ret (Ge (Cf env t))) (mc env l)) _;unfold Cf;unfold nH at a
 obtain⟨x,e,X,B⟩:∃(x:cK)(e:Int),(∀n m,af Z C n (aj 95 [bw env,zN t.F] m)=.r (aTu [ee x,J e]) m U)/\(match fM t.F 0 env with
  |some x=>(x,yF ((I t.H:Int)=x.params))
  |none=>(E0,G))=(x,yF (e=0)&&yF ((I t.H:Int)=x.params)):=by
  cases F:fM t.F 0 env with
  |some x=>exact⟨x,0,by rw[F]at a;exact a,by simp⟩
  |none=>exact⟨E0,9,by rw[F]at a;exact a,by simp⟩
 rw[B];clear a B;refine ax (Q0:=λc h=>h.b=0/\h.n=3/\ae h 0 (ad (mc env l) 320)/\ae h 1 (ad (ah (D t)) 31)/\ae h 2 (ad z9 163)/\aa c 0 (pB 0)/\aa c 3 (pB 1)/\aa c 4 (pB 2)) ?_ λc h⟨d,f,i,o,p,u,j,g⟩=>?_
 .simp[z,f280];exact .mk ⟨by simp,by simp,by simp,by simp,by simp,by simp,by simp,by simp⟩
 refine ax (Q0:=λc h=>h.b=0/\h.n=4/\ae h 0 (ad (mc env l) 320)/\ae h 1 (ad (ah (D t)) 31)/\ae h 2 (ad z9 163)/\ae h 3 (ad (ew x) 163)/\aa c 0 (pB 0)/\aa c 3 (pB 1)/\aa c 4 (pB 2)/\aa c 6 (pB 3)/\aa c 7 (J e)) ?_ λc h⟨d,f,i,o,p,L,u,j,g,M,N⟩=>?_
 .rw[eg,dJ];have v:=akL;have w:bj Ou.toList 0 .Nl=TQ:=rfl;rw[w];generalize TQ=bs at*;have l0:0<h.n:=by omega
  have l1:1<h.n:=by omega
  have l2:2<h.n:=by omega
  have s:=λ(A:H)(q:ae A 3 (ad z9 163))=>mS (x:=x) q rfl;simp[Ou,bq,z,f280,fT,fZ,u,j,d,f,i,o,KY,X,s,cV,cZ,cY,dc,dt,cO,cR,v];exact .mk ⟨by simp[d],by simp[f],by simp[f,i],by simp[f,o],by simp[f,p],by simp,by simp[u],by simp[j],by simp[g],by simp,by simp⟩
 .rw[run_seq,eg,dJ];have P:=akM;simp only[zX]at P;let⟨Q,R⟩:=P;have w:bj Ky.toList 0 .Nl=Ov:=rfl;rw[w];generalize Ov=bs at*;have l1:1<h.n:=by omega
  have l2:2<h.n:=by omega
  have l3:3<h.n:=by omega
  have s:=λ(A:H)(q:ae A 2 (ad z9 163))=>mS (x:=x) q rfl;by_cases k:e=0
  .subst k;simp[Ky,bq,z,f280,j,g,M,N,d,f,o,p,L,s,cV,cZ,cY,dc,dt,cO,cR];exact cn.pure (aaF _) (by simp[g,d,i])
  .simp[Ky,bq,z,f280,j,g,M,N,d,f,p,L,k,s,cV,cZ,cY,dc,dt,cO,cR];exact cn.pure (aaF _) (by simp[g,d,i])
end
end Go.Proofs.YtpeialehpoilbaaGreat
namespace Go.Am.Eu
def aaG{s:ByteArray}{x:cK}:∀{l:List (ByteArray×cK)},ke s l=O x->(s,x)∈l
 |[],h=>by cases h
 |(n,y)::l,h=>by
  rw[ke]at h;by_cases e:n=s
  .rw[if_pos e]at h;cases h;subst e;exact .head _
  .rw[if_neg e]at h;exact .tail _ (aaG h)
def ZM{s:ByteArray}{x:cK}:∀{l:List zB}{k:Nat},fM s k l=O x->∃i,∃h:i<I l,(s,x)∈dL l[i] (k+i:Nat)
 |[],_,h=>by cases h
 |d::l,k,h=>by
  rw[fM]at h;cases a:ke s (dL d k)with
  |some y=>rw[a]at h;cases h;exact⟨0,by simp,by simpa using aaG a⟩
  |none=>
   rw[a]at h;obtain⟨i,b,c⟩:=ZM (k:=k+1) (by simpa using h);exact⟨i+1,by simpa using b,by simpa[Nat.add_assoc,Nat.add_comm 1 i]using c⟩
inductive r7(d:zB)(x:cK):Prop
 |plain (h:d.k=0\/d.k=1\/d.k=2) (hk:x.kind=d.k) (hp:x.params=d.p) (ht:x.type=d.t)
 |family (h:d.k=3) (hk:x.kind=3)
 |Di (h:d.k=3) (hk:x.kind=4) (i:Nat) (hi:i<I d.aY) (hx:x.item=i)
 |bD (h:d.k=3) (hk:x.kind=5) (hp:x.params=d.bD.params)
 |func (h:d.k=4) (hk:x.kind=6) (i:Nat) (hi:i<I d.bk) (hx:x.item=i) (hp:x.params=d.p)
def akO{a:Int}{y:ByteArray×cK}{l:List gM}(h:y∈rY c a 0 l):∃i,i<I l/\y.2.kind=4/\y.2.decl=a/\y.2.item=i:=by
 let⟨i,hi,e⟩:=yk.1 h;have b:i<I l:=by rw[GW]at hi;exact hi
 have:=R7 c a 0 l i b;rw[zm hi,e]at this;cases this;exact⟨i,b,rfl,rfl,by simp⟩
def anx{a:Int}{y:ByteArray×cK}{l:List fR}(h:y∈aLh c a 0 l):∃i,i<I l/\y.2.kind=6/\y.2.decl=a/\y.2.item=i/\y.2.params=c:=by
 let⟨i,b,e⟩:=yk.1 h;have d:i<I l:=by rw[SC]at b;exact b
 have:=SD c a 0 l i d;rw[zm b,e]at this;cases this;exact⟨i,d,rfl,rfl,by simp,rfl⟩
def apV{d:zB}{s:ByteArray}{x:cK}(h:(s,x)∈dL d c):x.decl=c/\r7 d x:=by
 unfold dL at h;by_cases h0:d.k=0\/d.k=1\/d.k=2
 .rw[if_pos h0]at h;simp at h;obtain⟨_,rfl⟩:=h;exact⟨rfl,.plain h0 rfl rfl rfl⟩
 .rw[if_neg h0]at h;by_cases b:d.k=3
  .rw[if_pos b]at h;rcases zp.1 h with h|h
   .cases h;exact⟨rfl,.family b rfl⟩
   .rcases xX.1 h with h|h
    .let⟨i,e,f,g,j⟩:=akO h;exact⟨g,.Di b f i e j⟩
    .simp at h;obtain⟨_,rfl⟩:=h;exact⟨rfl,.bD b rfl rfl⟩
  .rw[if_neg b]at h;by_cases k:d.k=4
   .rw[if_pos k]at h;let⟨i,e,f,g,j,l⟩:=anx h;exact⟨g,.func k f i e j l⟩
   .rw[if_neg k]at h;cases h
def SN{a:List zB}{s:ByteArray}{x:cK}(h:fM s 0 a=O x):∃i,∃hi:i<I a,x.decl=i/\r7 a[i] x:=by let⟨i,hi,b⟩:=ZM (k:=0) h;let⟨h1,c⟩:=apV b;exact⟨i,hi,by simpa using h1,c⟩
abbrev D0:zB:=⟨0,⟨#[]⟩,0,T0,T0,0,[],⟨0,T0,[]⟩,[]⟩
def jo(a:List zB)(s:ByteArray):zB×Int×Bool:=match fM s 0 a with
 |none=>(D0,0,G)
 |some x=>if x.kind=3 then(a.getD x.decl.toNat D0,-1,Y)else if x.kind=4 then(a.getD x.decl.toNat D0,x.item,Y)else if x.kind=5 then(a.getD x.decl.toNat D0,-2,Y)else(D0,0,G)
abbrev Fw(r:zB×Int×Bool):E:=aTu [bI r.1,J r.2.1,zP r.2.2]
def Sg(r:zB×Int×Bool):bH (Fw r):=.Tt (.Cs (kM _) pZ)
end Go.Am.Eu
namespace Go.Proofs.YtpeialehpoilbaaGreat
def F307:Z.f 307=O f307:=by kernel_rfl
def F281:Z.f 281=O f281:=by kernel_rfl
def Nm{l:List zB}{k:yq}(a:i<I l):dI Z h (O (zf 38)) (O (bw l)) (O (.int k (i:Int)))=.v (ar (bI l[i]) 0) h:=
 np (e:=bI l[i]) Fo a (by simp[a]) rfl
def ZN{l:List gM}{k:yq}(a:i<I l):dI Z h (O (zf 142)) (O (eb kA l)) (O (.int k (i:Int)))=.v (ar (kA l[i]) 0) h:=
 np (e:=kA l[i]) Us a (by simp[a]) rfl
def anz{l:List fR}{k:yq}(a:i<I l):dI Z h (O (zf 147)) (O (eb kc l)) (O (.int k (i:Int)))=.v (ar (kc l[i]) 0) h:=
 np (e:=kc l[i]) Ut a (by simp[a]) (by show(kb _).length=15;unfold kb;rw[iH];rfl)
def abB{l:List (ByteArray×Bool×Tree)}{k:yq}(a:i<I l):dI Z h (O (zf 177)) (O (eb gA l)) (O (.int k (i:Int)))=.v (ar (gA l[i]) 0) h:=
 np (e:=gA l[i]) Uu a (by simp[a]) (by rw[Ai,iH];rfl)
def K0:eK Z h 38 (O (aAg fS)) (O [])=.v (aAg fS) h:=by kernel_rfl
def aaH{g:Bool}(a:ae h k (K l t g))(d:I l=23):zG Z h 38 (aAg fS) (pB k)=O (h.p k (K fS t g)):=by have:=dY (T:=Z) (v:=aAg fS) (n:=23) (off:=0) Fo rfl rfl a (by omega);rw[this,yN (by omega)];rfl
def adW:zE Z 38 fS 0=O (aAg fS):=by rw[fV U0 Fo];rfl
def Tk(g:Nat->Option ai):DV g (aAg fS) (bI D0):=by have d:tc T0=[J 0,J 0,zN ⟨#[]⟩,aO [],al []]:=rfl;have b:∀g,DV g (zL U 0 0) (cp [] 0 0 []):=λg=>.cP;have a:∀g n,DV g (J n) (J n):=λg n=>.Pu bJ;have c:∀g s,DV g (zN s) (zN s):=λg s=>.Pu bJ;exact .agg (.Cs (a _ _) (.Cs (c _ _) (.Cs (a _ _) (.Cs (a _ _) (.Cs (a _ _) (.Cs (c _ _) (.Cs (b _) (.Cs (b _) (.Cs (a _ _) (.Cs (a _ _) (.Cs (c _ _) (.Cs (b _) (.Cs (b _) (.Cs (a _ _) (.Cs (b _) (.Cs (a _ _) (.Cs (a _ _) (.Cs (a _ _) (.Cs (c _ _) (.Cs (b _) (.Cs (b _) (.Cs (b _) (.Cs (b _) .Nl)))))))))))))))))))))))
def akP:aJ Z prog 307 (λx:List zB×ByteArray=>nA x.1) (λx=>[bw x.1,zN x.2]) (λx=>Fw (jo x.1 x.2)):=by
 rintro⟨b,s⟩ r;have r:nA b:=r
 obtain⟨C,B,t⟩:∃C,aR Z prog C/\Has C 95 (λx:List zB×ByteArray=>nA x.1) (λx=>[bw x.1,zN x.2]) (λx=>nH x.1 x.2):=
  ⟨_,aZ aW Ks,Has.Ad λx y e=>(by let⟨S,V⟩:=x;let⟨W,X⟩:=y;simp at e;rw[pF e.1,e.2])⟩
 have c:∀n m,af Z C n (aj 95 [bw b,zN s] m)=.r (nH b s) m U:=λn m=>t.ev (T:=Z) n (x:=(b,s)) r m;refine jf tok C B (.Cs (me b) dF) 3 F307 rfl rfl ?_;show ay (bG Z [yB 4 38,yx 5,yx 6] _ (.ret (Fw (jo b s)))) (bG Z [yB 4 38,yx 5,yx 6] _ (.ret (Fw (jo b s)))) _ _ _;unfold jo;unfold nH at c;have a:=Tk
 have F:=λ(d:H)(q:ae d 0 (ad fS 38))=>aaH q rfl
 have f:∀g h,aa g 4 (pB 0)->aa g 5 (J 0)->aa g 6 (zP G)->h.b=0->ae h 0 (ad fS 38)->bG Z [yB 4 38,yx 5,yx 6] (λh=>h.g) (.ret (Fw (D0,0,G))) ⟨g,[],h,U⟩:=λg h L M N P Q=>
  ⟨rfl,rfl,aTu [aAg fS,J 0,zP G],_,_,rfl,by simp[L,M,N,Q,P,adW];rfl,.Tt (.Cs (Tk _) adF)⟩
 cases u:fM s 0 b with
 |none=>
  rw[u]at c;dsimp only at c⊢;simp[c];exact f _ _ (by simp) (by simp) (by simp) (by simp) (by simp)
 |some x=>
  rw[u]at c;dsimp only at c⊢;let⟨i,A,hd,hx⟩:=SN u;have j:=λ(d:H)(q:ae d 1 (ad z9 163))=>mS (x:=x) q rfl;have v:=λ(d:H)(q:ae d 0 (ad fS 38))=>Ey (x:=b[i]) q rfl;have w:=λ(h:H)=>Nm (h:=h) (k:=zx) A;have R:b.getD x.decl.toNat D0=b[i]:=by rw[hd];simp[A]
  rw[R];by_cases l:x.kind=3
  .rw[if_pos l];simp[c,an,j,l,hd,w,v];exact bG.Pu (Sg _) (by simp)
  .rw[if_neg l];by_cases o:x.kind=4
   .rw[if_pos o];simp[c,an,j,o,hd,w,v,cV,cZ,cY,dc,dt,cO,cR];exact bG.Pu (Sg _) (by simp)
   .rw[if_neg o];by_cases p:x.kind=5
    .rw[if_pos p];simp[c,an,j,p,hd,w,v];exact bG.Pu (Sg _) (by simp)
    .rw[if_neg p];simp[c,an,j,l,o,p,K0,F];exact f _ _ (by simp) (by simp) (by simp) (by simp) (by simp)
def BT(d:zB):Int:=aL (aL (aL (d.f+1)+I d.aY)+(if 0<aL (I (cQ d.t).1-d.f)then aL (I (cQ d.t).1-d.f)else 0))
def XR:aJ Z prog 281 (λd:zB=>zD d.t<1073741824) (λd=>[bI d]) (λd=>J (BT d)):=by intro d a;have a:zD d.t<1073741824:=a;obtain⟨C,f,b⟩:∃C,aR Z prog C/\Has C 69 (λt=>zD t<1073741824) (λt=>[D t]) (λt=>aTu [al (cQ t).1,D (cQ t).2]):=⟨_,aZ aW OX,Has.Ad λx y e=>(by simp at e;rw[cf e])⟩;have c:∀n m,af Z C n (aj 69 [D d.t] m)=.r (aTu [al (cQ d.t).1,D (cQ d.t).2]) m U:=λn m=>b.ev (T:=Z) n (x:=d.t) a m;refine jf tok C f (.Cs (kM d) .Nl) 3 F281 rfl rfl ?_;unfold BT;simp[f281,c];exact bG.Pu bJ (by simp)
end Go.Proofs.YtpeialehpoilbaaGreat
namespace Go.Am.Eu
inductive mr(n:Nat):Nat->Tree->Prop
 |leaf {k:Nat} {t:Tree} (h:t.kind≠1) (hb:aI (jI n) t.body) (hn:zD t.body<=5000):mr n k t
 |split {k:Nat} {t:Tree} (h:t.kind=1) (hn:I t.cb<1000000) (hb:∀b∈t.cb,b.2.1=G->mr n k b.2.2):mr n (k+1) t
structure TS(d:zB):Prop where
 pw:0<=d.p
 aI8:0<=d.bD.params
 fixed:0<=d.f/\d.f<=1000000
 type:zD d.t<1073741824/\I (cQ d.t).1<=1000000
 Qi:I d.aY<=1000000
 nru:I d.bD.rules<=1000000
 aY:∀c∈d.aY,zD c.type<1073741824/\I (cQ c.type).1<=250
 value:d.k=1->aI (jI d.p.toNat) d.v/\zD d.v<=5000
 rules:∀r∈d.bD.rules,aI (jI d.bD.params.toNat) r/\zD r<=5000
 nfu:I d.bk<=1000000
 bk:∀f∈d.bk,1<=f.arity/\f.arity<=1000/\mr d.p.toNat 200 f.tree
abbrev iZ(xs:List zA)(k:Nat):E:=cp (xs.map D) k (I xs-k) []
def NH(a:List zA)(k:Nat):dj (iZ a k)=al (a.drop k):=by show zU (.via 0 #[] (I a-k) G) ⟨((a.map D).drop k).take (I a-k)⟩ ⟨[]⟩=_;rw[<-List.map_drop,yI (by simp)];rw[<-wK];rfl
def fB(env:List zB)(t:zA):Option (zB×Nat×List zA):=
 if(aM t).w=3 then
  if(jo env (aM t).F).2.2=Y/\0<=(jo env (aM t).F).2.1 then
   if(I (bt t):Int)=max (jo env (aM t).F).1.f (I (cQ ((jo env (aM t).F).1.aY.getD (jo env (aM t).F).2.1.toNat ⟨⟨#[]⟩,T0⟩).type).1) then
    O ((jo env (aM t).F).1,(jo env (aM t).F).2.1.toNat,bt t)
   else U
  else U
 else U
def ry:Option (zB×Nat×List zA)->E
 |none=>aTu [bI D0,J 0,al [],zP G]
 |some (d,j,a)=>aTu [bI d,J (j:Nat),iZ a d.f.toNat,zP Y]
def akQ(a:List zA)(k:Nat):bH (iZ a k):=.data _ _ _ _ (map_pure bg a)
def anA(r:Option (zB×Nat×List zA)):bH (ry r):=by
 cases r with
 |none=>exact .Tt (.Cs (kM _) (.Cs bJ (.Cs (fb _) dF)))
 |some r=>exact .Tt (.Cs (kM _) (.Cs bJ (.Cs (akQ _ _) dF)))
end Go.Am.Eu
namespace Go.Proofs.YtpeialehpoilbaaGreat
structure pX(env:List zB):Prop where
 small:nA env
 all:∀d∈env,TS d
def abC{env:List zB}(o:pX env){s:ByteArray}(h:(jo env s).2.2=Y)(b:0<=(jo env s).2.1):∃j:Nat,(jo env s).1∈env/\(jo env s).2.1=j/\j<I (jo env s).1.aY:=by
 unfold jo at h b⊢;cases d:fM s 0 env with
 |none=>rw[d]at h;cases h
 |some x=>
  rw[d]at h b;let⟨i,g,hd,e⟩:=SN d;have m:env.getD x.decl.toNat D0=env[i]:=by rw[hd];simp[g]
  simp only[m]at h b⊢;by_cases k:x.kind=3
  .rw[if_pos k]at b;exact absurd (show(0:Int)<=-1 from b) (by decide)
  .rw[if_neg k]at h b⊢;by_cases f:x.kind=4
   .rw[if_pos f];cases e with
    |plain a c=>rw[c]at f;omega
    |family a c=>omega
    |Di a c j n e=>exact⟨j,zW g,e,n⟩
    |bD a c=>omega
    |func a c=>omega
   .rw[if_neg f]at h b;by_cases l:x.kind=5
    .rw[if_pos l]at b;exact absurd (show(0:Int)<=-2 from b) (by decide)
    .rw[if_neg l]at h;cases h
def adX(a:m<=I y)(b:k<=m)(c:n<=k):GN h (y.map D) 0 (I y) [] U (O 5) (O n) (O k) (O m)=.v (cp (y.map D) n (k-n) []) h:=by
 show cond (cond (ze m (I y)) (cond (ze k m) (cond (ze n k) (cond (zV n 0) Y (N9 5 (y.map D)[0]?)) G) G) G) (aK.v (cp (y.map D) (zl 0 n) (k-n) []) h) .f=_
 have d:(cond (zV n 0) Y (N9 5 (y.map D)[0]?))=Y:=by
  by_cases h0:n=0
  .subst h0;rfl
  .rw[jh h0,cond_false];have:0<I y:=by omega
   rw[List.getElem?_map,zm this];show zV (dh (ah (D y[0]))) 5=Y;rw[dP];rfl
 rw[zb a,zb b,zb c,d];show aK.v (cp (y.map D) (0+n) (k-n) []) h=_;rw[xF]
def JO{xs:List zA}(a:k<=I xs):rO Z h 29 (O (al xs)) (O (O (J k))) (O U) (O U)=.v (iZ xs k) h:=by show CF Z h (O (J k)) U U (Z.u 29) (al xs)=_;rw[TT.u24];show GN h (xs.map D) 0 (I xs) [] U (Am.zI Z 31) (O k) (O (I xs)) (O (I xs))=_;rw[oa,adX (zR _) (zR _) a]
def Tl(a:k<=I y):rO Z h 29 (O (al y)) (O U) (O (O (J k))) (O U)=.v (cp (y.map D) 0 k []) h:=by show CF Z h U (O (J k)) U (Z.u 29) (al y)=_;rw[TT.u24];show GN h (y.map D) 0 (I y) [] U (Am.zI Z 31) (O 0) (O k) (O (I y))=_;rw[oa,adX (zR _) a (Nat.zero_le _)];rfl
def F298:Z.f 298=O f298:=by kernel_rfl
def Ow:Array yH:=bq (z f298 pF3)
def N3:Array yH:=bq (z f298 pF7)
def aiN:f298.body=O (zS (z f298 pF0) (zS (z f298 pF1) (zS (z f298 pF2) (zS (yM 4 Ow Y) (zS (z f298 pF4) (zS (z f298 pF5) (zS (z f298 pF6) (zS (yM 10 N3 Y) .ret)))))))):=rfl
def TU:Tr Nat:=bj Ow.toList 0 .Nl
def akR:aN (aE TU 12) 11=Y:=by kernel_rfl
def Tm:Tr Nat:=bj N3.toList 0 .Nl
def aiO:aN (aE Tm 6) 0=Y:=by kernel_rfl
section
variable(env:List zB)
def abD(hE:pX env):aLk env 298 (λx:Int×zA=>zD x.2<1073741824) nI (λx=>x.1) (λx=>x.1) (λx=>.ret (ry (fB env x.2))):=by
 rintro⟨l,t⟩ ht h b f;have ht:zD t<1073741824:=ht
 obtain⟨C,hC,awo,Wo,Ws⟩:∃C,aR Z prog C/\Has C 307 (λx:List zB×ByteArray=>nA x.1) (λx=>[bw x.1,zN x.2]) (λx=>Fw (jo x.1 x.2))/\
  Has C 76 (λt=>zD t<1073741824) (λt=>[D t]) (λt=>aTu [D (aM t),al (bt t)])/\Has C 69 (λt=>zD t<1073741824) (λt=>[D t]) (λt=>aTu [al (cQ t).1,D (cQ t).2]):=
  ⟨_,aZ (aZ (aZ aW akP) NY) OX,Has.Sk (by decide) (Has.Sk (by decide) (Has.Ad λx y e=>(by let⟨x1,x2⟩:=x;let⟨y1,y2⟩:=y;simp at e;rw[pF e.1,e.2]))),Has.Sk (by decide) (Has.Ad λx y e=>(by simp at e;rw[cf e])),Has.Ad λx y e=>(by simp at e;rw[cf e])⟩
 have B:∀n m s,af Z C n (aj 307 [bw env,zN s] m)=.r (Fw (jo env s)) m U:=λn m s=>awo.ev (T:=Z) n (x:=(env,s)) hE.small m;have Wt:∀n m,af Z C n (aj 76 [D t] m)=.r (aTu [D (aM t),al (bt t)]) m U:=λn m=>Wo.ev (T:=Z) n (x:=t) ht m;have P:∀n m u,zD u<1073741824->af Z C n (aj 69 [D u] m)=.r (aTu [al (cQ u).1,D (cQ u).2]) m U:=λn m u hu=>Ws.ev (T:=Z) n (x:=u) hu m;refine gJ.toM (a0:=nI 0 (l,t)) (C:=C) (n:=3) tok hC (lm F298 aiN rfl ?_) (.Cs (.ptr 0) (.Cs (.pure (bg t)) .nil)) (λm a' q=>nV m a' q) (iI env l) (iI env l) f;show ay (cn Z [yB 4 38,yx 5,yx 6,yx 7] 320 G (.ret (ry (fB env t))) (mc env l)) (cn Z [yB 4 38,yx 5,yx 6,yx 7] 320 G (.ret (ry (fB env t))) (mc env l)) ap (dD 320 G (.ret (ry (fB env t))) (mc env l)) _;generalize p:fB env t=R;unfold fB at p;have sz:=λ(h0:H)(q:ae h0 2 (ad fS 38))=>aaH q rfl
 have Q:∀c h,aa c 4 (pB 2)->aa c 5 (J 0)->aa c 6 (zL U 0 0)->aa c 7 (zP G)->h.b=0->ae h 0 (ad (mc env l) 320)->ae h 2 (ad fS 38)->cn Z [yB 4 38,yx 5,yx 6,yx 7] 320 G (.ret (ry U)) (mc env l) ⟨c,[],h,U⟩:=λc h i t5 t6 t7 f w A=>
  ⟨rfl,rfl,aTu [aAg fS,J 0,zL U 0 0,zP G],_,h,rfl,by simp[i,t5,t6,t7,A,f,adW],.Tt (.Cs (Tk _) (.Cs eI (.Cs .cP ka))),w⟩
 refine ax (Q0:=λc h=>h.b=0/\h.n=3/\ae h 0 (ad (mc env l) 320)/\ae h 1 (ad (ah (D t)) 31)/\ae h 2 (ad fS 38)/\aa c 0 (pB 0)/\aa c 3 (pB 1)/\aa c 4 (pB 2)) ?_ λc h⟨f,r,w,g1,A,S,t3,i⟩=>?_
 .simp[z,f298];exact .mk ⟨by simp,by simp,by simp,by simp,by simp,by simp,by simp,by simp⟩
 refine ax (Q0:=λc h=>h.b=0/\h.n=4/\ae h 0 (ad (mc env l) 320)/\ae h 2 (ad fS 38)/\ae h 3 (ad (ah (D (aM t))) 31)/\aa c 0 (pB 0)/\aa c 4 (pB 2)/\aa c 8 (pB 3)/\aa c 9 (al (bt t))) ?_ λc h⟨f,r,w,A,g3,S,i,t8,L⟩=>?_
 .simp[z,f298,t3,f,r,g1,Wt];exact .mk ⟨by simp[f],by simp[r],by simp[r,w],by simp[r,A],by simp,by simp[S],by simp[i],by simp,by simp⟩
 refine ax (Q0:=λc h=>(aM t).w=3/\h.b=0/\h.n=4/\ae h 0 (ad (mc env l) 320)/\ae h 2 (ad fS 38)/\ae h 3 (ad (ah (D (aM t))) 31)/\aa c 0 (pB 0)/\aa c 4 (pB 2)/\aa c 8 (pB 3)/\aa c 9 (al (bt t))) ?_ λc h⟨hk,f,r,w,A,g3,S,i,t8,L⟩=>?_
 .by_cases hk:(aM t).w=3
  .simp[z,f298,t8,f,g3,hk,an];exact .mk ⟨f,r,w,A,g3,by simp[S],by simp[i],by simp[t8],by simp[L]⟩
  .rw[if_neg hk]at p;subst p;simp[z,f298,t8,i,f,g3,A,hk,an,K0,sz];exact Q _ _ (by simp[i]) (by simp) (by simp) (by simp) (by simp[f]) (by simp[w]) (by simp)
 rw[if_pos hk]at p;generalize V:jo env (aM t).F=M at p;refine ax (Q0:=λc h=>h.b=0/\h.n=5/\ae h 0 (ad (mc env l) 320)/\ae h 2 (ad fS 38)/\ae h 4 (ad (cN M.1) 38)/\aa c 0 (pB 0)/\aa c 4 (pB 2)/\aa c 9 (al (bt t))/\aa c 10 (pB 4)/\aa c 11 (J M.2.1)/\aa c 12 (zP M.2.2)) ?_ λc h⟨f,r,w,A,g4,S,i,L,o,g,t12⟩=>?_
 .rw[eg,dJ];have Wu:=akR;have e0:bj Ow.toList 0 .Nl=TU:=rfl;rw[e0];generalize TU=bs at*;have l0:0<h.n:=by omega
  have l3:3<h.n:=by omega
  have s:=λ(h0:H)(q:ae h0 4 (ad fS 38))=>Ey (x:=M.1) q rfl;have B:=λn m=>B n m (aM t).F;rw[V]at B;simp[Ow,bq,z,f298,fT,fZ,S,t8,f,r,w,g3,KY,B,s,cV,cZ,cY,dc,dt,cO,cR,Wu];exact .mk ⟨by simp[f],by simp[r],by simp[r,w],by simp[r,A],by simp,by simp[S],by simp[i],by simp[L],by simp,by simp,by simp⟩
 refine ax (Q0:=λa W=>(M.2.2=Y/\0<=M.2.1)/\W=h/\aa a 0 (pB 0)/\aa a 4 (pB 2)/\aa a 9 (al (bt t))/\aa a 10 (pB 4)/\aa a 11 (J M.2.1)) ?_ λfQ h1⟨X,e1,S,i,L,o,g⟩=>?_
 .by_cases X:M.2.2=Y
  .by_cases hj:0<=M.2.1
   .have Gf:¬M.2.1<0:=by omega
    simp[z,f298,t12,g,X,Gf,an];exact .mk ⟨hj,rfl,by simp[S],by simp[i],by simp[L],by simp[o],by simp[g]⟩
   .have Gf:M.2.1<0:=by omega
    rw[if_neg (λq=>hj q.2)]at p;subst p;simp[z,f298,i,t12,g,X,Gf,A,an,K0,sz];exact Q _ _ (by simp[i]) (by simp) (by simp) (by simp) (by simp[f]) (by simp[w]) (by simp)
  .have hf':M.2.2=G:=by simpa using X
   rw[if_neg (λq=>X q.1)]at p;subst p;simp[z,f298,i,t12,g,hf',A,an,K0,sz];exact Q _ _ (by simp[i]) (by simp) (by simp) (by simp) (by simp[f]) (by simp[w]) (by simp)
 subst e1;rw[if_pos X]at p;let⟨j,F,hj,N⟩:=abC hE (s:=(aM t).F) (by rw[V];exact X.1) (by rw[V];exact X.2);rw[V]at F hj N;let⟨d,jj,bb⟩:=M;have F:d∈env:=F;have hj:jj=j:=hj;subst hj;have N:j<I d.aY:=N;have hd:=hE.all d F;let⟨B3,FJ⟩:=hd.aY _ (zW N);have hgd:d.aY.getD (Int.toNat (j:Int)) ⟨⟨#[]⟩,T0⟩=d.aY[j]:=by simp[N]
 dsimp only at p g4 g;rw[hgd]at p;generalize htl:(cQ d.aY[j].type).1=v at p FJ;refine ax (Q0:=λa W=>W.b=0/\W.n=6/\ae W 0 (ad (mc env l) 320)/\ae W 2 (ad fS 38)/\ae W 4 (ad (cN d) 38)/\aa a 4 (pB 2)/\aa a 9 (al (bt t))/\aa a 10 (pB 4)/\aa a 11 (J (j:Nat))/\aa a 13 (al v)) ?_ λjH h2⟨f,r,w,A,g4,i,L,o,g,t13⟩=>?_
 .have ix:=λ(h:H)=>ZN (h:=h) (k:=zx) N;have P:=λn m=>P n m _ B3;rw[htl]at P;simp[z,f298,o,g,f,r,g4,ix,P];exact .mk ⟨by simp[f],by simp[r],by simp[r,w],by simp[r,A],by simp[r,g4],by simp[i],by simp[L],by simp[o],by simp[g],by simp⟩
 have IP:=hd.fixed;have hmx:(max d.f (I v:Int))=if d.f<(I v:Int)then(I v:Int)else d.f:=by split<;>omega
 rw[hmx]at p;refine ax (Q0:=λa W=>(I (bt t):Int)=(if d.f<(I v:Int)then(I v:Int)else d.f)/\W=h2/\aa a 4 (pB 2)/\aa a 9 (al (bt t))/\aa a 10 (pB 4)/\aa a 11 (J (j:Nat))) ?_ λru h3⟨hl,e1,i,L,o,g⟩=>?_
 .by_cases hl:(I (bt t):Int)=(if d.f<(I v:Int)then(I v:Int)else d.f)
  .simp[z,f298,L,o,t13,f,g4,<-hl,an];exact .mk ⟨rfl,by simp[i],by simp[L],by simp[o],by simp[g]⟩
  .rw[if_neg hl]at p;subst p;simp[z,f298,i,L,o,t13,f,g4,A,hl,an,K0,sz];exact Q _ _ (by simp[i]) (by simp) (by simp) (by simp) (by simp[f]) (by simp[w]) (by simp)
 subst e1;rw[if_pos hl]at p;subst p;rw[run_seq,eg,dJ];have b60:=aiO;have e0:bj N3.toList 0 .Nl=Tm:=rfl;rw[e0];generalize Tm=bs at*;have l2:2<h3.n:=by omega
 have l4:4<h3.n:=by omega
 have s:=λ(h0:H)(q:ae h0 2 (ad fS 38))=>Ey (x:=d) q rfl;obtain⟨k,Wv⟩:∃k:Nat,d.f=k:=⟨_,(wk IP.1).symm⟩
 have Wg:k<=I (bt t):=by
  have:d.f<=(I (bt t):Int):=by rw[hl];split<;>omega
  omega
 simp[N3,bq,z,f298,i,L,o,g,f,g4,A,Wv,l2,l4,s,cV,cZ,cY,dc,dt,cO,cR,b60,iV,bounds,JO Wg];have hkn:d.f.toNat=k:=by omega
 refine cn.pure (anA _) ⟨h3.p 2 (ad (cN d) 38),?_,by simp[w]⟩;show _=ag.r (aTu [bI d,J (j:Nat),iZ (bt t) d.f.toNat,zP Y]) (h3.p 2 (ad (cN d) 38)) U;rw[hkn];simp[i,f]
end
def F297:Z.f 297=O f297:=by kernel_rfl
def aud(h:H)(x:zA)(l:List zA):fu Z h .eql 29 (vG 3) (.const (zL U 0 0)) (O (al (x::l))) (O (zL U 0 0))=.v (zP G) h:=by rfl
def asp:iQ Z h 0 (O (zf 31)) (O [])=.v (zL (pO h.n) 0 0) (h.w (ad [] 31)):=by kernel_rfl
@[simp] theorem aBX:lenOf (al y)=O (I y):=rfl
def asq{b:Nat}{l:List zA}(q:h.b=0)(n:ae h b (ad [] 31))(x:I l<=1073741824)(d:l≠[]):
 jO Z h (al l) (O (zf 31)) (O (zf 31)) (zL (pO b) 0 0) (O (I l))=.v (zL (pO h.n) (I l) (I l)) (h.w (K (zF D l) 31 Y)):=by
 have a:=mH;have c:=a.cw;cases e:Z.cw.g 31 with
 |none=>rw[e]at c;cases c
 |some i=>
  rw[e]at c;simp at c;have f:zV i.size 0=G:=jh (by have:=a.pos;omega);have g:ze i.bytes 65536=Y:=zb c.2;have r:zV (dh (zF D l)) (z7 (I l) 5)=Y:=by rw[fX];exact ek (a.ia l)
  have s:zH h (I l) 5 (al l)=O (zF D l):=by have:=Ju (enc:=D) (sz:=5) (h:=h) (l:=l) (off:=0) (fG:=[]) (p:= #[]) (k:=I l);rw[yY,List.take_length]at this;exact this
  have t:zH h 0 5 (zL (pO b) 0 0)=O []:=by show rK 0 (z7 0 5) (rD (h.g b))=_;rw[n];rfl
  have o:0<I l:=List.length_pos_iff.2 d;have j:∀b,h.az b=h:=λb=>Ae q;show jy Z h 31 (zL (pO b) 0 0) (al l) (pO b) 0 0 (I l) (Z.cw.g 31)=_;rw[e];unfold jy;dsimp only;have m:ze (zl 0 (I l)) 1073741824=Y:=zb (by show 0+I l<=_;omega)
  have u:cu (cu h (zL (pO b) 0 0)) (al l)=h:=by show h.az b=h;exact j b
  rw[f,g,m,a.zero,c.1,s,t,u];have v:zV (dh ([]:List E)) (z7 0 5)=Y:=rfl;show cond (cond (zV (dh (zF D l)) (z7 (I l) 5)) (cond (zV (dh ([]:List E)) (z7 0 5)) (da (zF D l)) G) G) (kq Z h b 0 31 5 0 0 (I l) [] (zF D l) (h.g b)) .f=_;rw[r,v,a.qA,n];show bN (mP Z h b 31 5 (zl 0 (I l)) (zl 0 (z7 0 5)) (il [] (zF D l)) [] 31 G) _ (ze (zl 0 (I l)) 0)=_
  have:ze (zl 0 (I l)) 0=G:=by
   cases w:ze (zl 0 (I l)) 0 with
   |false=>rfl
   |true=>have:=Nat.le_of_ble_eq_true w;have:0+I l<=0:=this;omega
  rw[this];show kO h 31 (0+I l) (il [] (zF D l))=_;rw[xF];rfl
def aaI:VX Z prog 297 31 Y (λl:List zA=>l≠[]/\I l<=1073741824) (λl=>[al l]) (λl=>zF D l) (λb l=>zL (pO b) (I l) (I l)):=by
 rintro l ⟨c,g⟩ h;have e:=asq (h:=H.e.w (ad [] 31)) (b:=0) (l:=l) (by simp) (by simp) g c
 have i:∀h,fu Z h .eql 29 (vG 3) (.const (zL U 0 0)) (O (al l)) (O (zL U 0 0))=.v (zP G) h:=λh=>by
  cases l with
  |nil=>exact absurd rfl c
  |cons x l=>exact aud h x l
 simp at e
 have d:=dx (T:=Z) (C:=cg) (args:=[al l]) (h:=H.e) (n:=3) (vs:=[zL (pO 1) (I l) (I l)]) (h2:=(H.e.w (ad [] 31)).w (K (zF D l) 31 Y)) (ab:=U) F297 rfl rfl (by simp[f297,i,asp,e,an])
 refine Nj tok (pI tok aW _) (.Cs (fb l) .Nl) d (b0:=1) (c1:=zF D l) (e:=31) (gr:=Y) (by simp) (DL.pure ?_) (.slice 0 _ _) λm a j=>?_
 .have:∀l:List zA,bX (zF D l):=by
   intro l;induction l with
   |nil=>exact .Nl
   |cons x l k=>
    show bX (ah (D x)++zF D l);rw[dP];exact(ow x).append k
  exact this l
 .rcases j.lk with⟨o,_,f,_⟩|⟨_,_,o,_,f,_⟩
  .rw[f];simp
  .rw[f];simp
def F301:Z.f 301=O f301:=by kernel_rfl
section
variable(env:List zB){sb:zA->List zA->zA×Int}
def Ox(x:Int×zA×List zA):Prop:=C3 (x.1,x.2.1,x.2.2.reverse)/\x.2.2≠[]
def apW(v:BR sb):aLk env 301 Ox KZ (λx=>x.1) (λx=>x.1-1) (λx=>ij sb (x.1,x.2.1,x.2.2.reverse)):=by
 rintro⟨l,t,c⟩ ⟨s,i⟩ h b w;have s:C3 (l,t,c.reverse):=s;have i:c≠[]:=i;have W:I c<=60000:=by have:=s.2.2.2;simpa using this
 obtain⟨C,F,k,o,p⟩:∃C,aR Z prog C/\C 256=nP (Ij env) (Ik sb env)/\C 297=aLf 31 Y (λl:List zA=>l≠[]/\I l<=1073741824) (λl=>[al l]) (λl=>zF D l) (λb l=>zL (pO b) (I l) (I l))/\
  bQ C 102 31 Y (λl:List zA=>I l<1073741824) (λb l=>[zL (pO b) (I l) (I l)]) (λl=>zF D l) (λl=>zF D l.reverse) (λ_=>.ret (xC #[])):=
  ⟨_,MX (Jv (iv aW YF) aaI) (abz env v),rfl,rfl,bQ.skip (by decide) (bQ.skip (by decide) (bQ.add λb X x y e=>by simp at e;refine⟨e.1,λL=>?_⟩;have:=mH.G1 (λa b h=>by rw[dP,dP]at h;exact CL h) L;subst this;exact⟨rfl,rfl⟩))⟩
 have f:∀n m,af Z C n (aj 297 [al c] m)=.r (zL (pO m.n) (I c) (I c)) (m.w (K (zF D c) 31 Y)) U:=λn m=>Ta o (λx y e=>by simp at e;exact mN e) n (x:=c) ⟨i,by omega⟩ m;have g:∀n(m:H) b,ae m b (K (zF D c) 31 Y)->af Z C n (aj 102 [zL (pO b) (I c) (I c)] m)=.r (xC #[]) (m.p b (K (zF D c.reverse) 31 Y)) U:=λn m b M=>p.ev (T:=Z) n (x:=c) (by omega) M
 have kf:∀n(m:H),ae m 0 (ad (mc env l) 320)->ae m 3 (K (zF D c.reverse) 31 Y)->af Z C n (aj 256 [pB 0,D t,zL (pO 3) (I c) (I c)] m)=(ij sb (l,t,c.reverse)).bi ((m.bx [3]).p 0 (ad (mc env (l-1)) 320)):=λn m N P=>by have:=abA env (sb:=sb) k n (b:=0) (B:=3) (gr:=Y) s (by decide) N P;rw[List.length_reverse]at this;exact this
 refine gJ.toM (a0:=KZ 0 (l,t,c)) (C:=C) (n:=3) tok F (lm F301 rfl rfl ?_) (.Cs (.ptr 0) (.Cs (.pure (bg t)) (.Cs (.pure (fb c)) .nil))) (λm Q q=>nV m Q q) (iI env l) (iI env (l-1)) w;show ay (cn Z [yB 6 31] 320 G (ij sb (l,t,c.reverse)) (mc env (l-1))) (cn Z [yB 6 31] 320 G (ij sb (l,t,c.reverse)) (mc env (l-1))) ap (dD 320 G (ij sb (l,t,c.reverse)) (mc env (l-1))) _;have R:∀(m:H)(j:Nat),¬j=3->(m.bx [3]).g j=m.g j:=λm j S=>kQ (by simp;exact S);have V:∀m:H,m.b=0->(m.bx [3]).b=0:=λm w=>(rI w [3]).2.1;obtain⟨r,A⟩:∃r,ij sb (l,t,c.reverse)=r:=⟨_,rfl⟩;rw[A]at kf⊢
 have d:(∃u,r=.ret (D u))\/r=.aU eF:=by
  rw[<-A];unfold ij;split
  .exact .inr rfl
  .split
   .exact .inl ⟨_,rfl⟩
   .exact .inr rfl
 rcases d with⟨u,rfl⟩|rfl
 .simp[f,g,kf,MO.bi,R];exact cn.pure (bg u) (by simp[V])
 .simp[f,g,kf,MO.bi];exact dD.pure kn (by simp)
end
end Go.Proofs.YtpeialehpoilbaaGreat
namespace Go.Am.Eu
def zr:∀(l:List zA)(f:zA),zD (cF f l)=zD f+bA l+I l
 |[],f=>by simp[cF,bA]
 |a::l,f=>by rw[cF,zr l,kU,hG,hG,hG];simp[bA];omega
def akS:∀(N:Nat)(t:zA),zD t<N->zD t=zD (aM t)+bA (bt t)+I (bt t):=by
 intro N;induction N with
 |zero=>intro t h;omega
 |succ N f=>
  intro t i;unfold aM bt;by_cases h:t.w=4/\I t.M=2
  .let⟨g,d⟩:=h;cases c:t.M with
   |nil=>rw[c]at d;cases d
   |cons a r=>cases r with
    |nil=>rw[c]at d;cases d
    |cons b r=>cases r with
     |cons _ _=>rw[c]at d;simp at d
     |nil=>
      have e:=oQ c;have q:=f a (by omega);unfold aM bt at q;rw[Ko g c];simp only[tt,Gw,yD,wJ];rw[show bA [b]=zD b by simp[bA]];omega
  .rw[J5 h];simp[bA]
def En(t:zA):zD t=zD (aM t)+bA (bt t)+I (bt t):=akS _ t (yL _)
def aco{p:zA->Prop}:∀(N:Nat)(t:zA),zD t<N->aI p t->aI p (aM t)/\∀a∈bt t,aI p a:=by
 intro N;induction N with
 |zero=>intro t h;omega
 |succ N k=>
  intro t o g;unfold aM bt;by_cases h:t.w=4/\I t.M=2
  .let⟨l,d⟩:=h;cases c:t.M with
   |nil=>rw[c]at d;cases d
   |cons a r=>cases r with
    |nil=>rw[c]at d;cases d
    |cons b r=>cases r with
     |cons _ _=>rw[c]at d;simp at d
     |nil=>
      have e:=oQ c;have m:aI p a:=g.ld (by rw[c];simp);have n:aI p b:=g.ld (by rw[c];simp);let⟨i,j⟩:=k a (by omega) m;unfold aM at i;unfold bt at j;rw[Ko l c];refine⟨i,λx f=>?_⟩;simp only[tt,xX,yi]at f;rcases f with f|rfl
      .exact j x f
      .exact n
  .rw[J5 h];exact⟨g,λx f=>by cases f⟩
def aI.head{p:zA->Prop}(h:aI p a):aI p (aM a):=(aco _ a (yL _) h).1
def aI.args{p:zA->Prop}{t:zA}(h:aI p t):∀a∈bt t,aI p a:=(aco _ t (yL _) h).2
def GL(h:d∈y):zD d<=bA y:=by
 induction y with
 |nil=>cases h
 |cons a y b=>
  rw[hG];rcases zp.1 h with rfl|h
  .omega
  .have:=b h;omega
def cC.oK(c:aI cC d):∀{l:List zA},(∀a∈l,aI cC a)->aI cC (cF d l):=by
 intro l;induction l generalizing d with
 |nil=>intro _;exact c
 |cons a l e=>
  intro h;rw[cF];refine e (.mk ⟨by simp[zA.M,zA.w];decide,⟨by show 0<1000000;omega,λx b=>by cases b⟩,λx b=>by cases b⟩ λx b=>?_) λx b=>h x (by simp[b]);have b:x∈[d,a]:=b;rcases zp.1 b with rfl|b
  .exact c
  .rw[yi]at b;subst b;exact h _ (by simp)
inductive RC where
 |aU
 |no
 |yes (u:zA)
def RC.mo:RC->MO
 |.aU=>.aU eF
 |.no=>.ret (aTu [D zT,zP G])
 |.yes u=>.ret (aTu [D u,zP Y])
abbrev AD:Nat:=6000
def pe(l:Int)(a:Nat)(r:RC×Int):Prop:=match r.1 with
 |.aU=>True
 |.no=>0<=r.2/\r.2<=l
 |.yes u=>0<=r.2/\r.2<l/\aI cC u/\(zD u:Int)<=a+AD*(l-r.2)
instance:Inhabited (RC×Int):=⟨(.aU,0)⟩
end Go.Am.Eu
namespace Go.Proofs.YtpeialehpoilbaaGreat
def F285:Z.f 285=O f285:=by kernel_rfl
def O6:Array yH:=bq (z f285 pF1)
def aiP:f285.body=O (zS (z f285 pF0) (zS (yM 1 O6 Y) (zS (z f285 pF2) (zS (z f285 pF3) (z f285 pT4))))):=rfl
def UC:Tr Nat:=bj O6.toList 0 .Nl
def anB:aN (aE UC 16) 15=Y:=by kernel_rfl
section
variable(env:List zB){sb:zA->List zA->zA×Int}{lf:zA->List aB->zA×Int}
abbrev CX:=Int×cK×zA×List zA
abbrev aLl(b:Nat)(x:CX):List E:=[pB b,ee x.2.1,D x.2.2.1,al x.2.2.2]
structure PB(x:CX):Prop where
 IQ:iN x.1
 lv:∀v∈x.2.2.1.H,v.v=[]
 nl:I x.2.2.1.H<ao
 pw:((I x.2.2.1.H:Nat):Int)=x.2.1.params
 xs:∀a∈x.2.2.2,aI cC a
 sz:bA x.2.2.2+I x.2.2.2+(AD:Int)*x.1<=500000000
 ent:∃i,∃h:i<I env,x.2.1.decl=i/\r7 env[i] x.2.1
abbrev Lu(x:CX):Nat:=bA x.2.2.2+I x.2.2.2
def U7(g:FuncId)(a:CX->Prop):Prop:=∃f:CX->RC×Int,aLk env g a aLl (λx=>x.1) (λx=>(f x).2) (λx=>(f x).1.mo)/\∀x,a x->pe x.1 (Lu x) (f x)
def Lv(g:Nat->Option ai):DV g (aTu [aAg z5,zP G]) (aTu [D zT,zP G]):=.Tt (.Cs (rS _) ka)
def anC(hE:pX env)(L:Dh lf):U7 env 285 (λx=>PB env x/\x.2.1.kind=1):=by
 refine H2 (λx r=>mc env r.2) (λ_ r=>r.1.mo) (λx r=>pe x.1 (Lu x) r) ?_;rintro⟨l,e,t,f⟩ ⟨hx,hk⟩;let⟨X,M,N,w,P,eU,i,hi,hd,Lx⟩:=hx;have X:iN l:=X;have M:∀v∈t.H,v.v=[]:=M;have N:I t.H<ao:=N;have w:((I t.H:Nat):Int)=e.params:=w;have P:∀a∈f,aI cC a:=P;have eU:bA f+I f+(6000:Int)*l<=500000000:=eU;have hd:e.decl=i:=hd;have hk:e.kind=1:=hk;have hD:=hE.all env[i] (zW hi)
 have o:aI (jI (I t.H)) env[i].v/\zD env[i].v<=5000:=by
  cases Lx with
  |plain a d hp ht=>
   have hp:e.params=env[i].p:=hp;have d:e.kind=env[i].k:=d;have:=hD.value (by omega);have hh:env[i].p.toNat=I t.H:=by omega
   rw[hh]at this;exact this
  |family a d=>have d:e.kind=3:=d;omega
  |Di a d=>have d:e.kind=4:=d;omega
  |bD a d=>have d:e.kind=5:=d;omega
  |func a d=>have d:e.kind=6:=d;omega
 obtain⟨C,hC,U8,Ly,k79⟩:∃C,aR Z prog C/\Oq env C/\Has C 154 C2 (λx=>[D x.1,aO x.2]) (λx=>cj (lf x.1 x.2))/\Has C 79 (λx:zA×List zA=>I x.2<ao) (λx=>[D x.1,al x.2]) (λx=>D (cF x.1 x.2)):=
  ⟨_,iv (aZ (aZ aW J4) L.fn) (NF env),NG.add env,Has.Sk (by decide) (Has.Ad λx y e=>(by let⟨x1,x2⟩:=x;let⟨y1,y2⟩:=y;simp at e;rw[cf e.1,qy e.2])),Has.Sk (by decide) (Has.Sk (by decide) (Has.Ad λx y e=>(by let⟨x1,x2⟩:=x;let⟨y1,y2⟩:=y;simp at e;rw[cf e.1,mN e.2])))⟩
 have jF:C2 (env[i].v,t.H):=o.1.imp λu hu=>jI.Qh N M hu;have g:∀n(m:H),ae m 0 (ad (mc env l) 320)->af Z C n (aj 284 [pB 0] m)=(mz l).bi (m.p 0 (ad (mc env (l-1)) 320)):=λn m hg=>U8.ev (T:=Z) n (x:=l) X hg;have A:∀n m,af Z C n (aj 154 [D env[i].v,aO t.H] m)=.r (cj (lf env[i].v t.H)) m U:=λn m=>Ly.ev (T:=Z) n (x:=(env[i].v,t.H)) jF m;have Ww:I f<ao:=by have:=X.1;unfold ao;omega
 have px:∀n m u,af Z C n (aj 79 [D u,al f] m)=.r (D (cF u f)) m U:=λn m u=>k79.ev (T:=Z) n (x:=(u,f)) Ww m;have oI:=L.cl o.1;have Q:=L.nodes env[i].v t.H o.1;generalize hr:lf env[i].v t.H=r at A oI Q;let⟨u,er⟩:=r;obtain⟨R,B⟩:∃R:RC×Int,R=if er=0 then(if l-1<0 then(.aU,l-1)else(.yes (cF u f),l-1))else(.no,l):=⟨_,rfl⟩
 refine⟨R,?_,λh b F=>?_⟩
 .show pe l (bA f+I f) R;subst B;have:=X.1;split
  .split
   .trivial
   .refine⟨by show 0<=l-1;omega,by show l-1<l;omega,cC.oK oI P,?_⟩;show(zD (cF u f):Int)<=_;rw[zr];have Q:zD u<=zD env[i].v:=Q;show((zD u+bA f+I f:Nat):Int)<=(bA f+I f:Nat)+(6000:Nat)*(l-(l-1));omega
  .exact⟨by show 0<=l;omega,by show l<=l;omega⟩
 refine gJ.toM (a0:=aLl 0 (l,e,t,f)) (C:=C) (n:=3) tok hC (lm F285 aiP rfl ?_) (.Cs (.ptr 0) (.Cs (.pure (Ed e)) (.Cs (.pure (bg t)) (.Cs (.pure (fb f)) .nil)))) (λm a' q=>nV m a' q) (iI env l) (iI env R.2) F;show ay (cn Z [yB 8 31,yx 9] 320 G R.1.mo (mc env R.2)) (cn Z [yB 8 31,yx 9] 320 G R.1.mo (mc env R.2)) ap (dD 320 G R.1.mo (mc env R.2)) _;refine ax (Q0:=λj h=>h.b=0/\h.n=4/\ae h 0 (ad (mc env l) 320)/\ae h 1 (ad (ew e) 163)/\ae h 2 (ad (ah (D t)) 31)/\ae h 3 (ad z5 31)/\aa j 0 (pB 0)/\aa j 3 (al f)/\aa j 5 (pB 1)/\aa j 6 (pB 2)/\aa j 8 (pB 3)) ?_ λj h⟨F,hn,V,g1,g2,g3,t0,t3,t5,t6,W⟩=>?_
 .simp[z,f285];exact .mk ⟨by simp,by simp,by simp,by simp,by simp,by simp,by simp,by simp,by simp,by simp,by simp⟩
 refine ax (Q0:=λj h=>h.b=0/\h.n=5/\ae h 0 (ad (mc env l) 320)/\ae h 3 (ad z5 31)/\ae h 4 (ad (ah (D u)) 31)/\aa j 0 (pB 0)/\aa j 3 (al f)/\aa j 8 (pB 3)/\aa j 10 (pB 4)/\aa j 11 (J er)) ?_ λj h⟨F,hn,V,g3,g4,t0,t3,W,t10,S⟩=>?_
 .rw[eg,dJ];have Wx:=anB;have e0:bj O6.toList 0 .Nl=UC:=rfl;rw[e0];generalize UC=bs at*;have l0:0<h.n:=by omega
  have l1:1<h.n:=by omega
  have l2:2<h.n:=by omega
  have ix:=λ(h:H)=>Nm (h:=h) (k:=zx) hi;simp[O6,bq,z,f285,fT,fZ,t0,t5,t6,F,hn,V,g1,g2,KY,hd,ix,A,cV,cZ,cY,dc,dt,cO,cR,Wx];exact .mk ⟨by simp[F],by simp[hn],by simp[hn,V],by simp[hn,g3],by simp,by simp[t0],by simp[t3],by simp[W],by simp,by simp⟩
 have s:=λ(h0:H)(q:ae h0 3 (ad z5 31))=>fp (c:=z5) rfl rfl q rfl;have p:=fh (c:=z5) rfl;by_cases he:er=0
 .rw[if_pos he]at B;subst he;unfold mz at g;by_cases hc:l-1<0
  .rw[if_pos hc]at B;simp only[if_pos hc]at g;subst B;simp[z,f285,t0,S,V,g,MO.bi,an];exact dD.pure kn (by simp)
  .rw[if_neg hc]at B;simp only[if_neg hc]at g;subst B;simp[z,f285,t0,t3,W,t10,S,F,V,g3,g4,g,MO.bi,px,an];exact cn.pure (.Tt (.Cs (bg _) dF)) (by simp[W,F])
 .rw[if_neg he]at B;subst B;simp[z,f285,W,S,g3,he,an,jn,s];exact⟨rfl,rfl,aTu [aAg z5,zP G],_,_,rfl,by simp[W,F,p];rfl,Lv _,by simp[V]⟩
end
def abE:dj (D a)=D a:=by rw[eD];rfl
def RA(l:List zA):dj (al l)=al l:=by show zU (.via 0 #[] (I l) G) ⟨((l.map D).drop 0).take (I l)⟩ ⟨[]⟩=_;rw[yY,yI (by simp)];rfl
def ZO(a:List zA)(b:k<=I a):dj (cp (a.map D) 0 k [])=al (a.take k):=by
 show zU (.via 0 #[] k G) ⟨((a.map D).drop 0).take k⟩ ⟨[]⟩=_;rw[yY,<-List.map_take];have:I (a.take k)=k:=by simp;omega
 unfold al;rw[this]
abbrev Qj:List E->H->Option ag:=HZ (gq (λx:zA×List zA=>I x.2<ao) (λx=>[D x.1,al x.2]) (λx=>D (cF x.1 x.2)))
def aaJ(c:C 79=Qj)(n:Nat)(d:dj v=al y)(g:I y<ao)(m:H):af Z C n (aj 79 [D a,v] m)=.r (D (cF a y)) m U:=
 TJ c n (by show gq _ _ _ [dj (D a),dj v] m=_;rw[abE,d];exact Bl (pre:=λx:zA×List zA=>I x.2<ao) (enc:=λx=>[D x.1,al x.2]) (f:=λx=>D (cF x.1 x.2)) (λx b e=>by let⟨h,i⟩:=x;let⟨j,k⟩:=b;simp at e;rw[cf e.1,mN e.2]) (x:=(a,y)) g m)
def Yb(a:aR Z prog C):aR Z prog (bY 79 Qj C):=Q4 (aZ a J4)
def F300:Z.f 300=O f300:=by kernel_rfl
def Oy:Array yH:=bq (z f300 pF3)
def Oz:Array yH:=bq (z f300 pF6)
def N4:Array yH:=bq (z f300 pF8)
def aiQ:f300.body=O (zS (z f300 pF0) (zS (z f300 pF1) (zS (z f300 pF2) (zS (yM 4 Oy Y) (zS (z f300 pF4) (zS (z f300 pF5) (zS (yM 8 Oz Y) (zS (z f300 pF7) (zS (yM 10 N4 Y) .ret))))))))):=rfl
def TV:Tr Nat:=bj Oy.toList 0 .Nl
def akT:aN (aE TV 13) 12=Y:=by kernel_rfl
def Kz:Tr Nat:=bj Oz.toList 0 .Nl
def abF:Tr Nat:=bj N4.toList 0 .Nl
def akU:(aN (aE Kz 11) 0&&aN (aE Kz 11) 3&&aN (aE Kz 11) 6)=Y:=by kernel_rfl
section
variable(env:List zB){lf:zA->List aB->zA×Int}
abbrev IX:=Int×zB×zA×List zA×zA
abbrev PC(b:Nat)(x:IX):List E:=[pB b,bI x.2.1,D x.2.2.1,al x.2.2.2.1,D x.2.2.2.2]
structure Lz(x:IX):Prop where
 IQ:iN x.1
 d:x.2.1∈env
 lv:∀v∈x.2.2.1.H,v.v=[]
 nl:I x.2.2.1.H<ao
 pw:((I x.2.2.1.H:Nat):Int)=x.2.1.bD.params
 xs:∀a∈x.2.2.2.1,aI cC a
 sz:bA x.2.2.2.1+I x.2.2.2.1<=500000000
 mj:aI cC x.2.2.2.2/\zD x.2.2.2.2<=500000000
 lt:BT x.2.1<I x.2.2.2.1
def ju(d:zB):Nat:=d.f.toNat+1+I d.aY
def dk(d:zB):Nat:=ju d+(I (cQ d.t).1-d.f.toNat)
def acp{d:zB}(h:TS d):BT d=dk d:=by
 have b:=h.fixed;have i:=h.type.2;have j:=h.Qi;obtain⟨k,c⟩:∃k:Nat,d.f=k:=⟨_,(wk b.1).symm⟩;unfold BT dk ju;rw[c]at b⊢;have e:aL ((k:Int)+1)=(k:Int)+1:=Ag (by omega) (by omega);have f:aL ((k:Int)+1+I d.aY)=(k:Int)+1+I d.aY:=Ag (by omega) (by omega);rw[e,f];by_cases g:k<I (cQ d.t).1
 .have a:aL ((I (cQ d.t).1:Int)-k)=(I (cQ d.t).1:Int)-k:=Ag (by omega) (by omega);rw[a,if_pos (by omega),Ag (by omega) (by omega)];simp;omega
 .have a:¬0<aL ((I (cQ d.t).1:Int)-k):=by
   have:aL ((I (cQ d.t).1:Int)-k)=(I (cQ d.t).1:Int)-k:=by unfold aL;simp[IntKind.wrap,IntKind.bits,IntKind.signed];omega
   omega
  rw[if_neg a,Ag (by omega) (by omega)];simp;omega
def LA(x:IX):Nat:=bA (x.2.2.2.1.take (ju x.2.1))+ju x.2.1+bA (x.2.2.2.1.drop (dk x.2.1+1))+(I x.2.2.2.1-(dk x.2.1+1))+zD x.2.2.2.2
def apX(hE:pX env)(py:Dh lf):∃f:IX->RC×Int,aLk env 300 (Lz env) PC (λx=>x.1) (λx=>(f x).2) (λx=>(f x).1.mo)/\∀x,Lz env x->pe x.1 (LA x) (f x):=by
 refine H2 (λx r=>mc env r.2) (λ_ r=>r.1.mo) (λx r=>pe x.1 (LA x) r) ?_;rintro⟨l,d,t,F,M⟩ ⟨hl,hd,oL,oe,LB,iO,eU,⟨FV,PX⟩,cA⟩;have hl:iN l:=hl;have hd:d∈env:=hd;have oL:∀v∈t.H,v.v=[]:=oL;have oe:I t.H<ao:=oe;have LB:((I t.H:Nat):Int)=d.bD.params:=LB;have iO:∀a∈F,aI cC a:=iO;have eU:bA F+I F<=500000000:=eU;have FV:aI cC M:=FV;have PX:zD M<=500000000:=PX;have hD:=hE.all d hd;have PD:=acp hD;have cA:BT d<I F:=cA;have Ww:I F<ao:=by unfold ao;omega
 have hal:ju d<=I F:=by have:ju d<=dk d:=by unfold dk;omega
                        omega
 obtain⟨C,hC,U9,U8,Ly,Va,Wy⟩:∃C,aR Z prog C/\bQ C 298 320 G (λx:Int×zA=>zD x.2<1073741824) nI (λx=>mc env x.1) (λx=>mc env x.1) (λx=>.ret (ry (fB env x.2)))/\Oq env C/\Has C 154 C2 (λx=>[D x.1,aO x.2]) (λx=>cj (lf x.1 x.2))/\
  Has C 281 (λd:zB=>zD d.t<1073741824) (λd=>[bI d]) (λd=>J (BT d))/\C 79=Qj:=
  ⟨_,iv (iv (aZ (aZ (Yb aW) XR) py.fn) (NF env)) (abD env hE),bQ.add λb b' x y e=>(by
     simp at e;refine⟨e.1,λe2=>?_⟩;have e2:x.1=y.1:=by simpa using e2
     rw[cf e.2];exact⟨rfl,by show mc env x.1=mc env y.1;rw[e2]⟩),bQ.skip (by decide) (NG.add env),Has.Sk (by decide) (Has.Sk (by decide) (Has.Ad λx y e=>(by let⟨x1,x2⟩:=x;let⟨y1,y2⟩:=y;simp at e;rw[cf e.1,qy e.2]))),Has.Sk (by decide) (Has.Sk (by decide) (Has.Sk (by decide) (Has.Ad λx y e=>(by simp at e;rw[Af e])))),rfl⟩
 have adY:∀n(m:H),ae m 0 (ad (mc env l) 320)->af Z C n (aj 298 [pB 0,D M] m)=.r (ry (fB env M)) (m.p 0 (ad (mc env l) 320)) U:=λn m hg=>U9.ev (T:=Z) n (x:=(l,M)) (show zD M<1073741824 by omega) hg;have LC:∀n(m:H),ae m 0 (ad (mc env l) 320)->af Z C n (aj 284 [pB 0] m)=(mz l).bi (m.p 0 (ad (mc env (l-1)) 320)):=λn m hg=>U8.ev (T:=Z) n (x:=l) hl hg;have Vb:∀n m,af Z C n (aj 281 [bI d] m)=.r (J (dk d:Nat)) m U:=λn m=>by rw[<-PD];exact Va.ev (T:=Z) n (x:=d) hD.type.1 m
 have px:∀n m u v zs,dj v=al zs->I zs<ao->af Z C n (aj 79 [D u,v] m)=.r (D (cF u zs)) m U:=λn m u v zs hv hz=>aaJ Wy n hv hz m;have BU:∀n m u,aI (jI (I t.H)) u->af Z C n (aj 154 [D u,aO t.H] m)=.r (cj (lf u t.H)) m U:=λn m u hu=>Ly.ev (T:=Z) n (x:=(u,t.H)) (hu.imp λu hu=>jI.Qh oe oL hu) m;have p:=fh (c:=z5) rfl;have s3:=λ(h0:H)(q:ae h0 4 (ad z5 31))=>fp (c:=z5) rfl rfl q rfl
 have no:∀(L:Tr E)(h:H),aa L 10 (pB 4)->aa L 11 (zP G)->h.b=0->ae h 0 (ad (mc env l) 320)->ae h 4 (ad z5 31)->cn Z [yB 10 31,yx 11] 320 G RC.no.mo (mc env l) ⟨L,[],h,U⟩:=λL h w t11 N g0 g4=>
  ⟨rfl,rfl,aTu [aAg z5,zP G],_,h,rfl,by simp[w,t11,N,g4,p],Lv _,g0⟩
 have run:∀R:RC×Int,(fB env M=U->R=(.no,l))->(∀B j A,fB env M=O (B,j,A)->¬(B.n=d.n/\j<I d.bD.rules)->R=(.no,l))->
  (∀B j A(hj:j<I d.bD.rules),fB env M=O (B,j,A)->B.n=d.n->¬(lf d.bD.rules[j] t.H).2=0->R=(.no,l))->
  (∀B j A(hj:j<I d.bD.rules),fB env M=O (B,j,A)->B.n=d.n->(lf d.bD.rules[j] t.H).2=0->R=if l-1<0 then(.aU,l-1)else(.yes (cF (cF (cF (lf d.bD.rules[j] t.H).1 (F.take (ju d))) (A.drop B.f.toNat)) (F.drop (dk d+1))),l-1))->
  ∀h b,ae h b (ad (mc env l) 320)->bP Z prog (zU (.func 300) #[] #[]) (PC b (l,d,t,F,M)) h U (R.1.mo.bi (h.p b (ad (mc env R.2) 320))):=by
  intro R r1 r2 r3 r4 h b N;refine gJ.toM (a0:=PC 0 (l,d,t,F,M)) (C:=C) (n:=3) tok hC (lm F300 aiQ rfl ?_) (.Cs (.ptr 0) (.Cs (.pure (kM d)) (.Cs (.pure (bg t)) (.Cs (.pure (fb F)) (.Cs (.pure (bg M)) .nil))))) (λm a' q=>nV m a' q) (iI env l) (iI env R.2) N;show ay (cn Z [yB 10 31,yx 11] 320 G R.1.mo (mc env R.2)) (cn Z [yB 10 31,yx 11] 320 G R.1.mo (mc env R.2)) ap (dD 320 G R.1.mo (mc env R.2)) _;refine ax (Q0:=λL h=>h.b=0/\h.n=5/\ae h 0 (ad (mc env l) 320)/\ae h 1 (ad (cN d) 38)/\ae h 2 (ad (ah (D t)) 31)/\ae h 3 (ad (ah (D M)) 31)/\ae h 4 (ad z5 31)/\aa L 0 (pB 0)/\aa L 3 (al F)/\aa L 6 (pB 1)/\aa L 7 (pB 2)/\aa L 9 (pB 3)/\aa L 10 (pB 4)) ?_ λL h⟨N,W,g0,g1,g2,g3,g4,t0,t3,V,t7,t9,w⟩=>?_
  .simp[z,f300];exact .mk ⟨by simp,by simp,by simp,by simp,by simp,by simp,by simp,by simp,by simp,by simp,by simp,by simp,by simp⟩
  obtain⟨B,j,fv,ok,Wz,hz⟩:∃B j fv ok,ry (fB env M)=aTu [bI B,J (j:Nat),fv,zP ok]/\((ok=G/\fB env M=U)\/(ok=Y/\∃A,fv=iZ A B.f.toNat/\fB env M=O (B,j,A))):=by
   cases hc:fB env M with
   |none=>exact⟨D0,0,_,G,rfl,.inl ⟨rfl,rfl⟩⟩
   |some r=>let⟨B,j,A⟩:=r;exact⟨B,j,_,Y,rfl,.inr ⟨rfl,A,rfl,rfl⟩⟩
  rw[Wz]at adY
  refine ax (Q0:=λL h=>h.b=0/\h.n=6/\ae h 0 (ad (mc env l) 320)/\ae h 1 (ad (cN d) 38)/\ae h 2 (ad (ah (D t)) 31)/\ae h 4 (ad z5 31)/\ae h 5 (ad (cN B) 38)/\aa L 0 (pB 0)/\aa L 3 (al F)/\aa L 6 (pB 1)/\aa L 7 (pB 2)/\aa L 10 (pB 4)/\
   aa L 12 (pB 5)/\aa L 13 (J (j:Nat))/\aa L 14 fv/\aa L 15 (zP ok)) ?_ λL h⟨N,W,g0,g1,g2,g4,g5,t0,t3,V,t7,w,t12,t13,Q,t15⟩=>?_
  .have s:=λ(h0:H)(q:ae h0 5 (ad fS 38))=>Ey (x:=B) q rfl;simp[z,f300,t0,t9,N,W,g0,g3,adY,s];exact .mk ⟨by simp[N],by simp[W],by simp[W],by simp[W,g1],by simp[W,g2],by simp[W,g4],by simp,by simp[t0],by simp[t3],by simp[V],by simp[t7],by simp[w],by simp,by simp,by simp,by simp⟩
  refine ax (Q0:=λo P=>(ok=Y/\B.n=d.n/\j<I d.bD.rules)/\P=h/\aa o 0 (pB 0)/\aa o 3 (al F)/\aa o 6 (pB 1)/\aa o 7 (pB 2)/\aa o 10 (pB 4)/\aa o 13 (J (j:Nat))/\aa o 14 fv) ?_ λfQ h1⟨⟨jF,X,hj⟩,e1,t0,t3,V,t7,w,t13,Q⟩=>?_
  .by_cases jF:ok=Y
   .obtain⟨A,_,i⟩:∃A,fv=iZ A B.f.toNat/\fB env M=O (B,j,A):=by
     rcases hz with⟨h1,_⟩|⟨_,h2⟩
     .rw[jF]at h1;cases h1
     .exact h2
    by_cases X:B.n=d.n
    .by_cases hj:j<I d.bD.rules
     .have Gf:¬(I d.bD.rules:Int)<=(j:Int):=by omega
      simp[z,f300,V,t12,t13,t15,N,g1,g5,jF,X,Gf,an];exact .mk ⟨hj,rfl,by simp[t0],by simp[t3],by simp[V],by simp[t7],by simp[w],by simp[t13],by simp[Q]⟩
     .have Gf:(I d.bD.rules:Int)<=(j:Int):=by omega
      have:=r2 B j A i (λq=>hj q.2);subst this;simp[z,f300,V,w,t12,t13,t15,N,g1,g4,g5,jF,X,Gf,an,jn,s3];exact no _ _ (by simp[w]) (by simp) (by simp[N]) (by simp[g0]) (by simp)
    .have:=r2 B j A i (λq=>X q.1);subst this;simp[z,f300,V,w,t12,t13,t15,N,g1,g4,g5,jF,X,an,jn,s3];exact no _ _ (by simp[w]) (by simp) (by simp[N]) (by simp[g0]) (by simp)
   .have awp:ok=G:=by simpa using jF
    have i:fB env M=U:=by
     rcases hz with⟨_,h2⟩|⟨h1,_⟩
     .exact h2
     .exact absurd h1 jF
    have:=r1 i;subst this;simp[z,f300,V,w,t12,t13,t15,g4,awp,an,jn,s3];exact no _ _ (by simp[w]) (by simp) (by simp[N]) (by simp[g0]) (by simp)
  subst e1
  obtain⟨A,hfv,i⟩:∃A,fv=iZ A B.f.toNat/\fB env M=O (B,j,A):=by
   rcases hz with⟨h1,_⟩|⟨_,h2⟩
   .rw[jF]at h1;cases h1
   .exact h2
  subst hfv;have Qk:=hD.rules _ (zW hj)
  have Cg:aI (jI (I t.H)) d.bD.rules[j]:=by
   have hh:d.bD.params.toNat=I t.H:=by omega
   have:=Qk.1;rw[hh]at this;exact this
  have r3:=r3 B j A hj i X;have r4:=r4 B j A hj i X;have BU:=λn m=>BU n m _ Cg;generalize lf d.bD.rules[j] t.H=r at r3 r4 BU;let⟨u,er⟩:=r
  refine ax (Q0:=λL h=>h.b=0/\h.n=7/\ae h 0 (ad (mc env l) 320)/\ae h 1 (ad (cN d) 38)/\ae h 4 (ad z5 31)/\ae h 6 (ad (ah (D u)) 31)/\aa L 0 (pB 0)/\aa L 3 (al F)/\aa L 6 (pB 1)/\aa L 10 (pB 4)/\aa L 14 (iZ A B.f.toNat)/\
   aa L 16 (pB 6)/\aa L 17 (J er)) ?_ λL h⟨N,W,g0,g1,g4,g6,t0,t3,V,w,Q,S,t17⟩=>?_
  .rw[eg,dJ];have WA:=akT;have e0:bj Oy.toList 0 .Nl=TV:=rfl;rw[e0];generalize TV=bs at*;have l1:1<h1.n:=by omega
   have l2:2<h1.n:=by omega
   have ix:=λ(h:H)=>nu (h:=h) (k:=zx) hj;simp[Oy,bq,z,f300,V,t7,t13,N,W,g1,g2,ix,BU,cV,cZ,cY,dc,dt,cO,cR,WA];exact .mk ⟨by simp[N],by simp[W],by simp[W,g0],by simp[W,g1],by simp[W,g4],by simp,by simp[t0],by simp[t3],by simp[V],by simp[w],by simp[Q],by simp,by simp⟩
  by_cases he:er=0
  .have r4:=r4 he;subst he;refine ax (Q0:=λo P=>P=h/\aa o 0 (pB 0)/\aa o 3 (al F)/\aa o 6 (pB 1)/\aa o 10 (pB 4)/\aa o 14 (iZ A B.f.toNat)/\aa o 16 (pB 6)) ?_ λjH h2⟨e1,t0,t3,V,w,Q,S⟩=>?_
   .simp[z,f300,t17,an];exact .mk ⟨rfl,by simp[t0],by simp[t3],by simp[V],by simp[w],by simp[Q],by simp[S]⟩
   subst e1;unfold mz at LC;by_cases hc:l-1<0
   .rw[if_pos hc]at r4;simp only[if_pos hc]at LC;subst r4;refine ax (Q0:=λ_ _=>False) ?_ λ_ _ q=>q.elim;simp[z,f300,t0,g0,LC,MO.bi];exact dD.pure kn (by simp)
   .rw[if_neg hc]at r4;simp only[if_neg hc]at LC;subst r4;refine ax (Q0:=λo P=>P.b=0/\P.n=7/\ae P 0 (ad (mc env (l-1)) 320)/\ae P 1 (ad (cN d) 38)/\ae P 4 (ad z5 31)/\ae P 6 (ad (ah (D u)) 31)/\aa o 3 (al F)/\aa o 6 (pB 1)/\aa o 10 (pB 4)/\aa o 14 (iZ A B.f.toNat)/\aa o 16 (pB 6)) ?_ λru h3⟨N,W,g0,g1,g4,g6,t3,V,w,Q,S⟩=>?_
    .simp[z,f300,t0,g0,LC,MO.bi];exact .mk ⟨by simp[N],by simp[W],by simp,by simp[g1],by simp[g4],by simp[g6],by simp[t3],by simp[V],by simp[w],by simp[Q],by simp[S]⟩
    have wa:aL (aL (d.f+1)+I d.aY)=(ju d:Nat):=by have h1:=hD.fixed;have h3:=hD.Qi;rw[Ag (x:=d.f+1) (by omega) (by omega),Ag (by omega) (by omega)];unfold ju;omega
    have n1:∀k u,af Z C k (aj 79 [D u,cp (F.map D) 0 (ju d) []] h3.f)=.r (D (cF u (F.take (ju d)))) h3.f U:=λk u=>px k _ u _ _ (ZO F hal) (by simp;omega);refine ax (Q0:=λo P=>P.b=0/\P.n=7/\ae P 0 (ad (mc env (l-1)) 320)/\ae P 1 (ad (cN d) 38)/\ae P 4 (ad z5 31)/\ae P 6 (ad (ah (D (cF u (F.take (ju d))))) 31)/\aa o 3 (al F)/\aa o 6 (pB 1)/\aa o 10 (pB 4)/\aa o 14 (iZ A B.f.toNat)/\aa o 16 (pB 6)) ?_ λCb h4⟨N,W,g0,g1,g4,g6,t3,V,w,Q,S⟩=>?_
    .rw[eg,dJ];have bo:=akU;simp only[zX]at bo;let⟨⟨b0,b3⟩,b6⟩:=bo;have e0:bj Oz.toList 0 .Nl=Kz:=rfl;rw[e0];generalize Kz=bs at*;have l1:1<h3.n:=by omega
     have l6:6<h3.n:=by omega
     simp[Oz,bq,z,f300,t3,V,S,N,g1,g6,l1,l6,wa,bounds,iV,Tl hal,n1,cV,cZ,cY,dc,dt,cO,cR,b0,b3,b6];exact .mk ⟨by simp[N],by simp[W],by simp[g0],by simp[g1],by simp[g4],by simp,by simp[t3],by simp[V],by simp[w],by simp[Q],by simp[S]⟩
    generalize cF u (F.take (ju d))=u1 at*
    have hyl:I A<ao:=by
     have hy:A=bt M:=by
      unfold fB at i;split at i
      .split at i
       .split at i
        .injection i with i;injection i with _ i;injection i with _ i;exact i.symm
        .cases i
       .cases i
      .cases i
     have:=En M;rw[hy];unfold ao;omega
    have n2:∀k m u,af Z C k (aj 79 [D u,iZ A B.f.toNat] m)=.r (D (cF u (A.drop B.f.toNat))) m U:=λk m u=>px k m u _ _ (NH A _) (by simp;omega);refine ax (Q0:=λo P=>P.b=0/\P.n=7/\ae P 0 (ad (mc env (l-1)) 320)/\ae P 1 (ad (cN d) 38)/\ae P 4 (ad z5 31)/\ae P 6 (ad (ah (D (cF u1 (A.drop B.f.toNat)))) 31)/\aa o 3 (al F)/\aa o 6 (pB 1)/\aa o 10 (pB 4)/\aa o 16 (pB 6)) ?_ λIK h5⟨N,W,g0,g1,g4,g6,t3,V,w,S⟩=>?_
    .simp[z,f300,Q,S,N,g6,n2];exact .mk ⟨by simp[N],by simp[W],by simp[g0],by simp[g1],by simp[g4],by simp,by simp[t3],by simp[V],by simp[w],by simp[S]⟩
    generalize cF u1 (A.drop B.f.toNat)=u2 at*;have hsl:dk d+1<=I F:=by omega
    obtain⟨g,hK⟩:∃g,dk d+1=g:=⟨_,rfl⟩;have ws:aL ((dk d:Int)+1)=(g:Nat):=by rw[Ag (by omega) (by omega)];omega
    rw[hK]at hsl;rw[hK];have n3:∀k u,af Z C k (aj 79 [D u,iZ F g] h5.f)=.r (D (cF u (F.drop g))) h5.f U:=λk u=>px k _ u _ _ (NH F _) (by simp;omega);rw[run_seq,eg,dJ];have e0:bj N4.toList 0 .Nl=abF:=rfl;rw[e0];generalize abF=bs at*;have l1:1<h5.n:=by omega
    have l4:4<h5.n:=by omega
    have l6:6<h5.n:=by omega
    simp[N4,bq,z,f300,t3,V,w,S,N,g1,g4,g6,l1,l4,l6,Vb,ws,bounds,iV,JO hsl,n3,cV,cZ,cY,dc,dt,cO,cR];exact cn.pure (d:=aTu [D (cF u2 (F.drop g)),zP Y]) (.Tt (.Cs (bg _) dF)) (by simp[w,N,g0])
  .have r3:=r3 he;subst r3;refine ax (Q0:=λ_ _=>False) ?_ λ_ _ q=>q.elim;simp[z,f300,w,t17,g4,he,an,jn,s3];exact no _ _ (by simp[w]) (by simp) (by simp[N]) (by simp[g0]) (by simp)
 have ph:=hl.1;have Il:pe l (LA (l,d,t,F,M)) (.no,l):=⟨ph,Int.le_refl _⟩;cases i:fB env M with
 |none=>
  refine⟨(.no,l),Il,run _ (λ_=>rfl) (λ_ _ _ q=>?_) (λ_ _ _ _ q=>?_) (λ_ _ _ _ q=>?_)⟩
  .rw[i]at q;cases q
  .rw[i]at q;cases q
  .rw[i]at q;cases q
 |some r=>
  let⟨B,j,A⟩:=r
  have inj:∀{d2 j2 Gg},fB env M=O (d2,j2,Gg)->d2=B/\j2=j/\Gg=A:=λq=>by rw[i]at q;injection q with q;injection q with q1 q;injection q with q2 q3;exact⟨q1.symm,q2.symm,q3.symm⟩
  by_cases hg:B.n=d.n/\j<I d.bD.rules
  .let⟨X,hj⟩:=hg;by_cases he:(lf d.bD.rules[j] t.H).2=0
   .refine⟨if l-1<0 then(.aU,l-1)else(.yes (cF (cF (cF (lf d.bD.rules[j] t.H).1 (F.take (ju d))) (A.drop B.f.toNat)) (F.drop (dk d+1))),l-1),?_,run _ (λq=>?_) (λd2 j2 Gg q k=>?_) (λd2 j2 Gg Ql q _ k=>?_) (λd2 j2 Gg Ql q _ _=>?_)⟩
    .split
     .trivial
     .have Qk:=hD.rules _ (zW hj)
      have Cg:aI (jI (I t.H)) d.bD.rules[j]:=by
       have hh:d.bD.params.toNat=I t.H:=by omega
       have:=Qk.1;rw[hh]at this;exact this
      have oI:=py.cl Cg;have rm:=py.nodes _ _ Cg
      have hy:A=bt M:=by
       unfold fB at i;split at i
       .split at i
        .split at i
         .injection i with i;injection i with _ i;injection i with _ i;exact i.symm
         .cases i
        .cases i
       .cases i
      have hya:∀a∈A,aI cC a:=by rw[hy];exact FV.args
      refine⟨by show 0<=l-1;omega,by show l-1<l;omega,cC.oK (cC.oK (cC.oK oI λa ha=>iO a (List.mem_of_mem_take ha)) λa ha=>hya a (xf ha)) λa ha=>iO a (xf ha),?_⟩;show(zD (cF (cF (cF (lf d.bD.rules[j] t.H).1 (F.take (ju d))) (A.drop B.f.toNat)) (F.drop (dk d+1))):Int)<=(LA (l,d,t,F,M):Nat)+(6000:Nat)*(l-(l-1));rw[zr,zr,zr]
      have IA:bA (A.drop B.f.toNat)+I (A.drop B.f.toNat)<=zD M:=by
       have h1:=En M;rw[<-hy]at h1;have h2:bA A=bA (A.take B.f.toNat)+bA (A.drop B.f.toNat):=by rw[<-Gw,List.take_append_drop]
       have h3:I (A.drop B.f.toNat)<=I A:=by simp
       omega
      have htk:I (F.take (ju d))=ju d:=by simp;omega
      have Mc:I (F.drop (dk d+1))=I F-(dk d+1):=by simp
      have aI9:=Qk.2;rw[htk,Mc];unfold LA;show((zD (lf d.bD.rules[j] t.H).1+bA (F.take (ju d))+ju d+bA (A.drop B.f.toNat)+I (A.drop B.f.toNat)+bA (F.drop (dk d+1))+(I F-(dk d+1)):Nat):Int)<=(bA (F.take (ju d))+ju d+bA (F.drop (dk d+1))+(I F-(dk d+1))+zD M:Nat)+(6000:Nat)*(l-(l-1));omega
    .rw[i]at q;cases q
    .obtain⟨rfl,rfl,rfl⟩:=inj q;exact absurd ⟨X,hj⟩ k
    .obtain⟨rfl,rfl,rfl⟩:=inj q;exact absurd he k
    .obtain⟨rfl,rfl,rfl⟩:=inj q;rfl
   .refine⟨(.no,l),Il,run _ (λq=>?_) (λ_ _ _ _ _=>rfl) (λ_ _ _ _ _ _ _=>rfl) (λd2 j2 Gg Ql q _ k=>?_)⟩
    .rfl
    .obtain⟨rfl,rfl,rfl⟩:=inj q;exact absurd k he
  .refine⟨(.no,l),Il,run _ (λq=>?_) (λ_ _ _ _ _=>rfl) (λ_ _ _ _ _ _ _=>rfl) (λd2 j2 Gg Ql q k _=>?_)⟩
   .rfl
   .obtain⟨rfl,rfl,rfl⟩:=inj q;exact absurd ⟨k,Ql⟩ hg
end
end Go.Proofs.YtpeialehpoilbaaGreat
namespace Go.Am.Eu
abbrev TZ:Tree:=.mk 0 T0 0 []
abbrev z8:List E:=[J 0,J 0,J 0,zN ⟨#[]⟩,zL U 0 0,zL U 0 0,J 0,zL U 0 0]
def Gh:Option Tree->E
 |none=>aTu [dU TZ,zP G]
 |some t=>aTu [dU t,zP Y]
def asr(g:Nat->Option ai):DV g (aAg z8) (dU TZ):=by have b:∀g,DV g (zL U 0 0) (cp [] 0 0 []):=λg=>.cP;have a:∀g n,DV g (J n) (J n):=λg n=>.Pu bJ;have c:∀g s,DV g (zN s) (zN s):=λg s=>.Pu bJ;show DV g _ (aAg (du _));rw[iH];exact .agg (.Cs (a _ _) (.Cs (a _ _) (.Cs (a _ _) (.Cs (c _ _) (.Cs (b _) (.Cs (b _) (.Cs (a _ _) (.Cs (b _) .Nl))))))))
end Go.Am.Eu
namespace Go.Proofs.YtpeialehpoilbaaGreat
def F299:Z.f 299=O f299:=by kernel_rfl
def F308:Z.f 308=O f308:=by kernel_rfl
def F309:Z.f 309=O f309:=by kernel_rfl
@[simp] theorem aJa:zero Z 177=O (aAg [zN ⟨#[]⟩,zP G,J 0,J 0,J 0,zN ⟨#[]⟩,zL U 0 0,zL U 0 0,J 0,zL U 0 0]):=by kernel_rfl
@[simp] theorem aJb:zero Z 145=O (aAg z8):=by kernel_rfl
abbrev BW(s:ByteArray):E:=bK 309 [ar (zN s) 0]
def akV(s:ByteArray):bH (BW s):=Ek (.Cs (je bJ) .Nl)
def anD:aJ Z prog 309 (λ_:(ByteArray×Bool×Tree)×ByteArray=>True) (λx=>[gA x.1,ar (zN x.2) 0]) (λx=>zP (yF (x.1.1=x.2))):=by rintro⟨x,s⟩ _;refine jf tok cg aW (.Cs (aaq x) (.Cs (je bJ) .Nl)) 1 F309 rfl rfl ?_;simp[f309,p9];exact bG.Pu bJ (by simp)
structure LD(l:List (ByteArray×Bool×Tree))(s:ByteArray)(i:Nat)(tm:Tr E):Prop where
 t0:aa tm 0 (eb gA l)
 t1:aa tm 1 (BW s)
 t7:aa tm 7 (J (I l:Nat))
 t8:aa tm 8 (J i)
def Mi(n:Nat)(v:Int):Prop:=v= -1\/∃i:Nat,v=i/\i<n
def HO:yG:=z f308 [Y,G,Y,G,G]
def aiR:f308.body=O (zS (z f308 pF0) (zS (zS (z f308 [Y,G,G]) (zv 0 (yb HO))) (z f308 pT2))):=rfl
section
variable{ev:zC->ag}{l:List (ByteArray×Bool×Tree)}{s:ByteArray}{i:Nat}{tm:Tr E}{h:H}
def akW(j:LD l s i tm)(d:i<I l)(e:i+1<=ao)(c:∀h,ev (.call (BW s) [gA l[i]] h U)=.r (zP b) h U):
 aD (λa m=>m=h/\LD l s (i+1) a) (λa _=>∃k,aa a 4 (J k)/\Mi (I l) k) bE
  (aF Z ev 308 HO tm h):=by
 let⟨t0,t1,t7,t8⟩:=j;have f:=dA e;simp at f;have g:=λ(h:H)=>abB (h:=h) (k:=zx) d;cases b
 .simp[HO,z,f308,t0,t1,t7,t8,d,f,c,g];exact⟨by simp[t0],by simp[t1],by simp[t7],by simp⟩
 .simp[HO,z,f308,t0,t1,t7,t8,d,c,g];exact .inr ⟨i,rfl,d⟩
def anE(b:LD l s i tm)(c:I l<=i):
 aD ap ap (λj _ _=>j=0) (aF Z ev 308 HO tm h):=by
 let⟨t0,t1,t7,t8⟩:=b;have a:¬i<I l:=by omega
 simp[HO,z,f308,t7,t8,a]
end
def abG(l:List (ByteArray×Bool×Tree)):bH (eb gA l):=.data _ _ _ _ (map_pure aaq l)
def anF:∃f:List (ByteArray×Bool×Tree)×ByteArray->Int,aJ Z prog 308 (λx=>I x.1<ao) (λx=>[eb gA x.1,BW x.2]) (λx=>J (f x))/\∀x,I x.1<ao->Mi (I x.1) (f x):=by
 obtain⟨C,n,k⟩:∃C,aR Z prog C/\Has C 309 (λ_:(ByteArray×Bool×Tree)×ByteArray=>True) (λx=>[gA x.1,ar (zN x.2) 0]) (λx=>zP (yF (x.1.1=x.2))):=⟨_,aZ aW anD,Has.Ad λx y e=>(by let⟨⟨A,B,F⟩,L⟩:=x;let⟨⟨M,N,P⟩,R⟩:=y;simp[gA,ar]at e;let⟨⟨o,_⟩,p⟩:=e;simp only[o,p])⟩
 refine iC J (λ(x:List (ByteArray×Bool×Tree)×ByteArray) v=>Mi (I x.1) v) λ⟨l,s⟩ d=>JV (Q:=λv=>Mi (I l) v) tok C n (.Cs (abG l) (.Cs (akV s) .Nl)) (λ_=>.Gd rfl) (I l+1) F308 aiR rfl ?_;have d:I l<ao:=d
 have r:aD (λtm h=>tm.g 0=O (eb gA l)/\aa tm 1 (BW s)) ap bE (aF Z (af Z C (I l+1+1)) 308 (z f308 pF0) (bF [eb gA l,BW s] 0 .Nl) H.e):=by simp[z,f308]
 have t:∀tm h,(aa tm 0 (eb gA l)/\aa tm 1 (BW s))->aD (λtm h=>LD l s 0 tm) ap bE (aF Z (af Z C (I l+1+1)) 308 (z f308 [Y,G,G]) tm h):=by rintro tm h ⟨g,u⟩;simp[z,f308,g];exact⟨by simp[g],by simp[u],by simp,by simp⟩
 refine aS (r.Mo bT aP cS) λtm h q=>aS (N':=λ_ _=>True) (aS ((t tm h q).Mo bT aP cS) λtm h b=>?_) λtm h q=>?_
 .refine fU 0 (λj tm h=>∃i,j=I l-i/\i<=I l/\LD l s i tm) (I l) ⟨0,rfl,by omega,b⟩ (by omega) ?_;rintro j tm h m ⟨i,rfl,S,b⟩-;by_cases a:i<I l
  .exact(akW b a (by omega) λh=>k.FY (T:=Z) m (x:=(l[i],s)) trivial rfl h).Mo (λc w q=>⟨_,by omega,i+1,rfl,a,q.2⟩) (λc w q=>q) jr
  .exact(anE b (by omega)).Mo aP aP (λ_ _ _ q=>⟨q,trivial⟩)
 .simp[z,f308];exact .inl rfl
def aue:zE Z 145 z8 0=O (aAg z8):=by rw[fV OY KO];rfl
def OA{h:H}:eK Z h 145 (O (aAg z8)) (O [])=.v (aAg z8) h:=by kernel_rfl
def NI{h:H}{c :List E}{g:Bool}(a:v=aAg c)(d:I c=8)(f:da c=Y)(i:ae h k (K p t g))(j:I p=8):zG Z h 145 v (pB k)=O (h.p k (K c t g)):=by subst a;have:=dY (T:=Z) (v:=aAg c) (n:=8) (off:=0) KO d f i (by omega);rw[this,yN (by omega)];show O (h.p k (K (List.take 0 p++(c++[])) t g))=_;rw[List.append_nil];rfl
def akX{s:ByteArray}:ah (zN s)=[zN s]:=rfl
def adb{n:ByteArray}{l:List E}:zE Z 4 (zN n::zP b::l) 1=O (zP b):=by rw[q4];rfl
def awq{n:ByteArray}(u:Tree):zE Z 145 (zN n::zP b::du u) 2=O (dU u):=ab6 (n,b,u)
def akY:∃f:Tree×ByteArray->Option Tree,aJ Z prog 299 (λx=>I x.1.cb<ao) (λx=>[dU x.1,zN x.2]) (λx=>Gh (f x))/\∀x,I x.1.cb<ao->∀u,f x=O u->∃b∈x.1.cb,b.2.1=G/\b.2.2=u:=by
 let⟨f,hf,hq⟩:=anF;refine iC Gh (λ(x:Tree×ByteArray) r=>∀u,r=O u->∃b∈x.1.cb,b.2.1=G/\b.2.2=u) λ⟨t,s⟩ Q=>?_;have Q:I t.cb<ao:=Q;have M:aJ Z prog 308 (λ_:Unit=>True) (λ_=>[eb gA t.cb,BW s]) (λ_=>J (f (t.cb,s))):=λ_ _=>hf (t.cb,s) Q;obtain⟨C,hC,k⟩:∃C,aR Z prog C/\kY C 308 (Dg [1]) (λ_:Unit=>True) (λ_=>[eb gA t.cb,BW s]) (λ_=>J (f (t.cb,s))):=⟨_,I8 (eM:=Dg [1]) aW M,kY.add λ_ _ _ _ _ _=>rfl⟩;have e:=hq (t.cb,s) Q;have e:Mi (I t.cb) (f (t.cb,s)):=e;generalize f (t.cb,s)=v at e k
 have g:∀n(m:H),ae m 1 (ad [zN s] 9)->af Z C n (aj 308 [eb gA t.cb,bK 309 [pB 1]] m)=.r (J v) (m.bx [1]) U:=λn m X=>
  k.ev (T:=Z) n (x:=()) trivial (m:=m) ⟨by rw[X];simp,(by decide:¬(1∈([]:List Nat))),trivial⟩ (.Cs (.Pu (abG _)) (.Cs (.func 309 .Nl (.Cs (.box (ny (by decide:1∈[1]) X) rfl eI) .Nl)) .Nl))
 have A:∀R:Option Tree,(v= -1->R=U)->(∀i(F:i<I t.cb),v=(i:Nat)->R=if t.cb[i].2.1=Y then U else O t.cb[i].2.2)->∀h,bP Z prog (zU (.func 299) #[] #[]) [dU t,zN s] h U (.r (Gh R) h U):=by
  intro R r1 r2;refine jf tok C hC (.Cs (Cy t) dF) 3 F299 rfl rfl ?_
  have N:∀(tm:Tr E)(h:H),aa tm 4 (pB 2)->aa tm 5 (zP G)->h.b=0->ae h 2 (ad z8 145)->bG Z [yB 4 145,yx 5] (λh=>h.g) (.ret (Gh U)) ⟨tm,[],h,U⟩:=λtm h p t5 a B=>
   ⟨rfl,rfl,aTu [aAg z8,zP G],_,_,rfl,by simp[p,t5,B,a,aue];rfl,.Tt (.Cs (asr _) ka)⟩
  have d0:=λ(m:H)=>kQ (h:=m) (l:=[1]) (j:=0) (by decide);have d2:=λ(m:H)=>kQ (h:=m) (l:=[1]) (j:=2) (by decide);have db:=λ(m:H)(a:m.b=0)=>(rI a [1]).2.1;refine ax (Q0:=λtm h=>h.b=0/\h.n=3/\ae h 0 (ad (du t) 145)/\ae h 1 (ad [zN s] 9)/\ae h 2 (ad z8 145)/\aa tm 2 (pB 0)/\aa tm 3 (pB 1)/\aa tm 4 (pB 2)) ?_ λtm h⟨a,hn,P,g1,B,L,t3,p⟩=>?_
  .simp[f299];exact .mk ⟨by simp,by simp,by simp,by simp[akX],by simp,by simp,by simp,by simp⟩
  refine ax (Q0:=λtm h=>h.b=0/\ae h 0 (ad (du t) 145)/\ae h 2 (ad z8 145)/\aa tm 2 (pB 0)/\aa tm 4 (pB 2)/\aa tm 6 (J v)) ?_ λtm h⟨a,P,B,L,p,S⟩=>?_
  .have g:=λn=>g n h g1;simp[f299,L,t3,a,P,g];exact .mk ⟨by simp[db _ a],by simp[d0,P],by simp[d2,B],by simp[L],by simp[p],by simp⟩
  have sz:=λ(V:H)(q:ae V 2 (ad z8 145))=>NI (c:=z8) rfl rfl rfl q rfl;rcases e with o|⟨i,o,F⟩
  .have:=r1 o;subst this;subst o;simp[f299,L,p,S,B,an,OA,sz];exact N _ _ (by simp[p]) (by simp) (by simp[a]) (by simp)
  .have:=r2 i F o;subst o;have ix:=λ(h:H)=>abB (h:=h) (k:=zx) F;have w:¬(i:Int)<0:=by omega
   by_cases y:t.cb[i].2.1=Y
   .rw[if_pos y]at this;subst this;simp[f299,L,p,S,a,P,B,ix,w,y,adb,an,OA,sz];exact N _ _ (by simp[p]) (by simp) (by simp[a]) (by simp)
   .rw[if_neg y]at this;subst this;have W:t.cb[i].2.1=G:=by simpa using y
    have s1:=λ(V:H)(q:ae V 2 (ad z8 145))(u:Tree)=>NI (v:=dU u) (c:=du u) rfl (JK u) (R6 u) q rfl;simp[f299,L,p,S,a,P,B,ix,w,W,adb,awq,an,s1];exact bG.Pu (d:=aTu [dU t.cb[i].2.2,zP Y]) (.Tt (.Cs (Cy _) dF)) (by simp[p,a])
 rcases e with o|⟨i,o,F⟩
 .refine⟨U,λu q=>(by cases q),A U (λ_=>rfl) λi F q=>?_⟩;rw[o]at q;omega
 .by_cases y:t.cb[i].2.1=Y
  .refine⟨U,λu q=>(by cases q),A U (λ_=>rfl) λj hj q=>?_⟩;have:j=i:=by rw[o]at q;omega
   subst this;rw[if_pos y]
  .refine⟨O t.cb[i].2.2,λu q=>⟨_,zW F,by simpa using y,by injection q⟩,A _ (λq=>?_) λj hj q=>?_⟩
   .rw[o]at q;omega
   have:j=i:=by rw[o]at q;omega
   subst this;rw[if_neg y]
end Go.Proofs.YtpeialehpoilbaaGreat
namespace Go.Am.Eu
abbrev Fx:Int:=400000000
def fa(x:Int×zA):Nat:=x.1.toNat*1000000000+zD x.2
structure ni(x:Int×zA):Prop where
 IQ:iN x.1
 cl:aI cC x.2
 sz:(zD x.2:Int)+AD*x.1<=Fx
def nc(x:Int×zA)(r:Option zA×Int):Prop:=match r.1 with
 |none=>True
 |some u=>0<=r.2/\r.2<=x.1/\aI cC u/\(zD u:Int)<=zD x.2+AD*(x.1-r.2)
def mJ:Option zA->MO
 |none=>.aU eF
 |some u=>.ret (D u)
instance:Inhabited (Option zA×Int):=⟨(U,0)⟩
inductive pz where
 |aU
 |no (la:zA)
 |yes (b:zA) (vs:List zA)
def pz.mo:pz->MO
 |.aU=>.aU eF
 |.no a=>.ret (aTu [D zT,al [],zP G,D a])
 |.yes b c=>.ret (aTu [D b,al c,zP Y,D zT])
instance:Inhabited (pz×Int):=⟨(.aU,0)⟩
def Dj(n:Nat)(l:Int)(r:pz×Int):Prop:=match r.1 with
 |.aU=>True
 |.no _=>0<=r.2/\r.2<=l
 |.yes b c=>0<=r.2/\r.2<=l/\aI (jI n) b/\zD b<=5000/\(∀a∈c,aI cC a/\(zD a:Int)<=Fx)/\I c<=60000/\c≠[]
end Go.Am.Eu
namespace Go.Proofs.YtpeialehpoilbaaGreat
def TW{b:List zB}(f:pX b){d:zB}(h:fB b a=O (d,j,y)):d∈b/\j<I d.aY/\y=bt a/\I (y.drop d.f.toNat)<=250/\d.f.toNat<=I y:=by
 unfold fB at h;by_cases m:(aM a).w=3
 .rw[if_pos m]at h;by_cases g:(jo b (aM a).F).2.2=Y/\0<=(jo b (aM a).F).2.1
  .rw[if_pos g]at h;let⟨k,i,n,c⟩:=abC f g.1 g.2;split at h
   .rename_i o;injection h with h;injection h with l h;injection h with e p;subst l;subst p;have e:k=j:=by rw[n]at e;simpa using e
    subst e;refine⟨i,c,rfl,?_,?_⟩
    .rw[n]at o;have q:(jo b (aM a).F).1.aY.getD (Int.toNat (k:Int)) ⟨⟨#[]⟩,T0⟩=(jo b (aM a).F).1.aY[k]:=by simp[c]
     rw[q]at o;have l:=(f.all _ i).fixed;have e:=((f.all _ i).aY _ (zW c)).2;rw[wK];omega
    .have l:=(f.all _ i).fixed;omega
   .cases h
  .rw[if_neg g]at h;cases h
 .rw[if_neg m]at h;cases h
def F282:Z.f 282=O f282:=by kernel_rfl
def jY:yG:=z f282 [Y,Y,Y,G,G,G]
def fN:yG:=ak [Y,G] jY
def aiS:f282.body=O (zS (z f282 pF0) (zS (z f282 pF1) (zS (z f282 pF2) (zS (zv 0 (yb jY)) (z f282 pT4))))):=rfl
def KA:Array yH:=bq (ak [G,Y,G,G] fN)
def HD:Array yH:=bq (ak [Y,Y,Y,G,Y,G,G] fN)
def J7:Array yH:=bq (ak [Y,Y,Y,Y,G] fN)
def Hh:Array yH:=bq (ak [Y,Y,Y,Y,Y,G,Y,G,G] fN)
def ahr:jY=zS (ak [G] jY) (zv 1 fN):=rfl
def ahs:fN=zS (zS (ak [G,G] fN) (.cond (vG 31) (zS (yM 5 KA Y) .ret) .skip)) (zS (ak [Y,G] fN) (zS (ak [Y,Y,G] fN) (zS (zS (ak [Y,Y,Y,G,G] fN) (.cond (vG 50) (zS (yM 9 HD Y) .ret) .skip)) (zS (yM 10 J7 Y)
 (zS (zS (ak [Y,Y,Y,Y,Y,G,G] fN) (.cond (vG 65) (zS (yM 12 Hh Y) .ret) .skip)) (zS (ak [Y,Y,Y,Y,Y,Y,G] fN) (ak [Y,Y,Y,Y,Y,Y,Y] fN))))))):=rfl
end Go.Proofs.YtpeialehpoilbaaGreat
