/- A part of the proof of InstancesLastUptoSaid: see the last text. -/
import Derived.Test.YtpeialehpoilbaaGreatAg
set_option linter.all false
noncomputable section
set_option maxRecDepth 100000
open Bool renaming false->G,true->Y,and_eq_true->zX,not_eq_true'->wy
open Decidable renaming decide->yF
open Go.Am.ai renaming cells->K
open Go.Code renaming cond->tV,region->yM,ret->sw,seq->zS,skip->we,block->zv,loop->yb
open Go.IntKind renaming i64->zx
open Go.Operand renaming tmp->vG
open Go.ResultVar renaming cell->yB,tmp->yx
open Go renaming Value->E,FuncId->zZ,Code->yG,Deferred->zc,PanicEntry->zO,ResultVar->yR
open Go.Value renaming bool->zP,pointer->zM,slice->zL,string->zN,func->zU,nilFunc->zj
open List renaming append_eq_nil_iff->uo,length->I,getElem_mem->zW,mem_of_mem_drop->xf,take_append_drop->xO,length_take->wV,append_nil->ye,getElem?_eq_getElem->zm,mem_singleton->yi,mem_cons->zp
open Nat renaming le_refl->zR,le_trans->yd,lt_of_le_of_lt->xN,mul_le_mul_right->vb,beq->zV,lt_succ_self->yL,lor->zi
open Option renaming none->U,some->O
open Or renaming inl->zq,inr->zt
open Int renaming le_refl->xW
open Go.Fn renaming func->za
open Go.TypeDesc renaming array->td,slice->zf
open Classical renaming choose->yE
open Go Go.Am Go.Proofs Go.Am.Sym Go.Am.Eu
open Go.Proofs.Tryz
variable{n k m i j:Nat}
variable{l p:List Go.Value}
variable{h g:Go.Am.H}
variable{v N:Go.Value}
variable{r q:Go.Am.Tr Go.Value}
variable{b:Bool}
variable{a d:Go.Am.Eu.zA}
variable{y:List Go.Am.Eu.zA}
variable{c e:Int}
variable{t s:Go.TypeId}
variable{A:Type}
variable{f:Go.FuncId}
variable{C:Go.Am.aV}
variable{R:A->List Go.Value}
variable{L:A->Prop}
variable{V:Go.Am.zC->Go.Am.ag}
variable{x:Go.Code}
namespace Go.Proofs.YtpeialehpoilbaaGreat
def awr{l:List E}(h:I l=5):∃a b c d e,l=[a,b,c,d,e]:=by
 match l,h with
 |[a,b,c,d,e],_=>exact⟨a,b,c,d,e,rfl⟩
def anG{h:H}{b:Nat}{t:zA}{e:TypeId}{g:Bool}(f:I p=5):ml h b 0 (ah (D t)) (O (K p e g))=O (h.p b (K (ah (D t)) e g)):=by obtain⟨a,b,p,d,e,rfl⟩:=awr f;exact X5 ..
structure Lp(env:List zB)(l:Int)(tr:Tree)(vs:List zA)(la:zA)(tm:Tr E)(h:H):Prop where
 base:h.b=0
 next:6<=h.n
 g0:h.g 0=O (K (mc env l) 320 G)
 g1:h.g 1=O (K (du tr) 145 G)
 g2:h.g 2=O (K z5 31 G)
 g3:h.g 3=O (K z5 31 G)
 g5:∃c,h.g 5=O (K c 31 G)/\I c=5/\da c=Y/\∀g,DV g (.agg ⟨c⟩) (D la)
 row:∃b,(4<=b/\b≠5)/\b<h.n/\h.g b=O (K (zF D vs) 31 Y)/\tm.g 10=O (zL (O ⟨b,0,U⟩) (I vs) (I vs))
 t0:tm.g 0=O (zM (O ⟨0,0,U⟩))
 t4:tm.g 4=O (zM (O ⟨1,0,U⟩))
 t6:tm.g 6=O (zM (O ⟨2,0,U⟩))
 t9:tm.g 9=O (zM (O ⟨3,0,U⟩))
 t11:tm.g 11=O (zM (O ⟨5,0,U⟩))
def re(env:List zB)(l:Int)(la:zA)(s:S):Prop:=cn Z [yB 6 31,yx 7,yx 8,yB 9 31] 320 G (pz.no la).mo (mc env l) s
def acq:Tr Nat:=bj KA.toList 0 .Nl
def acr:Tr Nat:=bj HD.toList 0 .Nl
def abH:Tr Nat:=bj Hh.toList 0 .Nl
def Tn:Tr Nat:=bj J7.toList 0 .Nl
def aiT:(aN (aE Tn 12) 11)=Y:=by kernel_rfl
section
variable{ev:zC->ag}{env:List zB}{l:Int}{tr:Tree}{vs:List zA}{la:zA}{tm:Tr E}{h:H}
def To{c:List E}(b:I c=5)(d:∀g,DV g (aAg c) (D la))(e:aa tm 6 (pB 2))(f:aa tm 7 (zL U 0 0))(i:aa tm 8 (zP G))(j:aa tm 9 (pB 3))(k:h.b=0)(m:ae h 0 (ad (mc env l) 320))(n:ae h 2 (ad z5 31))(o:ae h 3 (ad c 31)):re env l la ⟨tm,[],h,U⟩:=by have a:=fh (c:=z5) rfl;have p:=fh b;exact⟨rfl,rfl,aTu [aAg z5,zL U 0 0,zP G,aAg c],_,h,rfl,by simp[e,f,i,j,k,n,o,a,p],.Tt (.Cs (rS _) (.Cs .cP (.Cs eI (.Cs (d _) .Nl)))),m⟩
def apY(e:Lp env l tr vs la tm h):ay (λ_=>False) (re env l la) (λ_ _=>False) (λ_ _=>False) (aw Z ev ⟨282,U⟩ (zS (yM 5 KA Y) sw) ⟨tm,[],h,U⟩):=by
 let⟨d,hn,g0,g1,g2,g3,⟨c,g5,a,f,hd⟩,_,t0,t4,t6,t9,t11⟩:=e;rw[run_seq,eg,dJ];have g:bj KA.toList 0 .Nl=acq:=rfl;rw[g];generalize acq=o;have i:2<h.n:=by omega
 have j:3<h.n:=by omega
 have k:5<h.n:=by omega
 have p:=fh a;have m:=λ(b:H)(q:b.g 2=O (K z5 31 G))=>fp (c:=z5) rfl rfl q rfl;have n:=λ(b:H)(q:b.g 3=O (K z5 31 G))=>fp a f q rfl;simp[KA,bq,fN,jY,z,f282,t6,t9,t11,d,g2,g3,g5,i,j,k,p,jn,m,n,cV,cZ,cY,dc,dt,cO,cR];exact To a hd (by simp[t6]) (by simp) (by simp) (by simp[t9]) (by simp[d]) (by simp[g0]) (by simp) (by simp)
def apZ(e:Lp env l tr vs la tm h):ay (λ_=>False) (re env l la) (λ_ _=>False) (λ_ _=>False) (aw Z ev ⟨282,U⟩ (zS (yM 9 HD Y) sw) ⟨tm,[],h,U⟩):=by
 let⟨d,hn,g0,g1,g2,g3,⟨c,g5,a,f,hd⟩,_,t0,t4,t6,t9,t11⟩:=e;rw[run_seq,eg,dJ];have g:bj HD.toList 0 .Nl=acr:=rfl;rw[g];generalize acr=o;have i:2<h.n:=by omega
 have j:3<h.n:=by omega
 have k:5<h.n:=by omega
 have p:=fh a;have m:=λ(b:H)(q:b.g 2=O (K z5 31 G))=>fp (c:=z5) rfl rfl q rfl;have n:=λ(b:H)(q:b.g 3=O (K z5 31 G))=>fp a f q rfl;simp[HD,bq,fN,jY,z,f282,t6,t9,t11,d,g2,g3,g5,i,j,k,p,jn,m,n,cV,cZ,cY,dc,dt,cO,cR];exact To a hd (by simp[t6]) (by simp) (by simp) (by simp[t9]) (by simp[d]) (by simp[g0]) (by simp) (by simp)
def anH(e:Lp env l tr vs la tm h):ay (λ_=>False) (re env l la) (λ_ _=>False) (λ_ _=>False) (aw Z ev ⟨282,U⟩ (zS (yM 12 Hh Y) sw) ⟨tm,[],h,U⟩):=by
 let⟨d,hn,g0,g1,g2,g3,⟨c,g5,a,f,hd⟩,_,t0,t4,t6,t9,t11⟩:=e;rw[run_seq,eg,dJ];have g:bj Hh.toList 0 .Nl=abH:=rfl;rw[g];generalize abH=o;have i:2<h.n:=by omega
 have j:3<h.n:=by omega
 have k:5<h.n:=by omega
 have p:=fh a;have m:=λ(b:H)(q:b.g 2=O (K z5 31 G))=>fp (c:=z5) rfl rfl q rfl;have n:=λ(b:H)(q:b.g 3=O (K z5 31 G))=>fp a f q rfl;simp[Hh,bq,fN,jY,z,f282,t6,t9,t11,d,g2,g3,g5,i,j,k,p,jn,m,n,cV,cZ,cY,dc,dt,cO,cR];exact To a hd (by simp[t6]) (by simp) (by simp) (by simp[t9]) (by simp[d]) (by simp[g0]) (by simp) (by simp)
def anI(e:Lp env l tr vs la tm h)(f:tr.kind≠1):
 ay ca ca (λj s=>j=0/\bB (Lp env l tr vs la) s) ap (aF Z ev 282 jY tm h):=by
 let⟨d,hn,g0,g1,g2,g3,g5,⟨b,a,c,g,t10⟩,t0,t4,t6,t9,t11⟩:=e;simp[jY,z,f282,t4,d,g1,f,an];exact .mk ⟨d,hn,g0,g1,g2,g3,g5,⟨b,a,c,g,by simp[t10]⟩,by simp[t0],by simp[t4],by simp[t6],by simp[t9],by simp[t11]⟩
def eE.same{h :H}(a:eE h g){o:ai}(d:ae g n o):eE h (g.p n o):=⟨by simp[a.base],by have:=a.next;simp;omega,λj c=>by
 rw[jd];split
 .rename_i e;subst e;rw[<-a.get _ c,d]
 .exact a.get j c⟩
def Lp.kG(i:Lp env l tr vs la tm h)(a:r.g 10=tm.g 10)(j:r.g 0=tm.g 0)(k:r.g 4=tm.g 4)(m:r.g 6=tm.g 6)(n:r.g 9=tm.g 9)(c:r.g 11=tm.g 11):Lp env l tr vs la r h:=by obtain⟨o,p,q,s,t,u,v,⟨b,d,e,w,f⟩,x,y,A,B,g⟩:=i;exact⟨o,p,q,s,t,u,v,⟨b,d,e,w,by rw[a,f]⟩,by rw[j,x],by rw[k,y],by rw[m,A],by rw[n,B],by rw[c,g]⟩
def Lp.keeps(i:Lp env l tr vs la tm h)(k:eE h g):Lp env l tr vs la tm g:=by obtain⟨w,x,j,m,n,o,⟨c,p,q⟩,⟨b,a,d,r,e⟩,s,t,u,v,f⟩:=i;have y:=k.next;exact⟨k.base,by omega,by rw[k.get 0 (by omega)];exact j,by rw[k.get 1 (by omega)];exact m,by rw[k.get 2 (by omega)];exact n,by rw[k.get 3 (by omega)];exact o,⟨c,by rw[k.get 5 (by omega)];exact p,q⟩,⟨b,a,by omega,by rw[k.get b d];exact r,e⟩,s,t,u,v,f⟩
def anJ(d:Lp env l tr vs la tm h)(f:tr.kind=1):ay (bB λa e=>e=h/\Lp env l tr vs la a e) ca ap ap (aF Z ev 282 (ak [G] jY) tm h):=by have c:=d;let⟨g,hn,g0,g1,g2,g3,g5,⟨b,i,j,k,t10⟩,t0,t4,t6,t9,t11⟩:=d;simp[jY,z,f282,t4,g,g1,f,an];exact .mk ⟨rfl,c.kG (by simp) (by simp) (by simp) (by simp) (by simp) (by simp)⟩
def ap0(d:Lp env l tr vs la tm h):ay (bB λa e=>e=h/\Lp env l tr vs la a e/\aa a 31 (zP (yF (tr.var<0)||decide ((I vs:Int)<=tr.var)))) ca ap ap (aF Z ev 282 (ak [G,G] fN) tm h):=by
 have c:=d;let⟨f,hn,g0,g1,g2,g3,g5,⟨b,g,i,j,t10⟩,t0,t4,t6,t9,t11⟩:=d;by_cases h0:tr.var<0
 .simp[fN,jY,z,f282,t4,t10,f,g1,h0];exact .mk ⟨rfl,c.kG (by simp) (by simp) (by simp) (by simp) (by simp) (by simp),by simp⟩
 .simp[fN,jY,z,f282,t4,t10,f,g1,h0];exact .mk ⟨rfl,c.kG (by simp) (by simp) (by simp) (by simp) (by simp) (by simp),by simp⟩
def ap1(F:Lp env l tr vs la tm h)(w:tr.var=i)(x:i<I vs){r:Option zA×Int}(eO:∀m:H,ae m 0 (ad (mc env l) 320)->ev (aj 220 [pB 0,D vs[i]] m)=(mJ r.1).bi (m.p 0 (ad (mc env r.2) 320))):
 ay (bB λd y=>∃u,r.1=O u/\Lp env r.2 tr vs u d y/\ae y 5 (ad (tc u) 31)) ca ap (λL s=>r.1=U/\dD 320 G (.aU eF) (mc env r.2) L s) (aF Z ev 282 (ak [Y,G] fN) tm h):=by
 let⟨f,hn,g0,g1,g2,g3,⟨c5,g5,j,M,N⟩,⟨b,n,o,p,a⟩,q,v,P,Q,c⟩:=F;let⟨R,A⟩:=r;have S:¬b=5:=by omega
 have T:¬b=0:=by omega
 have B:=λ(h:H)=>Ha (h:=h) (b:=b) (m:=I vs) (k:=zx) x;have C:=Te x;cases R with
 |none=>
  have eO:∀m:H,ae m 0 (ad (mc env l) 320)->ev (aj 220 [pB 0,D vs[i]] m)=.p [⟨eF,G,G⟩] (m.p 0 (ad (mc env A) 320)) U:=eO;simp[fN,jY,z,f282,q,v,a,f,g0,g1,p,w,B,C,eO];exact dD.pure kn (by simp)
 |some u=>
  have eO:∀m:H,ae m 0 (ad (mc env l) 320)->ev (aj 220 [pB 0,D vs[i]] m)=.r (D u) (m.p 0 (ad (mc env A) 320)) U:=eO;have V:=λ(W:H)(b:Nat)(u:zA)=>anG (h:=W) (b:=b) (t:=u) (e:=31) (g:=G) j;simp[fN,jY,z,f282,q,v,a,c,f,g0,g1,g5,p,w,B,C,eO,V];exact .mk ⟨⟨by simp[f],by simpa using hn,by simp,by simp[g1],by simp[g2],by simp[g3],⟨tc u,by simp[dP],rfl,EE u,λg=>by rw[<-eD];exact .Pu (bg u)⟩,⟨b,n,by simpa using o,by simp[T,S,p],by simp[a]⟩,by simp[q],by simp[v],by simp[P],by simp[Q],by simp[c]⟩,by simp[dP]⟩
def rz(env:List zB)(l:Int)(tr:Tree)(vs:List zA)(la:zA)(N:Nat)(o:ai)(tm:Tr E)(h:H):Prop:=Lp env l tr vs la tm h/\6<=N/\N<h.n/\ae h N o
def ap2(i:Lp env l tr vs a tm h){d:zB}{n:Bool}(e:∀m:H,ae m 0 (ad (mc env l) 320)->ev (aj 298 [pB 0,D a] m)=.r (aTu [bI d,J (j:Nat),v,zP n]) (m.p 0 (ad (mc env l) 320)) U)
 (r:ae h 5 (ad (tc a) 31)):
 ay (bB λc t=>∃N,rz env l tr vs a N (ad (cN d) 38) c t/\aa c 12 (pB N)/\aa c 13 (J (j:Nat))/\aa c 14 v/\aa c 15 (zP n)) ca ap ap (aF Z ev 282 (ak [Y,Y,G] fN) tm h):=by
 have f:=i;let⟨o,w,p,g1,g2,g3,_,⟨b,y,A,C,t10⟩,t0,t4,t6,t9,t11⟩:=i;have F:¬5=h.n:=by omega
 have g:ae h 5 (ad (ah (D a)) 31):=by rw[dP];exact r
 have s:=λ(B:H)(q:ae B h.n (ad fS 38))=>Ey (x:=d) q rfl;simp[fN,jY,z,f282,t0,t11,o,p,g,e,s];have k:eE h (((h.p 0 (ad (mc env l) 320)).w (ad fS 38)).p h.n (ad (cN d) 38)):=(((eE.refl o).same p).new _).put (zR _) _;exact .mk ⟨h.n,⟨(f.kG (by simp) (by simp) (by simp) (by simp) (by simp) (by simp)).keeps k,w,by simp,by simp⟩,by simp,by simp,by simp,by simp⟩
def ap3{o:ai}(k:rz env l tr vs la n o tm h)(c:aa tm 12 (pB n))(d:aa tm 13 (J (j:Nat)))(e:aa tm 14 v)(m:aa tm 15 (zP b)):
 ay (bB λa i=>b=Y/\rz env l tr vs la n o a i/\aa a 12 (pB n)/\aa a 13 (J (j:Nat))/\aa a 14 v) (λs=>b=G/\re env l la s) ap ap
  (aF Z ev 282 (zS (ak [Y,Y,Y,G,G] fN) (tV (vG 50) (zS (yM 9 HD Y) sw) we)) tm h):=by
 let⟨k,p,r,x⟩:=k;refine ax (Q0:=λa i=>i=h/\Lp env l tr vs la a i/\aa a 50 (zP (!b))/\aa a 12 (pB n)/\aa a 13 (J (j:Nat))/\aa a 14 v) ?_ λy B⟨A,g,t,c,d,e⟩=>?_
 .simp[fN,jY,z,f282,m];exact .mk ⟨rfl,k.kG (by simp) (by simp) (by simp) (by simp) (by simp) (by simp),by simp,by simp[c],by simp[d],by simp[e]⟩
 subst A;rw[oR];simp only[qI,t];by_cases f:b=Y
 .rw[show(!b)=G by simp[f],Aa,JU,Gz];exact bB.mk ⟨f,⟨g,p,r,x⟩,c,d,e⟩
 .have w:b=G:=by simpa using f
  have u:=apZ (ev:=ev) g;rw[show(!b)=Y by simp[w],rG];exact ay.Mo u dN (λ_ q=>⟨w,q⟩) aP aP
def anK{d:zB}{y:E}(C:j<I d.aY)(g:rz env l tr vs la n (K (cN d) 38 G) tm h)(i:tm.g 12=O (zM (O ⟨n,0,U⟩)))(o:tm.g 13=O (J (j:Nat)))(p:tm.g 14=O y){a:Tree}{A:Bool}
 (f:∀m,ev (aj 299 [dU tr,zN d.aY[j].name] m)=.r (aTu [dU a,zP A]) m U):
 ay (bB λe F=>∃n,rz env l tr vs la n (K (du a) 145 G) e F/\e.g 16=O (zM (O ⟨n,0,U⟩))/\e.g 14=O y/\e.g 15=O (zP A)) (λ_=>False) (λ_ _=>False) (λ_ _=>False) (aw Z ev ⟨282,U⟩ (yM 10 J7 Y) ⟨tm,[],h,U⟩):=by
 let⟨g,L,r,M⟩:=g;have t:=g;let⟨B,P,g0,g1,g2,g3,_,⟨b,Q,R,X,t10⟩,t0,t4,t6,t9,t11⟩:=g;rw[eg,dJ];have u:=aiT;have S:bj J7.toList 0 .Nl=Tn:=rfl;rw[S];generalize Tn=bs at*;have T:1<h.n:=by omega
 have nN:¬n=h.n:=by omega
 have w:¬h.n=n:=by omega
 have n1:¬1=h.n:=by omega
 have x:¬h.n=1:=by omega
 have V:=λ(h:H)=>ZN (h:=h) (k:=zx) C;have s:=λ(W:H)(q:W.g h.n=O (K z8 145 G))=>NI (v:=dU a) (c:=du a) rfl (JK a) (R6 a) q rfl;simp[J7,bq,fN,jY,z,f282,t4,i,o,B,g1,M,T,r,V,f,s,cV,cZ,cY,dc,dt,cO,cR,w,x,u];have k:eE h ((h.w (K z8 145 G)).p h.n (K (du a) 145 G)):=((eE.refl B).new _).put (zR _) _;exact .mk ⟨h.n,⟨(t.kG (by simp) (by simp) (by simp) (by simp) (by simp) (by simp)).keeps k,P,by simp,by simp⟩,by simp,by simp[p],by simp⟩
def anL{o:ai}(i:rz env l tr vs la n o tm h)(c:aa tm 16 (pB n))(d:aa tm 14 v)(j:aa tm 15 (zP b)):
 ay (bB λa g=>b=Y/\rz env l tr vs la n o a g/\aa a 16 (pB n)/\aa a 14 v) (λs=>b=G/\re env l la s) ap ap
  (aF Z ev 282 (zS (ak [Y,Y,Y,Y,Y,G,G] fN) (tV (vG 65) (zS (yM 12 Hh Y) sw) we)) tm h):=by
 let⟨i,k,m,u⟩:=i;refine ax (Q0:=λa g=>g=h/\Lp env l tr vs la a g/\aa a 65 (zP (!b))/\aa a 16 (pB n)/\aa a 14 v) ?_ λw y⟨x,f,p,c,d⟩=>?_
 .simp[fN,jY,z,f282,j];exact .mk ⟨rfl,i.kG (by simp) (by simp) (by simp) (by simp) (by simp) (by simp),by simp,by simp[c],by simp[d]⟩
 subst x;rw[oR];simp only[qI,p];by_cases e:b=Y
 .rw[show(!b)=G by simp[e],Aa,JU,Gz];exact bB.mk ⟨e,⟨f,k,m,u⟩,c,d⟩
 .have t:b=G:=by simpa using e
  have r:=anH (ev:=ev) f;rw[show(!b)=Y by simp[t],rG];exact ay.Mo r dN (λ_ q=>⟨t,q⟩) aP aP
def anM{a:Tree}{k:E}(e:rz env l tr vs la n (ad (du a) 145) tm h)(f:aa tm 16 (pB n))(g:aa tm 14 k):
 ay (bB λd o=>Lp env l a vs la d o/\aa d 14 k) ca ap ap (aF Z ev 282 (ak [Y,Y,Y,Y,Y,Y,G] fN) tm h):=by
 let⟨e,p,r,t⟩:=e;let⟨m,hn,g0,g1,g2,g3,⟨c6,g5,u⟩,⟨b,i,j,w,t10⟩,t0,t4,t6,t9,t11⟩:=e;have x:¬b=1:=by omega
 have s:=λ(y:H)(q:ae y 1 (ad (du tr) 145))=>NI (v:=dU a) (c:=du a) rfl (JK a) (R6 a) q (JK tr);simp[fN,jY,z,f282,t4,f,m,t,g1,s];exact .mk ⟨⟨by simp[m],by simpa using hn,by simp[g0],by simp,by simp[g2],by simp[g3],⟨c6,by simp[g5],u⟩,⟨b,i,by simpa using j,by simp[x,w],by simp[t10]⟩,by simp[t0],by simp[t4],by simp[t6],by simp[t9],by simp[t11]⟩,by simp[g]⟩
def anN(B:Lp env l tr vs la tm h)(f:tm.g 14=O (iZ y k))(g:vs≠[])(hn:I vs+I y<=1073741824):
 ay (bB λi m=>Lp env l tr (vs++y.drop k) la i m) (λ_=>False) (λ_ _=>False) (λ_ _=>False) (aw Z ev ⟨282,U⟩ (ak [Y,Y,Y,Y,Y,Y,Y] fN) ⟨tm,[],h,U⟩):=by
 obtain⟨C,F,H,L,M,N,⟨P,Q,R⟩,⟨b,S,n,V,o⟩,W,X,t6,t9,r⟩:=B;have hs:eu D 31 (zL (O ⟨b,0,U⟩) (I vs) (I vs)) h vs:=zt ⟨b,n,rfl,V⟩;have hlen:I (y.drop k)=I y-k:=by simp
 have hx:zH h (I (y.drop k)) 5 (iZ y k)=O (zF D (y.drop k)):=by have:=Ju (enc:=D) (sz:=5) (h:=h) (l:=y) (off:=k) (fG:=[]) (p:= #[]) (k:=I (y.drop k));rw[List.take_length]at this;show O (((((y.map D)).drop k).take (I (y.drop k))).flatMap ah)=_;rw[<-List.map_drop,List.take_of_length_le (by simp),qB]
 obtain⟨v',m,v,k1,k2,k3,k4,k5,w⟩:=eu.oK (T:=Z) mH (e2:=31) hs C (by simp;omega) hx
 have s:∀j,j<6->j≠4->dz (zL (O ⟨b,0,U⟩) (I vs) (I vs)) j:=λj x A a n' c' e=>by injection e with e;injection e with e;injection e with e;omega
 have lo:lenOf (iZ y k)=O (I (y.drop k)):=by rw[hlen];rfl
 have c:∀j,j<6->j≠4->m.g j=h.g j:=λj x A=>k5 j (by omega) (s j x A);rw[hlen]at v;rcases k1 with⟨q1,_⟩|⟨a,t,rfl,u⟩
 .exact absurd (uo.1 q1).1 g
 have d:4<=a/\a≠5:=by refine⟨Nat.le_of_not_lt λq=>w a (by omega) (s a (by omega) (by omega)) a _ _ rfl rfl,λq=>w a (by omega) (s a (by omega) (by omega)) a _ _ rfl rfl⟩
 simp[fN,jY,z,ak,sub,f282,o,f,v];exact .mk ⟨k2,by omega,by rw[c 0 (by omega) (by omega)];exact H,by rw[c 1 (by omega) (by omega)];exact L,by rw[c 2 (by omega) (by omega)];exact M,by rw[c 3 (by omega) (by omega)];exact N,⟨P,by rw[c 5 (by omega) (by omega)];exact Q,R⟩,⟨a,d,t,u,by simp⟩,by simp[W],by simp[X],by simp[t6],by simp[t9],by simp[r]⟩
def akZ(st:Lp env l tr vs la tm h)(hk:tr.kind=1)(WB:I vs<=1000000)(R:vs≠[])
 {w:zA->Option zA×Int}(eO:∀(i:Nat)(k:i<I vs)(m:H),ae m 0 (ad (mc env l) 320)->ev (aj 220 [pB 0,D vs[i]] m)=(mJ (w vs[i]).1).bi (m.p 0 (ad (mc env (w vs[i]).2) 320)))
 (c:∀(i:Nat)(k:i<I vs) u(m:H),(w vs[i]).1=O u->ae m 0 (ad (mc env (w vs[i]).2) 320)->ev (aj 298 [pB 0,D u] m)=.r (ry (fB env u)) (m.p 0 (ad (mc env (w vs[i]).2) 320)) U)
 (S:∀u d j e,fB env u=O (d,j,e)->j<I d.aY)(v:∀(i:Nat)(k:i<I vs) u d j e,(w vs[i]).1=O u->fB env u=O (d,j,e)->I e<=1000000000)
 {br:Tree×ByteArray->Option Tree}(n:∀s m,ev (aj 299 [dU tr,zN s] m)=.r (Gh (br (tr,s))) m U):
 ay (bB λa g=>∃(i:Nat)(k:i<I vs)(u:zA)(d:zB)(j:Nat)(e:List zA)(b:Tree)(s:ByteArray),tr.var=i/\(w vs[i]).1=O u/\fB env u=O (d,j,e)/\br (tr,s)=O b/\Lp env (w vs[i]).2 b (vs++e.drop d.f.toNat) u a g)
  (λs=>re env l la s\/∃(i:Nat)(k:i<I vs)(u:zA),(w vs[i]).1=O u/\re env (w vs[i]).2 u s) ap
  (λch s=>∃(i:Nat)(k:i<I vs),(w vs[i]).1=U/\dD 320 G (.aU eF) (mc env (w vs[i]).2) ch s) (aF Z ev 282 jY tm h):=by
 rw[ahr];refine ax (Q0:=Lp env l tr vs la) ((anJ st hk).Mo (λs q=>?_) dN aP aP) λfQ T V=>?_
 .obtain⟨a,g,rfl,_,q⟩:=q.elim;exact .mk q
 rw[hU];refine mM ?_;rw[ahs];refine ax (Q0:=λtm h=>(∃i:Nat,tr.var=i/\i<I vs)/\Lp env l tr vs la tm h) ?_ λW X⟨⟨i,hv,k⟩,p⟩=>?_
 .refine ax (Q0:=λtm h=>Lp env l tr vs la tm h/\aa tm 31 (zP (yF (tr.var<0)||decide ((I vs:Int)<=tr.var)))) ((ap0 V).Mo (λs q=>?_) dN aP aP) λW X⟨p,t31⟩=>?_
  .obtain⟨a,g,rfl,_,q⟩:=q.elim;exact .mk q
  rw[oR];simp only[qI,t31];by_cases t:(yF (tr.var<0)||decide ((I vs:Int)<=tr.var))=Y
  .rw[t,rG];exact ay.Mo (apY (ev:=ev) p) dN (λ_ q=>zq q) aP aP
  .have hf:(yF (tr.var<0)||decide ((I vs:Int)<=tr.var))=G:=by simpa using t
   rw[hf,Aa,JU,Gz];simp at hf;exact bB.mk ⟨⟨tr.var.toNat,by omega,by omega⟩,p⟩
 have eO:=eO i k;have c:=c i k;have v:=v i k;refine ax (Q0:=λa g=>∃u,(w vs[i]).1=O u/\Lp env (w vs[i]).2 tr vs u a g/\ae g 5 (ad (tc u) 31)) ((ap1 p hv k eO).Mo fP dN aP (λch s q=>⟨i,k,q⟩)) λru h3⟨u,Q,DF,g5⟩=>?_;have c:=λm=>c u m Q;have M:∀s,re env (w vs[i]).2 u s->re env l la s\/∃(i:Nat)(k:i<I vs)(u:zA),(w vs[i]).1=O u/\re env (w vs[i]).2 u s:=λs q=>zt ⟨i,k,u,Q,q⟩
 obtain⟨d,j,F,L,Wz,hz⟩:∃d j F L,ry (fB env u)=aTu [bI d,J (j:Nat),F,zP L]/\((L=G/\fB env u=U)\/(L=Y/\∃e,F=iZ e d.f.toNat/\fB env u=O (d,j,e))):=by
  cases hc:fB env u with
  |none=>exact⟨D0,0,_,G,rfl,zq ⟨rfl,rfl⟩⟩
  |some r=>let⟨d',j,e⟩:=r;exact⟨d',j,_,Y,rfl,zt ⟨rfl,e,rfl,rfl⟩⟩
 rw[Wz]at c;refine ax (Q0:=λa g=>∃N,rz env (w vs[i]).2 tr vs u N (ad (cN d) 38) a g/\aa a 12 (pB N)/\aa a 13 (J (j:Nat))/\aa a 14 F/\aa a 15 (zP L)) ((ap2 DF c g5).Mo fP dN aP aP) λCb h4⟨N,Gb,x,y,f,A⟩=>?_;refine ax (Q0:=λa g=>L=Y/\rz env (w vs[i]).2 tr vs u N (ad (cN d) 38) a g/\aa a 12 (pB N)/\aa a 13 (J (j:Nat))/\aa a 14 F) ((ap3 Gb x y f A).Mo fP (λ_ q=>M _ q.2) aP aP) λIK h5⟨jF,Wh,x,y,f⟩=>?_
 obtain⟨e,rfl,B⟩:∃e,F=iZ e d.f.toNat/\fB env u=O (d,j,e):=by
  rcases hz with⟨T,_⟩|⟨_,X⟩
  .rw[jF]at T;cases T
  .exact X
 have hjl:=S _ _ _ _ B
 obtain⟨b,o,kI,hz2⟩:∃b o,Gh (br (tr,d.aY[j].name))=aTu [dU b,zP o]/\(o=Y->br (tr,d.aY[j].name)=O b):=by
  cases br (tr,d.aY[j].name)with
  |none=>exact⟨TZ,G,rfl,λq=>by cases q⟩
  |some t'=>exact⟨t',Y,rfl,λ_=>rfl⟩
 have n:=n d.aY[j].name;rw[kI]at n;refine ax (Q0:=λa g=>∃N,rz env (w vs[i]).2 tr vs u N (ad (du b) 145) a g/\aa a 16 (pB N)/\aa a 14 (iZ e d.f.toNat)/\aa a 15 (zP o)) ((anK hjl Wh x y f n).Mo fP dN aP aP) λIL h6⟨N2,Qm,C,f,A⟩=>?_;refine ax (Q0:=λa g=>o=Y/\rz env (w vs[i]).2 tr vs u N2 (ad (du b) 145) a g/\aa a 16 (pB N2)/\aa a 14 (iZ e d.f.toNat)) ((anL Qm C f A).Mo fP (λ_ q=>M _ q.2) aP aP) λCe h7⟨P,Gi,C,f⟩=>?_;refine ax (Q0:=λa g=>Lp env (w vs[i]).2 b vs u a g/\aa a 14 (iZ e d.f.toNat)) ((anM Gi C f).Mo fP dN aP aP) λDG h8⟨Mh,f⟩=>?_;have hyl:=v _ _ _ _ Q B;refine(anN Mh f R (by omega)).Mo (λs q=>?_) dN aP aP;obtain⟨tm9,h9,rfl,st9⟩:=q.elim;exact .mk ⟨i,k,u,d,j,e,b,d.aY[j].name,hv,Q,B,hz2 P,st9⟩
end
def acs(h:c<=e)(f:zD a<=zD d)(q:fa (e,d)<n):fa (c,a)<n:=by
 unfold fa at q⊢;have g:c.toNat<=e.toNat:=by omega
 have:=vb 1000000000 g;exact xN (Nat.add_le_add this f) q
def acu{b:zA}{M:Nat}(h:c<e)(g:0<=c)(d:zD a<=1000000000)(q:fa (e,b)<M):fa (c,a)<M:=by
 unfold fa at q⊢;have f:c.toNat+1<=e.toNat:=by omega
 have:=vb 1000000000 f;refine xN (yd ?_ (Nat.le_add_right _ _)) q;refine yd ?_ this;rw[Nat.succ_mul];exact Nat.add_le_add_left d _
section
variable(env:List zB)
structure Gj(M:Nat)(wf:Int×zA->Option zA×Int):Prop where
 fn:aLk env 220 (λx:Int×zA=>ni x/\fa x<M) nI (λx=>x.1) (λx=>(wf x).2) (λx=>mJ (wf x).1)
 ok:∀x,ni x->fa x<M->nc x (wf x)
abbrev LX:=Int×Tree×List zA
abbrev LF(b:Nat)(x:LX):List E:=[pB b,dU x.2.1,al x.2.2]
structure LG(n M:Nat)(x:LX):Prop where
 IQ:iN x.1
 tr:mr n 200 x.2.1
 ne:x.2.2≠[]
 len:I x.2.2<=1000
 xs:∀a∈x.2.2,aI cC a/\(zD a:Int)+AD*x.1<=Fx/\fa (x.1,a)<M
structure adZ(n M:Nat)(l l':Int)(k:Nat)(tr:Tree)(vs:List zA):Prop where
 h0:0<=l'
 hl:l'<=l
 tr:mr n k tr
 ne:vs≠[]
 len:I vs+250*k<=51000
 xs:∀a∈vs,aI cC a/\(zD a:Int)+AD*l'<=Fx/\fa (l',a)<M
def ap4(hE:pX env){S:Int×zA->Option zA×Int}(hw:Gj env k S)(n:Nat):
 ∃f:LX->pz×Int,aLk env 282 (LG n k) LF (λx=>x.1) (λx=>(f x).2) (λx=>(f x).1.mo)/\∀x,LG n k x->Dj n x.1 (f x):=by
 refine H2 (β:=pz×Int) (λ(x:LX) r=>mc env r.2) (λ_ r=>r.1.mo) (λx r=>Dj n x.1 r) ?_;rintro⟨l,tr,Q⟩ ⟨hl,Ch,jE,hlen,iO⟩;have hl:iN l:=hl;have Ch:mr n 200 tr:=Ch;have jE:Q≠[]:=jE;have hlen:I Q<=1000:=hlen;have iO:∀a∈Q,aI cC a/\(zD a:Int)+AD*l<=Fx/\fa (l,a)<k:=iO;let⟨bf,L8,hbq⟩:=akY
 obtain⟨C,hC,Vc,U9,aws,awt⟩:∃C,aR Z prog C/\bQ C 220 320 G (λx:Int×zA=>ni x/\fa x<k) nI (λx=>mc env x.1) (λx=>mc env (S x).2) (λx=>mJ (S x).1)/\bQ C 298 320 G (λx:Int×zA=>zD x.2<1073741824) nI (λx=>mc env x.1) (λx=>mc env x.1) (λx=>.ret (ry (fB env x.2)))/\
  Has C 299 (λx:Tree×ByteArray=>I x.1.cb<ao) (λx=>[dU x.1,zN x.2]) (λx=>Gh (bf x))/\C 297=aLf 31 Y (λl:List zA=>l≠[]/\I l<=1073741824) (λl=>[al l]) (λl=>zF D l) (λb l=>zL (pO b) (I l) (I l)):=
  ⟨_,iv (iv (aZ (Jv aW aaI) L8) (abD env hE)) hw.fn,bQ.add λb b' x y e=>(by
     let⟨x1,x2⟩:=x;let⟨y1,y2⟩:=y;simp at e;refine⟨e.1,λe2=>?_⟩;simp at e2;have e3:=cf e.2;subst e2;subst e3;exact⟨rfl,rfl⟩),bQ.skip (by decide) (bQ.add λb b' x y e=>(by
     simp at e;refine⟨e.1,λe2=>?_⟩;let⟨x1,x2⟩:=x;let⟨y1,y2⟩:=y;have e2:x1=y1:=by simpa using e2
     have e3:x2=y2:=cf e.2;subst e2;subst e3;exact⟨rfl,rfl⟩)),Has.Sk (by decide) (Has.Sk (by decide) (Has.Ad λx y e=>(by
     let⟨x1,x2⟩:=x;let⟨y1,y2⟩:=y;simp at e;have e1:x1=y1:=CB (by have:=e.1;unfold dU at this;injection this with this;injection this);rw[e1,e.2]))),rfl⟩
 have awu:∀n m,af Z C n (aj 297 [al Q] m)=.r (zL (pO m.n) (I Q) (I Q)) (m.w (K (zF D Q) 31 Y)) U:=λn m=>Ta awt (λx y e=>by simp at e;exact mN e) n (x:=Q) ⟨jE,by omega⟩ m
 have run:∃r:pz×Int,Dj n l r/\gJ 320 G (mc env r.2) (cB Z (af Z C (300+1)) 282 (LF 0 (l,tr,Q)) (H.e.w (ad (mc env l) 320)) U (Z.f 282)) r.1.mo:=by
  refine aaj (Pr:=λr:pz×Int=>Dj n l r) (mo:=λr=>r.1.mo) (c2:=λr=>mc env r.2) (n:=300) F282 aiS rfl ?_;show ay (λs=>∃r:pz×Int,Dj n l r/\cn Z [yB 6 31,yx 7,yx 8,yB 9 31] 320 G r.1.mo (mc env r.2) s) (λs=>∃r:pz×Int,Dj n l r/\cn Z [yB 6 31,yx 7,yx 8,yB 9 31] 320 G r.1.mo (mc env r.2) s) _ _ _;refine ax (Q0:=λR h=>h.b=0/\h.n=4/\ae h 0 (ad (mc env l) 320)/\ae h 1 (ad (du tr) 145)/\ae h 2 (ad z5 31)/\ae h 3 (ad z5 31)/\aa R 0 (pB 0)/\aa R 2 (al Q)/\aa R 4 (pB 1)/\aa R 6 (pB 2)/\aa R 9 (pB 3)) ?_ λR h⟨V,N,g0,g1,g2,g3,t0,t2,t4,t6,t9⟩=>?_
  .simp[z,f282];exact .mk ⟨by simp,by simp,by simp,by simp,by simp,by simp,by simp,by simp,by simp,by simp,by simp⟩
  refine ax (Q0:=λR h=>h.b=0/\h.n=5/\ae h 0 (ad (mc env l) 320)/\ae h 1 (ad (du tr) 145)/\ae h 2 (ad z5 31)/\ae h 3 (ad z5 31)/\ae h 4 (K (zF D Q) 31 Y)/\aa R 0 (pB 0)/\aa R 10 (zL (pO 4) (I Q) (I Q))/\aa R 4 (pB 1)/\aa R 6 (pB 2)/\aa R 9 (pB 3)) ?_ λR h⟨V,N,g0,g1,g2,g3,g4,t0,t10,t4,t6,t9⟩=>?_
  .simp[z,f282,t2,awu,N];exact .mk ⟨by simp[V],by simp[N],by simp[N,g0],by simp[N,g1],by simp[N,g2],by simp[N,g3],by simp[N],by simp[t0],by simp,by simp[t4],by simp[t6],by simp[t9]⟩
  refine ax (Q0:=Lp env l tr Q zT) ?_ λR h st=>?_
  .simp[z,f282,N];exact .mk ⟨by simp[V],by simp[N],by simp[N,g0],by simp[N,g1],by simp[N,g2],by simp[N,g3],⟨z5,by simp[N],rfl,rfl,rS⟩,⟨4,by omega,by simp[N],by simp[N,g4],by simp[t10]⟩,by simp[t0],by simp[t4],by simp[t6],by simp[t9],by simp⟩
  have lno:∀B X s,0<=B->B<=l->re env B X s->∃r:pz×Int,Dj n l r/\cn Z [yB 6 31,yx 7,yx 8,yB 9 31] 320 G r.1.mo (mc env r.2) s:=λB X s h1 h2 q=>⟨(.no X,B),⟨h1,h2⟩,q⟩;refine ax (Q0:=λR h=>∃B g A F X,adZ n k l B g A F/\A.kind≠1/\Lp env B A F X R h) ?_ λR h⟨B,g,A,F,X,L,hk,st⟩=>?_
  .refine pE 50 (λg s'=>∃B A F X,adZ n k l B g A F/\bB (Lp env B A F X) s') 200 ⟨l,tr,Q,zT,⟨hl.1,xW _,Ch,jE,by omega,iO⟩,.mk st⟩ (by omega) ?_;rintro g s' m ⟨B,A,F,X,L,hs⟩ hm;obtain⟨Ce,h7,rfl,st⟩:=hs.elim;by_cases hk:A.kind=1
   .obtain⟨k0,rfl,B8,kI⟩:∃k0,g=k0+1/\I A.cb<1000000/\∀b∈A.cb,b.2.1=G->mr n k0 b.2.2:=by
     cases L.tr with
     |leaf h=>exact absurd hk h
     |split h N V=>exact⟨_,rfl,N,V⟩
    have WB:=L.len
    have nj:∀(i:Nat)(v:i<I F),ni (B,F[i]):=λi v=>by let⟨q1,q2,q3⟩:=L.xs _ (zW v);exact⟨⟨L.h0,by have:=L.hl;have:=hl.2;show B<=1000000;omega⟩,q1,q2⟩
    have WC:∀(i:Nat)(v:i<I F),fa (B,F[i])<k:=λi v=>(L.xs _ (zW v)).2.2;have auf:∀(i:Nat)(v:i<I F),nc (B,F[i]) (S (B,F[i])):=λi v=>hw.ok _ (nj i v) (WC i v)
    have P:∀(i:Nat)(v:i<I F) u,(S (B,F[i])).1=O u->0<=(S (B,F[i])).2/\(S (B,F[i])).2<=B/\aI cC u/\(zD u:Int)<=zD F[i]+6000*(B-(S (B,F[i])).2)/\(zD F[i]:Int)+6000*B<=400000000:=λi v u hu=>by have:=auf i v;unfold nc at this;rw[hu]at this;let⟨a1,a2,a3,a4⟩:=this;exact⟨a1,a2,a3,a4,(L.xs _ (zW v)).2.1⟩
    refine(akZ (w:=λt=>S (B,t)) (br:=bf) st hk (by omega) L.ne (λi v m hg=>Vc.ev (T:=Z) _ (x:=(B,F[i])) ⟨nj i v,WC i v⟩ hg) (λi v u m hu hg=>?_) (λu d j ys Mj=>(TW hE Mj).2.1) (λi v u d j ys hu Mj=>?_) (λs m=>aws.ev (T:=Z) _ (x:=(A,s)) (by show I A.cb<ao;unfold ao;omega) m)).Mo (λs q=>?_) (λs q=>?_) aP (λch s q=>?_)
    .let⟨a1,a2,a3,a4,a5⟩:=P i v u hu;exact U9.ev (T:=Z) _ (x:=((S (B,F[i])).2,u)) (show zD u<1073741824 by omega) hg
    .let⟨a1,a2,a3,a4,a5⟩:=P i v u hu;let⟨_,_,hy,_,_⟩:=TW hE Mj;have:=En u;rw[hy];omega
    .obtain⟨DG,h8,rfl,i,v,u,d,j,ys,tr2,s2,hv,hu,Mj,V,qh⟩:=q.elim;let⟨a1,a2,a3,a4,a5⟩:=P i v u hu;let⟨_,_,hy,hy2,hy3⟩:=TW hE Mj;obtain⟨bb,hbm,IR,rfl⟩:=hbq (A,s2) (by show I A.cb<ao;unfold ao;omega) _ V;have hl2:=hl.2;refine⟨k0,by omega,_,_,_,_,⟨a1,by have:=L.hl;omega,kI _ hbm IR,λq=>L.ne (uo.1 q).1,by rw[List.length_append];omega,λa W=>?_⟩,.mk qh⟩;rcases List.mem_append.1 W with W|W
     .let⟨q1,q2,q3⟩:=L.xs a W;refine⟨q1,by show(zD a:Int)+6000*_<=400000000;have q2:(zD a:Int)+6000*B<=400000000:=q2;omega,?_⟩;exact acs a2 (zR _) q3
     .have W:=xf W;rw[hy]at W;have hn1:=GL W;have hn2:=En u;refine⟨a3.args a W,by show(zD a:Int)+6000*_<=400000000;omega,?_⟩;have q3:=WC i v;by_cases he:(S (B,F[i])).2=B
      .rw[he]at a4⊢;exact acs (xW _) (by omega) q3
      .exact acu (by omega) a1 (by have:=L.h0;omega) q3
    .rcases q with q|⟨i,v,u,hu,q⟩
     .exact lno B X s L.h0 L.hl q
     .let⟨a1,a2,_⟩:=P i v u hu;exact lno _ u s a1 (by have:=L.hl;omega) q
    .let⟨i,v,hu,q⟩:=q;exact⟨(.aU,(S (B,F[i])).2),trivial,q⟩
   .refine(anI st hk).Mo dN dN (λj s q=>⟨q.1,?_⟩) aP;obtain⟨DG,h8,rfl,qh⟩:=q.2.elim;exact .mk ⟨B,g,A,F,X,L,hk,qh⟩
  let⟨V,N,g0,g1,g2,g3,_,⟨b,hb4,B8,gb,t10⟩,t0,t4,t6,t9,t11⟩:=st
  have ade:aI (jI n) A.body/\zD A.body<=5000:=by
   cases L.tr with
   |leaf h h1 h2=>exact⟨h1,h2⟩
   |split h=>exact absurd h hk
  have s3:=λ(h0:H)(q:ae h0 3 (ad z5 31))=>fp (c:=z5) rfl rfl q rfl;have p:=fh (c:=z5) rfl;have n2:¬b=2:=by omega
  have n3:¬b=3:=by omega
  simp[z,f282,t4,t6,t9,t10,V,g1,g2,g3,jn,s3];refine⟨.yes A.body F,B,⟨L.h0,L.hl,ade.1,ade.2,λa W=>⟨(L.xs a W).1,?_⟩,by have:=L.len;omega,L.ne⟩,rfl,rfl,aTu [D A.body,zL (pO b) (I F) (I F),zP Y,aAg z5],_,_,rfl,by simp[t6,t9,V,p];rfl,.Tt (.Cs (.Pu (bg _)) (.Cs (Hg (gr:=Y) rfl ?_) (.Cs eI (.Cs (rS _) .Nl)))),by simp[g0]⟩
  .have:=(L.xs a W).2.1;have q2:(zD a:Int)+6000*B<=400000000:=this;have:=L.h0;show(zD a:Int)<=400000000;omega
  .unfold mB;rw[if_neg (by omega)];simp[n2,n3,gb]
 let⟨r,hr,o⟩:=run;exact⟨r,hr,λh b V=>o.toM (a0:=LF 0 (l,tr,Q)) tok hC (.Cs (.ptr 0) (.Cs (.pure (Cy tr)) (.Cs (.pure (fb Q)) .nil))) (λm a' q=>nV m a' q) (iI env l) (iI env r.2) V⟩
end
def F286:Z.f 286=O f286:=by kernel_rfl
def OB:Array Oper:=bq (z f286 pF1)
def EH:Array Oper:=bq (z f286 pF4)
def aiU:f286.body=O (zS (z f286 pF0) (zS (yM 1 OB Y) (zS (z f286 pF2) (zS (z f286 pF3) (zS (yM 5 EH Y) sw))))):=rfl
def TX:Tr Nat:=bj OB.toList 0 .Nl
def rT:Tr Nat:=bj EH.toList 0 .Nl
def ak0:aN (aE TX 9) 8=Y:=by kernel_rfl
def ak1:(aN (aE rT 10) 9&&aN (aE rT 13) 9&&aN (aE rT 13) 10&&aN (aE rT 11) 10&&aN (aE rT 12) 10&&aN (aE rT 14) 10&&aN (aE rT 11) 9&&aN (aE rT 12) 9&&aN (aE rT 14) 9)=Y:=by kernel_rfl
section
variable(env:List zB){lf:zA->List aB->zA×Int}
structure BX(M:Nat)(x:CX):Prop where
 cx:PB env x
 top:(Lu x:Int)+AD*x.1<=Fx
 mu:∀a∈x.2.2.2,fa (x.1,a)<M
def BX.nj{x:CX}(h:BX env n x)(b:a∈x.2.2.2):ni (x.1,a):=⟨h.cx.IQ,h.cx.xs a b,by have c:=h.top;have d:=GL b;have e:(bA x.2.2.2+I x.2.2.2:Nat)+(6000:Nat)*x.1<=(400000000:Int):=c;show(zD a:Int)+(6000:Nat)*x.1<=400000000;omega⟩
def ak2{xs:List zA}(a:k<=n)(b:n<I xs):bA (xs.take k)+k+bA (xs.drop (n+1))+(I xs-(n+1))+zD xs[n]<=bA xs+I xs:=by
 have d:bA xs=bA (xs.take n)+bA (xs.drop n):=by rw[<-Gw,xO]
 have e:bA (xs.drop n)=zD xs[n]+bA (xs.drop (n+1)):=by rw[List.drop_eq_getElem_cons b,hG]
 have c:bA (xs.take n)=bA ((xs.take n).take k)+bA ((xs.take n).drop k):=by rw[<-Gw,xO]
 rw[List.take_take,Nat.min_eq_left a]at c;omega
def aht(hE:pX env)(py:Dh lf){A:Int×zA->Option zA×Int}(hw:Gj env j A):U7 env 286 (λx=>BX env j x/\x.2.1.kind=5):=by
 refine H2 (λx r=>mc env r.2) (λ_ r=>r.1.mo) (λx r=>pe x.1 (Lu x) r) ?_;rintro⟨l,e,t,xs⟩ ⟨hX,hk⟩;have nj:=λa ha=>BX.nj (env:=env) hX (a:=a) ha;let⟨⟨hl,oL,oe,W,iO,eU,i,hi,hd,Lx⟩,LH,qj⟩:=hX;have hl:iN l:=hl;have oL:∀v∈t.H,v.v=[]:=oL;have oe:I t.H<ao:=oe;have W:((I t.H:Nat):Int)=e.params:=W;have iO:∀a∈xs,aI cC a:=iO;have qj:∀a∈xs,fa (l,a)<j:=qj;have nj:∀a∈xs,ni (l,a):=nj;have LH:((bA xs+I xs:Nat):Int)+(6000:Nat)*l<=400000000:=LH;have hd:e.decl=i:=hd;have hk:e.kind=5:=hk;have hD:=hE.all env[i] (zW hi);have PD:=acp hD;have ph:=hl.1
 have Cg:e.params=env[i].bD.params:=by
  cases Lx with
  |plain a o hp ht=>have o:e.kind=env[i].k:=o;omega
  |family a o=>have o:e.kind=3:=o;omega
  |Di a o=>have o:e.kind=4:=o;omega
  |bD a o hp=>exact hp
  |func a o=>have o:e.kind=6:=o;omega
 let⟨fi,hfi,Gk⟩:=apX env hE py
 obtain⟨C,hC,awv,Vc,Va⟩:∃C,aR Z prog C/\bQ C 300 320 G (Lz env) PC (λx=>mc env x.1) (λx=>mc env (fi x).2) (λx=>(fi x).1.mo)/\bQ C 220 320 G (λx:Int×zA=>ni x/\fa x<j) nI (λx=>mc env x.1) (λx=>mc env (A x).2) (λx=>mJ (A x).1)/\
  Has C 281 (λd:zB=>zD d.t<1073741824) (λd=>[bI d]) (λd=>J (BT d)):=
  ⟨_,iv (iv (aZ aW XR) hw.fn) hfi,bQ.add λb b' x y e=>(by
     let⟨x1,x2,x3,x4,x5⟩:=x;let⟨y1,y2,y3,y4,y5⟩:=y;simp at e;refine⟨e.1,λe2=>?_⟩;have e2:x1=y1:=by simpa using e2
     have e3:=Af e.2.1;have e4:=cf e.2.2.1;have e5:=mN e.2.2.2.1;have e6:=cf e.2.2.2.2;have e3:x2=y2:=e3;have e4:x3=y3:=e4;have e5:x4=y4:=e5;have e6:x5=y5:=e6;subst e2;subst e3;subst e4;subst e5;subst e6;exact⟨rfl,rfl⟩),bQ.skip (by decide) (bQ.add λb b' x y e=>(by
     let⟨x1,x2⟩:=x;let⟨y1,y2⟩:=y;simp at e;refine⟨e.1,λe2=>?_⟩;have e2:x1=y1:=by simpa using e2
     have e3:x2=y2:=cf e.2;subst e2;subst e3;exact⟨rfl,rfl⟩)),Has.Sk (by decide) (Has.Sk (by decide) (Has.Ad λx y e=>(by simp at e;rw[Af e])))⟩
 have Vb:∀n m,af Z C n (aj 281 [bI env[i]] m)=.r (J (dk env[i]:Nat)) m U:=λn m=>by rw[<-PD];exact Va.ev (T:=Z) n (x:=env[i]) hD.type.1 m
 have p:=fh (c:=z5) rfl;have s3:=λ(h0:H)(q:ae h0 3 (ad z5 31))=>fp (c:=z5) rfl rfl q rfl
 have run:∀R:RC×Int,(I xs<=dk env[i]->R=(.no,l))->
  (∀L:dk env[i]<I xs,(A (l,xs[dk env[i]])).1=U->R=(.aU,(A (l,xs[dk env[i]])).2))->
  (∀(L:dk env[i]<I xs) u,(A (l,xs[dk env[i]])).1=O u->R=fi ((A (l,xs[dk env[i]])).2,env[i],t,xs,u)/\Lz env ((A (l,xs[dk env[i]])).2,env[i],t,xs,u))->
  ∀h b,ae h b (ad (mc env l) 320)->bP Z prog (zU (za 286) #[] #[]) (aLl b (l,e,t,xs)) h U (R.1.mo.bi (h.p b (ad (mc env R.2) 320))):=by
  intro R r1 r2 r3 h b N;refine gJ.toM (a0:=aLl 0 (l,e,t,xs)) (C:=C) (n:=3) tok hC (lm F286 aiU rfl ?_) (.Cs (.ptr 0) (.Cs (.pure (Ed e)) (.Cs (.pure (bg t)) (.Cs (.pure (fb xs)) .nil)))) (λm a' q=>nV m a' q) (iI env l) (iI env R.2) N;show ay (cn Z [yB 8 31,yx 9] 320 G R.1.mo (mc env R.2)) (cn Z [yB 8 31,yx 9] 320 G R.1.mo (mc env R.2)) ap (dD 320 G R.1.mo (mc env R.2)) _;refine ax (Q0:=λP h=>h.b=0/\h.n=4/\ae h 0 (ad (mc env l) 320)/\ae h 1 (ad (ew e) 163)/\ae h 2 (ad (ah (D t)) 31)/\ae h 3 (ad z5 31)/\aa P 0 (pB 0)/\aa P 3 (al xs)/\aa P 5 (pB 1)/\aa P 6 (pB 2)/\aa P 8 (pB 3)) ?_ λP h⟨N,L,g0,g1,g2,g3,X,S,t5,t6,V⟩=>?_
  .simp[z,f286];exact .mk ⟨by simp,by simp,by simp,by simp,by simp,by simp,by simp,by simp,by simp,by simp,by simp⟩
  refine ax (Q0:=λP h=>h.b=0/\h.n=5/\ae h 0 (ad (mc env l) 320)/\ae h 2 (ad (ah (D t)) 31)/\ae h 3 (ad z5 31)/\ae h 4 (ad (cN env[i]) 38)/\aa P 0 (pB 0)/\aa P 3 (al xs)/\aa P 6 (pB 2)/\aa P 8 (pB 3)/\aa P 10 (pB 4)) ?_ λP h⟨N,L,g0,g2,g3,g4,X,S,t6,V,B⟩=>?_
  .rw[eg,dJ];have b98:=ak0;have e0:bj OB.toList 0 .Nl=TX:=rfl;rw[e0];generalize TX=bs at*;have l0:0<h.n:=by omega
   have l1:1<h.n:=by omega
   have ix:=λ(h:H)=>Nm (h:=h) (k:=zx) hi;have s:=λ(h0:H)(q:ae h0 4 (ad fS 38))=>Ey (x:=env[i]) q rfl;simp[OB,bq,z,f286,fT,fZ,X,t5,N,L,g0,g1,KY,hd,ix,s,b98,cV,cZ,cY,dc,dt,cO,cR];exact .mk ⟨by simp[N],by simp[L],by simp[L,g0],by simp[L,g2],by simp[L,g3],by simp,by simp[X],by simp[S],by simp[t6],by simp[V],by simp⟩
  refine ax (Q0:=λg h'=>h'=h/\aa g 0 (pB 0)/\aa g 3 (al xs)/\aa g 6 (pB 2)/\aa g 8 (pB 3)/\aa g 10 (pB 4)/\aa g 11 (J (dk env[i]:Nat))) ?_ λfQ h1⟨e1,X,S,t6,V,B,F⟩=>?_
  .simp[z,f286,B,N,g4,Vb];exact .mk ⟨rfl,by simp[X],by simp[S],by simp[t6],by simp[V],by simp[B],by simp⟩
  subst e1;by_cases cA:dk env[i]<I xs
  .refine ax (Q0:=λg h'=>h'=h1/\aa g 0 (pB 0)/\aa g 3 (al xs)/\aa g 6 (pB 2)/\aa g 8 (pB 3)/\aa g 10 (pB 4)/\aa g 11 (J (dk env[i]:Nat))) ?_ λfQ h2⟨e1,X,S,t6,V,B,F⟩=>?_
   .have WD:¬(I xs:Int)<=(dk env[i]:Nat):=by omega
    simp[z,f286,S,F,WD,an];exact .mk ⟨rfl,by simp[X],by simp[S],by simp[t6],by simp[V],by simp[B],by simp[F]⟩
   subst e1;have r2:=r2 cA;have r3:=r3 cA;have Q:=zW cA;have eO:∀n(m:H),ae m 0 (ad (mc env l) 320)->af Z C n (aj 220 [pB 0,D xs[dk env[i]]] m)=(mJ (A (l,xs[dk env[i]])).1).bi (m.p 0 (ad (mc env (A (l,xs[dk env[i]])).2) 320)):=λn m hg=>Vc.ev (T:=Z) n (x:=(l,xs[dk env[i]])) ⟨nj _ Q,qj _ Q⟩ hg;have ix:=λ(h:H)=>nu (h:=h) (k:=zx) cA;generalize A (l,xs[dk env[i]])=w at r2 r3 eO;let⟨wu,l'⟩:=w;rw[run_seq,eg,dJ];have bo:=ak1;simp only[zX]at bo;let⟨⟨⟨⟨⟨⟨⟨⟨b1,b2⟩,b3⟩,b4⟩,b5⟩,b6⟩,b7⟩,b8⟩,b9⟩:=bo;have e0:bj EH.toList 0 .Nl=rT:=rfl;rw[e0];generalize rT=bs at*;have l0:0<h2.n:=by omega
   have l2:2<h2.n:=by omega
   have l3:3<h2.n:=by omega
   have l4:4<h2.n:=by omega
   have am9:=λ(bp:Nat)(x:aG)(l:List aG)(q:x.i=9)=>qo (p:=9) (bp:=bp) x l (zq q);have aww:=λ(bp:Nat)(x:aG)(l:List aG)(q:x.i=10)=>qo (p:=10) (bp:=bp) x l (zq q);have aug:=λ(x:aG)(l:List aG)(q:x.i=9)=>qo (p:=10) (bp:=aE bs 10) x l (zt (by rw[q];exact b1));cases wu with
   |none=>
    have r2:=r2 rfl;subst r2;have eO:∀n(m:H),ae m 0 (ad (mc env l) 320)->af Z C n (aj 220 [pB 0,D xs[dk env[i]]] m)=.p [⟨eF,G,G⟩] (m.p 0 (ad (mc env l') 320)) U:=eO;simp[EH,bq,z,f286,X,S,t6,B,F,N,g0,g2,g4,l0,l2,l4,ix,eO,ol,rM,b1,b2,b7,b8,b9,am9,cV,cZ,cY,dc,dt,cO,cR];exact dD.pure kn (by simp)
   |some u=>
    let⟨r3,IM⟩:=r3 u rfl;subst r3;have eO:∀n(m:H),ae m 0 (ad (mc env l) 320)->af Z C n (aj 220 [pB 0,D xs[dk env[i]]] m)=.r (D u) (m.p 0 (ad (mc env l') 320)) U:=eO;have f:∀n(m:H),ae m 0 (ad (mc env l') 320)->af Z C n (aj 300 [pB 0,bI env[i],D t,al xs,D u] m)=((fi (l',env[i],t,xs,u)).1.mo).bi (m.p 0 (ad (mc env (fi (l',env[i],t,xs,u)).2) 320)):=λn m hg=>awv.ev (T:=Z) n (x:=(l',env[i],t,xs,u)) IM hg;generalize fi (l',env[i],t,xs,u)=r at f⊢;let⟨rc,WE⟩:=r;cases rc with
    |aU=>
     have f:∀n(m:H),ae m 0 (ad (mc env l') 320)->af Z C n (aj 300 [pB 0,bI env[i],D t,al xs,D u] m)=.p [⟨eF,G,G⟩] (m.p 0 (ad (mc env WE) 320)) U:=f;simp[EH,bq,z,f286,X,S,t6,B,F,N,g0,g2,g4,l0,l2,l4,ix,eO,f,ol,rM,b1,b3,b4,b5,b6,aww,aug,cV,cZ,cY,dc,dt,cO,cR];exact dD.pure kn (by simp)
    |no=>
     have f:∀n(m:H),ae m 0 (ad (mc env l') 320)->af Z C n (aj 300 [pB 0,bI env[i],D t,al xs,D u] m)=.r (aTu [D zT,zP G]) (m.p 0 (ad (mc env WE) 320)) U:=f;simp[EH,bq,z,f286,X,S,t6,V,B,F,N,g0,g2,g3,g4,l0,l2,l3,l4,ix,eO,f,b1,b2,b3,cV,cZ,cY,dc,dt,cO,cR];exact cn.pure (d:=aTu [D zT,zP G]) (.Tt (.Cs (bg _) dF)) (by simp[V,N])
    |yes v=>
     have f:∀n(m:H),ae m 0 (ad (mc env l') 320)->af Z C n (aj 300 [pB 0,bI env[i],D t,al xs,D u] m)=.r (aTu [D v,zP Y]) (m.p 0 (ad (mc env WE) 320)) U:=f;simp[EH,bq,z,f286,X,S,t6,V,B,F,N,g0,g2,g3,g4,l0,l2,l3,l4,ix,eO,f,b1,b2,b3,cV,cZ,cY,dc,dt,cO,cR];exact cn.pure (d:=aTu [D v,zP Y]) (.Tt (.Cs (bg _) dF)) (by simp[V,N])
  .have r1:=r1 (by omega);subst r1;have WD:(I xs:Int)<=(dk env[i]:Nat):=by omega
   refine ax (Q0:=λ_ _=>False) ?_ λ_ _ q=>q.elim;simp[z,f286,S,V,F,g3,WD,an,jn,s3];exact⟨rfl,rfl,aTu [aAg z5,zP G],_,_,rfl,by simp[V,N,p];rfl,Lv _,by simp[g0]⟩
 by_cases L:dk env[i]<I xs
 .have Q:=zW L;have WG:=hw.ok _ (nj _ Q) (qj _ Q);unfold nc at WG;cases hu:(A (l,xs[dk env[i]])).1 with
  |none=>
   exact⟨(.aU,(A (l,xs[dk env[i]])).2),trivial,run _ (λq=>by omega) (λ_ _=>rfl) (λ_ u q=>by rw[hu]at q;cases q)⟩
  |some u=>
   rw[hu]at WG;let⟨a1,a2,a3,a4⟩:=WG;have a2:(A (l,xs[dk env[i]])).2<=l:=a2;have a4:(zD u:Int)<=zD xs[dk env[i]]+(6000:Nat)*(l-(A (l,xs[dk env[i]])).2):=a4;have hm:=GL Q;have IM:Lz env ((A (l,xs[dk env[i]])).2,env[i],t,xs,u):=⟨⟨a1,by have:=hl.2;show _<=(1000000:Int);omega⟩,zW hi,oL,oe,by show((I t.H:Nat):Int)=_;rw[W,Cg],iO,by show bA xs+I xs<=500000000;omega,⟨a3,by show zD u<=500000000;omega⟩,by show BT env[i]<I xs;rw[PD];omega⟩;refine⟨fi ((A (l,xs[dk env[i]])).2,env[i],t,xs,u),?_,run _ (λq=>by omega) (λ_ q=>by rw[hu]at q;cases q) (λ_ v q=>by rw[hu]at q;cases q;exact⟨rfl,IM⟩)⟩;have ho:=Gk _ IM;have hat:=ak2 (xs:=xs) (n:=dk env[i]) (k:=ju env[i]) (by unfold dk;omega) L;generalize fi ((A (l,xs[dk env[i]])).2,env[i],t,xs,u)=r at ho⊢;let⟨rc,l2⟩:=r;cases rc with
   |aU=>trivial
   |no=>
    let⟨q1,q2⟩:=ho;exact⟨q1,Int.le_trans q2 a2⟩
   |yes v=>
    let⟨q1,q2,q3,q4⟩:=ho;refine⟨q1,Int.lt_of_lt_of_le q2 a2,q3,?_⟩;have q4:(zD v:Int)<=(bA (xs.take (ju env[i]))+ju env[i]+bA (xs.drop (dk env[i]+1))+(I xs-(dk env[i]+1))+zD u:Nat)+(6000:Nat)*((A (l,xs[dk env[i]])).2-l2):=q4;show(zD v:Int)<=(bA xs+I xs:Nat)+(6000:Nat)*(l-l2);omega
 .exact⟨(.no,l),⟨ph,xW _⟩,run _ (λ_=>rfl) (λq=>absurd q L) (λq=>absurd q L)⟩
end
def F287:Z.f 287=O f287:=by kernel_rfl
def OC:Array Oper:=bq (z f287 pF1)
def HE:Array Oper:=bq (z f287 pF3)
def J8:Array Oper:=bq (z f287 pF7)
def aiV:f287.body=O (zS (z f287 pF0) (zS (yM 1 OC Y) (zS (z f287 pF2) (zS (yM 4 HE Y) (zS (z f287 pF4) (zS (z f287 pF5) (zS (z f287 pF6) (zS (yM 10 J8 Y) sw)))))))):=rfl
def TY:Tr Nat:=bj OC.toList 0 .Nl
def Bs:Tr Nat:=bj HE.toList 0 .Nl
def N5:Tr Nat:=bj J8.toList 0 .Nl
def ak3:aN (aE TY 14) 13=Y:=by kernel_rfl
def ak4:([8,9,10,11,12,15,16,17,18].all (λi=>aN (aE Bs i) 7)&&aN (aE Bs 15) 13&&aN (aE Bs 18) 14&& !aN (aE Bs 13) 7&& !aN (aE Bs 14) 7)=Y:=by kernel_rfl
def aiW:([8,9,10].all (λi=>aN (aE N5 i) 3)&&[4,5,6,7].all (λi=> !aN (aE N5 i) 3))=Y:=by kernel_rfl
def bQ.ap5{T:au}{i:Bool}{c:Nat->A->List E}{j:A->List E}{d:A->MO}{k:aV}(a:bQ (bY f (qW t i L c R j d) k) f t i L c R j d)(l:C f=HZ (qW t i L c R j d))(n:Nat){x:A}(o:L x){b:Nat}{args:List E}
 (p:args.map dj=c b x)(q:ae h b (K (R x) t i)):af T C n (aj f args h)=(d x).bi (h.p b (K (j x) t i)):=by
 refine TJ l n ?_;have:=a x o h b q;rw[gC]at this;rw[p];exact this
section
variable(env:List zB){lf:zA->List aB->zA×Int}{sb:zA->List zA->zA×Int}
abbrev ad0(n M:Nat)(f:LX->pz×Int):List E->H->Option ag:=qW 320 G (LG n M) LF (λx=>mc env x.1) (λx=>mc env (f x).2) (λx=>(f x).1.mo)
def ass(n M:Nat)(f:LX->pz×Int):bQ (bY 282 (ad0 env n M f) cg) 282 320 G (LG n M) LF (λx=>mc env x.1) (λx=>mc env (f x).2) (λx=>(f x).1.mo):=bQ.add λb m x y e=>by
 let⟨c,d,g⟩:=x;let⟨h,i,j⟩:=y;simp at e;refine⟨e.1,λa=>?_⟩;have a:c=h:=by simpa using a
 have k:d=i:=CB (by have:=e.2.1;unfold dU at this;injection this with this;injection this);have l:g=j:=mN e.2.2;subst a;subst k;subst l;exact⟨rfl,rfl⟩
def anO(hE:pX env)(py:Dh lf)(A1:BR sb){wf:Int×zA->Option zA×Int}(hw:Gj env m wf):U7 env 287 (λx=>BX env m x/\x.2.1.kind=6):=by
 refine H2 (λx r=>mc env r.2) (λ_ r=>r.1.mo) (λx r=>pe x.1 (Lu x) r) ?_;rintro⟨l,e,t,o⟩ ⟨hX,hk⟩;have nj:=λa ha=>BX.nj (env:=env) hX (a:=a) ha;let⟨⟨hl,oL,oe,LB,iO,eU,i,hi,hd,Lx⟩,LH,qj⟩:=hX;have hl:iN l:=hl;have oL:∀v∈t.H,v.v=[]:=oL;have oe:I t.H<ao:=oe;have LB:((I t.H:Nat):Int)=e.params:=LB;have iO:∀a∈o,aI cC a:=iO;have qj:∀a∈o,fa (l,a)<m:=qj;have nj:∀a∈o,ni (l,a):=nj;have LH:((bA o+I o:Nat):Int)+(6000:Nat)*l<=400000000:=LH;have hd:e.decl=i:=hd;have hk:e.kind=6:=hk;have hD:=hE.all env[i] (zW hi);have ph:=hl.1
 obtain⟨j,hj,auh,hpe⟩:∃j,∃hj:j<I env[i].bk,e.item=j/\e.params=env[i].p:=by
  cases Lx with
  |plain a L hp ht=>have L:e.kind=env[i].k:=L;omega
  |family a L=>have L:e.kind=3:=L;omega
  |Di a L=>have L:e.kind=4:=L;omega
  |bD a L hp=>have L:e.kind=5:=L;omega
  |func a L j hj hx hp=>exact⟨j,hj,hx,hp⟩
 let⟨ha1,ha2,Ch⟩:=hD.bk _ (zW hj);generalize xb:env[i].bk[j]=A at ha1 ha2 Ch;obtain⟨k,IS⟩:∃k:Nat,A.arity=k:=⟨_,(Int.toNat_of_nonneg (by omega)).symm⟩;have hnp:env[i].p.toNat=I t.H:=by omega
 rw[hnp]at Ch;let⟨g,hg,VF⟩:=ap4 env hE hw (I t.H)
 obtain⟨C,hC,awx,Ly,awy,Wy⟩:∃C,aR Z prog C/\bQ C 301 320 G Ox KZ (λx=>mc env x.1) (λx=>mc env (x.1-1)) (λx=>ij sb (x.1,x.2.1,x.2.2.reverse))/\Has C 154 C2 (λx=>[D x.1,aO x.2]) (λx=>cj (lf x.1 x.2))/\C 282=HZ (ad0 env (I t.H) m g)/\C 79=Qj:=
  ⟨_,iv (aZ (Yb (Q4 (iv aW hg))) py.fn) (apW env A1),bQ.add λb b' x y e=>(by
     let⟨x1,x2,x3⟩:=x;let⟨y1,y2,y3⟩:=y;simp at e;refine⟨e.1,λe2=>?_⟩;have e2:x1=y1:=by simpa using e2
     have e3:x2=y2:=cf e.2.1;have e4:x3=y3:=mN e.2.2;subst e2;subst e3;subst e4;exact⟨rfl,rfl⟩),Has.Sk (by decide) (Has.Ad λx y e=>(by let⟨x1,x2⟩:=x;let⟨y1,y2⟩:=y;simp at e;rw[cf e.1,qy e.2])),rfl,rfl⟩
 have Ww:I o<ao:=by unfold ao;omega
 have px:∀n f u v zs,dj v=al zs->I zs<ao->af Z C n (aj 79 [D u,v] f)=.r (D (cF u zs)) f U:=λn f u v zs hv hz=>aaJ Wy n hv hz f;have BU:∀n f u,aI (jI (I t.H)) u->af Z C n (aj 154 [D u,aO t.H] f)=.r (cj (lf u t.H)) f U:=λn f u hu=>Ly.ev (T:=Z) n (x:=(u,t.H)) (hu.imp λu hu=>jI.Qh oe oL hu) f;have p:=fh (c:=z5) rfl;have s3:=λ(h0:H)(q:ae h0 3 (ad z5 31))=>fp (c:=z5) rfl rfl q rfl
 have no:∀(Q:Int)(B:Tr E)(h:H),aa B 8 (pB 3)->aa B 9 (zP G)->h.b=0->ae h 0 (ad (mc env Q) 320)->ae h 3 (ad z5 31)->cn Z [yB 8 31,yx 9] 320 G RC.no.mo (mc env Q) ⟨B,[],h,U⟩:=λQ B h S t9 V g0 g3=>
  ⟨rfl,rfl,aTu [aAg z5,zP G],_,h,rfl,by simp[S,t9,V,g3,p],Lv _,g0⟩
 have ad1:k<=I o->LG (I t.H) m (l,A.tree,o.take k):=λN=>⟨hl,Ch,by
  intro q;have:I (o.take k)=0:=by rw[show o.take k=[] from q];rfl
  rw[wV]at this;omega,by show(o.take k).length<=1000;rw[wV];omega,λa ha=>by
  have ha:=List.mem_of_mem_take ha;exact⟨iO a ha,(nj a ha).sz,qj a ha⟩⟩
 have run:∀R:RC×Int,(I o<k->R=(.no,l))->
  (k<=I o->(g (l,A.tree,o.take k)).1=.aU->R=(.aU,(g (l,A.tree,o.take k)).2))->
  (k<=I o->∀la,(g (l,A.tree,o.take k)).1=.no la->R=(.no,(g (l,A.tree,o.take k)).2))->
  (k<=I o->∀b vs,(g (l,A.tree,o.take k)).1=.yes b vs->aI (jI (I t.H)) b/\
    (¬(lf b t.H).2=0->R=(.no,(g (l,A.tree,o.take k)).2))/\((lf b t.H).2=0->Ox ((g (l,A.tree,o.take k)).2,(lf b t.H).1,vs)/\
      R=if(g (l,A.tree,o.take k)).2-1<0 then(.aU,(g (l,A.tree,o.take k)).2-1)else if(sb (lf b t.H).1 vs.reverse).2=0 then(.yes (cF (sb (lf b t.H).1 vs.reverse).1 (o.drop k)),(g (l,A.tree,o.take k)).2-1)else(.aU,(g (l,A.tree,o.take k)).2-1)))->
  ∀h b,ae h b (ad (mc env l) 320)->bP Z prog (zU (za 287) #[] #[]) (aLl b (l,e,t,o)) h U (R.1.mo.bi (h.p b (ad (mc env R.2) 320))):=by
  intro R r1 r2 r3 r4 h b V;refine gJ.toM (a0:=aLl 0 (l,e,t,o)) (C:=C) (n:=3) tok hC (lm F287 aiV rfl ?_) (.Cs (.ptr 0) (.Cs (.pure (Ed e)) (.Cs (.pure (bg t)) (.Cs (.pure (fb o)) .nil)))) (λf a' q=>nV f a' q) (iI env l) (iI env R.2) V;show ay (cn Z [yB 8 31,yx 9] 320 G R.1.mo (mc env R.2)) (cn Z [yB 8 31,yx 9] 320 G R.1.mo (mc env R.2)) ap (dD 320 G R.1.mo (mc env R.2)) _;refine ax (Q0:=λB h=>h.b=0/\h.n=4/\ae h 0 (ad (mc env l) 320)/\ae h 1 (ad (ew e) 163)/\ae h 2 (ad (ah (D t)) 31)/\ae h 3 (ad z5 31)/\aa B 0 (pB 0)/\aa B 3 (al o)/\aa B 5 (pB 1)/\aa B 6 (pB 2)/\aa B 8 (pB 3)) ?_ λB h⟨V,hn,g0,g1,g2,g3,t0,t3,t5,t6,S⟩=>?_
  .simp[z,f287];exact .mk ⟨by simp,by simp,by simp,by simp,by simp,by simp,by simp,by simp,by simp,by simp,by simp⟩
  refine ax (Q0:=λB h=>h.b=0/\h.n=5/\ae h 0 (ad (mc env l) 320)/\ae h 2 (ad (ah (D t)) 31)/\ae h 3 (ad z5 31)/\ae h 4 (ad (kb A) 147)/\aa B 0 (pB 0)/\aa B 3 (al o)/\aa B 6 (pB 2)/\aa B 8 (pB 3)/\aa B 10 (pB 4)) ?_ λB h⟨V,hn,g0,g2,g3,g4,t0,t3,t6,S,F⟩=>?_
  .rw[eg,dJ];have b1:=ak3;have e0:bj OC.toList 0 .Nl=TY:=rfl;rw[e0];generalize TY=bs at*;have l0:0<h.n:=by omega
   have l1:1<h.n:=by omega
   have ix:=λ(h:H)=>Nm (h:=h) (k:=zx) hi;have ix2:=λ(h:H)=>anz (h:=h) (k:=zx) hj;have s:=λ(h0:H)(q:ae h0 4 (ad Qb 147))=>aat (x:=A) q rfl;rw[xb]at ix2;simp[OC,bq,z,f287,fT,fZ,t0,t5,V,hn,g0,g1,KY,hd,auh,ix,ix2,s,b1,cV,cZ,cY,dc,dt,cO,cR];exact .mk ⟨by simp[V],by simp[hn],by simp[hn,g0],by simp[hn,g2],by simp[hn,g3],by simp,by simp[t0],by simp[t3],by simp[t6],by simp[S],by simp⟩
  by_cases cA:I o<k
  .have r1:=r1 cA;subst r1;refine ax (Q0:=λ_ _=>False) ?_ λ_ _ q=>q.elim;have Vd:(I o:Int)<(k:Nat):=by omega
   simp[z,f287,t3,S,F,V,g3,g4,IS,Vd,an,jn,s3];exact no _ _ _ (by simp[S]) (by simp) (by simp[V]) (by simp[g0]) (by simp)
  have N:k<=I o:=by omega
  refine ax (Q0:=λw h'=>h'=h/\aa w 0 (pB 0)/\aa w 3 (al o)/\aa w 6 (pB 2)/\aa w 8 (pB 3)/\aa w 10 (pB 4)) ?_ λfQ h1⟨e1,t0,t3,t6,S,F⟩=>?_
  .have Vd:¬(I o:Int)<(k:Nat):=by omega
   simp[z,f287,t3,F,V,g4,IS,Vd,an];exact .mk ⟨rfl,by simp[t0],by simp[t3],by simp[t6],by simp[S],by simp[F]⟩
  subst e1;have r2:=r2 N;have r3:=r3 N;have r4:=r4 N
  have P:∀n(f:H),ae f 0 (ad (mc env l) 320)->af Z C n (aj 282 [pB 0,dU A.tree,cp (o.map D) 0 k []] f)=((g (l,A.tree,o.take k)).1.mo).bi (f.p 0 (ad (mc env (g (l,A.tree,o.take k)).2) 320)):=λn f hg=>
   bQ.ap5 (ass env (I t.H) m g) awy n (x:=(l,A.tree,o.take k)) (ad1 N) (b:=0) (by show[dj (pB 0),dj (dU A.tree),dj (cp (o.map D) 0 k [])]=_;rw[ZO o N];rfl) hg
  generalize g (l,A.tree,o.take k)=q at r2 r3 r4 P;let⟨ql,Q⟩:=q;have bo:=ak4;simp only[zX,List.all_cons,List.all_nil,wy]at bo;let⟨⟨⟨⟨⟨b8,b9,b10,Qc,Wu,b15,Wx,b17,b18,_⟩,aui⟩,auj⟩,WA⟩,b14⟩:=bo;have l0:0<h1.n:=by omega
  have l2:2<h1.n:=by omega
  have l3:3<h1.n:=by omega
  have l4:4<h1.n:=by omega
  by_cases hp:ql=.aU
  .subst hp;have r2:=r2 rfl;subst r2;have P:∀n(f:H),ae f 0 (ad (mc env l) 320)->af Z C n (aj 282 [pB 0,dU A.tree,cp (o.map D) 0 k []] f)=.p [⟨eF,G,G⟩] (f.p 0 (ad (mc env Q) 320)) U:=P;refine ax (Q0:=λ_ _=>False) ?_ λ_ _ q=>q.elim;rw[eg,dJ];have e0:bj HE.toList 0 .Nl=Bs:=rfl;rw[e0];generalize Bs=bs at*;have am:=λ(bp:Nat)(x:aG)(l:List aG)(q:x.i=7)=>qo (p:=7) (bp:=bp) x l (zq q);simp[HE,bq,z,f287,t0,t3,F,V,hn,g0,g4,IS,bounds,iV,Tl N,P,ol,JH,b8,b9,b10,Qc,Wu,WA,b14,b15,Wx,b17,b18,cV,cZ,cY,dc,dt,cO,cR]
   rw[RX (hc:=by show gh 7 _ [⟨7,bit 0,bit 0⟩,⟨5,bit 4,0⟩,⟨2,bit 4,0⟩]=Y;rw[am _ _ _ rfl];simp)]
   exact dD.pure kn (by simp[hn])
  obtain⟨bb,vs,ok,la,Ci,UD⟩:∃bb vs ok la,ql.mo=.ret (aTu [D bb,al vs,zP ok,D la])/\((ok=G/\R=(.no,Q))\/(ok=Y/\ql=.yes bb vs)):=by
   cases ql with
   |aU=>exact absurd rfl hp
   |no la=>exact⟨zT,[],G,la,rfl,zq ⟨rfl,r3 la rfl⟩⟩
   |yes b vs=>exact⟨b,vs,Y,zT,rfl,zt ⟨rfl,rfl⟩⟩
  have P:∀n(f:H),ae f 0 (ad (mc env l) 320)->af Z C n (aj 282 [pB 0,dU A.tree,cp (o.map D) 0 k []] f)=.r (aTu [D bb,al vs,zP ok,D la]) (f.p 0 (ad (mc env Q) 320)) U:=λn f hg=>by have:=P n f hg;rw[Ci]at this;exact this
  refine ax (Q0:=λB h=>h.b=0/\h.n=7/\ae h 0 (ad (mc env Q) 320)/\ae h 2 (ad (ah (D t)) 31)/\ae h 3 (ad z5 31)/\ae h 4 (ad (kb A) 147)/\ae h 5 (ad (ah (D bb)) 31)/\aa B 0 (pB 0)/\aa B 3 (al o)/\aa B 6 (pB 2)/\aa B 8 (pB 3)/\aa B 10 (pB 4)/\
   aa B 11 (pB 5)/\aa B 12 (al vs)/\aa B 13 (zP ok)) ?_ λB h⟨V,hn,g0,g2,g3,g4,g5,t0,t3,t6,S,F,X,t12,t13⟩=>?_
  .rw[eg,dJ];have e0:bj HE.toList 0 .Nl=Bs:=rfl;rw[e0];generalize Bs=bs at*;simp[HE,bq,z,f287,t0,t3,F,V,hn,g0,g4,IS,bounds,iV,Tl N,P,b15,b18,aui,auj,cV,cZ,cY,dc,dt,cO,cR];exact .mk ⟨by simp[V],by simp[hn],by simp[hn],by simp[hn,g2],by simp[hn,g3],by simp[hn,g4],by simp,by simp[t0],by simp[t3],by simp[t6],by simp[S],by simp[F],by simp,by simp,by simp⟩
  rcases UD with⟨rfl,rfl⟩|⟨rfl,awz⟩
  .refine ax (Q0:=λ_ _=>False) ?_ λ_ _ q=>q.elim;simp[z,f287,S,t13,g3,an,jn,s3];exact no _ _ _ (by simp[S]) (by simp) (by simp[V]) (by simp[g0]) (by simp)
  let⟨Mk,r5,r6⟩:=r4 bb vs awz;have BU:=λn f=>BU n f bb Mk;generalize lf bb t.H=r at r5 r6 BU;let⟨u,er⟩:=r;refine ax (Q0:=λw h'=>h'=h/\aa w 0 (pB 0)/\aa w 3 (al o)/\aa w 6 (pB 2)/\aa w 8 (pB 3)/\aa w 10 (pB 4)/\aa w 11 (pB 5)/\aa w 12 (al vs)) ?_ λjH h2⟨e1,t0,t3,t6,S,F,X,t12⟩=>?_
  .simp[z,f287,t13,an];exact .mk ⟨rfl,by simp[t0],by simp[t3],by simp[t6],by simp[S],by simp[F],by simp[X],by simp[t12]⟩
  subst e1
  refine ax (Q0:=λB h=>h.b=0/\h.n=7/\ae h 0 (ad (mc env Q) 320)/\ae h 3 (ad z5 31)/\ae h 4 (ad (kb A) 147)/\ae h 5 (ad (ah (D u)) 31)/\aa B 0 (pB 0)/\aa B 3 (al o)/\aa B 8 (pB 3)/\aa B 10 (pB 4)/\
   aa B 11 (pB 5)/\aa B 12 (al vs)/\aa B 15 (J er)) ?_ λB h⟨V,hn,g0,g3,g4,g5,t0,t3,S,F,X,t12,t15⟩=>?_
  .simp[z,f287,t6,X,V,g2,g5,BU];exact .mk ⟨by simp[V],by simp[hn],by simp[g0],by simp[g3],by simp[g4],by simp,by simp[t0],by simp[t3],by simp[S],by simp[F],by simp[X],by simp[t12],by simp⟩
  by_cases he:er=0
  .let⟨Qn,r6⟩:=r6 he;subst he;refine ax (Q0:=λw h'=>h'=h/\aa w 0 (pB 0)/\aa w 3 (al o)/\aa w 8 (pB 3)/\aa w 10 (pB 4)/\aa w 11 (pB 5)/\aa w 12 (al vs)) ?_ λjH h2⟨e1,t0,t3,S,F,X,t12⟩=>?_
   .simp[z,f287,t15,an];exact .mk ⟨rfl,by simp[t0],by simp[t3],by simp[S],by simp[F],by simp[X],by simp[t12]⟩
   subst e1;have W:∀n(f:H),ae f 0 (ad (mc env Q) 320)->af Z C n (aj 301 [pB 0,D u,al vs] f)=(ij sb (Q,u,vs.reverse)).bi (f.p 0 (ad (mc env (Q-1)) 320)):=λn f hg=>awx.ev (T:=Z) n (x:=(Q,u,vs)) Qn hg;have bo:=aiW;simp only[zX,List.all_cons,List.all_nil,wy]at bo;let⟨⟨c8,c9,P0,_⟩,c4,c5,c6,c7,_⟩:=bo;have l0:0<h2.n:=by omega
   have l3:3<h2.n:=by omega
   have l4:4<h2.n:=by omega
   have l5:5<h2.n:=by omega
   have n79:∀n f u,af Z C n (aj 79 [D u,iZ o k] f)=.r (D (cF u (o.drop k))) f U:=λn f u=>px n f u _ _ (NH o k) (by simp;omega);have am:=λ(bp:Nat)(x:aG)(l:List aG)(q:x.i=3)=>qo (p:=3) (bp:=bp) x l (zq q);rw[run_seq,eg,dJ];have e0:bj J8.toList 0 .Nl=N5:=rfl;rw[e0];generalize N5=bs at*
   have UD:(∃v,ij sb (Q,u,vs.reverse)=.ret (D v)/\R=(.yes (cF v (o.drop k)),Q-1))\/(ij sb (Q,u,vs.reverse)=.aU eF/\R=(.aU,Q-1)):=by
    unfold ij;by_cases h1:Q-1<0
    .rw[if_pos h1]at r6⊢;exact zt ⟨rfl,r6⟩
    .rw[if_neg h1]at r6⊢;by_cases h2:(sb u vs.reverse).2=0
     .rw[if_pos h2]at r6;show(∃v,(if(sb u vs.reverse).2=0 then _ else _)=_/\_)\/_
      rw[if_pos h2];exact zq ⟨_,rfl,r6⟩
     .rw[if_neg h2]at r6;refine zt ⟨?_,r6⟩;show(if(sb u vs.reverse).2=0 then _ else _)=_
      rw[if_neg h2]
   clear r6;rcases UD with⟨v,Ci,rfl⟩|⟨Ci,rfl⟩
   .have W:∀n(f:H),ae f 0 (ad (mc env Q) 320)->af Z C n (aj 301 [pB 0,D u,al vs] f)=.r (D v) (f.p 0 (ad (mc env (Q-1)) 320)) U:=λn f hg=>by have:=W n f hg;rw[Ci]at this;exact this
    simp[J8,bq,z,f287,t0,t3,S,F,X,t12,V,g0,g3,g4,g5,l0,l3,l4,l5,IS,bounds,iV,JO N,W,n79,c9,A9,cV,cZ,cY,dc,dt,cO,cR];exact cn.pure (d:=aTu [D (cF v (o.drop k)),zP Y]) (.Tt (.Cs (bg _) dF)) (by simp[S,V])
   .have W:∀n(f:H),ae f 0 (ad (mc env Q) 320)->af Z C n (aj 301 [pB 0,D u,al vs] f)=.p [⟨eF,G,G⟩] (f.p 0 (ad (mc env (Q-1)) 320)) U:=λn f hg=>by have:=W n f hg;rw[Ci]at this;exact this
    simp[J8,bq,z,f287,t0,t3,F,X,t12,V,g0,g4,g5,l0,l4,l5,IS,bounds,iV,JO N,W,ol,JH,rM,am,c4,c5,c6,c7,c8,c9,P0,A9,cV,cZ,cY,dc,dt,cO,cR];exact dD.pure kn (by simp)
  .have r5:=r5 he;subst r5;refine ax (Q0:=λ_ _=>False) ?_ λ_ _ q=>q.elim;simp[z,f287,S,t15,g3,he,an,jn,s3];exact no _ _ _ (by simp[S]) (by simp) (by simp[V]) (by simp[g0]) (by simp)
 by_cases cA:I o<k
 .exact⟨(.no,l),⟨ph,xW _⟩,run _ (λ_=>rfl) (λq=>by omega) (λq=>by omega) (λq=>by omega)⟩
 .have N:k<=I o:=by omega
  have ho:=VF _ (ad1 N);unfold Dj at ho;cases hq:(g (l,A.tree,o.take k)).1 with
  |aU=>exact⟨(.aU,(g (l,A.tree,o.take k)).2),trivial,run _ (λq=>by omega) (λ_ _=>rfl) (λ_ _ q=>by rw[hq]at q;cases q) (λ_ _ _ q=>by rw[hq]at q;cases q)⟩
  |no la=>
   rw[hq]at ho;exact⟨(.no,(g (l,A.tree,o.take k)).2),ho,run _ (λq=>by omega) (λ_ q=>by rw[hq]at q;cases q) (λ_ _ _=>rfl) (λ_ _ _ q=>by rw[hq]at q;cases q)⟩
  |yes b vs=>
   rw[hq]at ho;let⟨h0,hle,Mk,P3,WH,WB,hvn⟩:=ho;have hle:(g (l,A.tree,o.take k)).2<=l:=hle
   have inj:∀{b2 Qo},(g (l,A.tree,o.take k)).1=.yes b2 Qo->b2=b/\Qo=vs:=λq=>by rw[hq]at q;injection q with q1 q2;exact⟨q1.symm,q2.symm⟩
   have oI:=py.cl Mk;by_cases he:(lf b t.H).2=0
   .have Qn:Ox ((g (l,A.tree,o.take k)).2,(lf b t.H).1,vs):=⟨⟨⟨h0,by have:=hl.2;show _<=(1000000:Int);omega⟩,oI.imp λu hu=>cC.ok hu,λv hv=>⟨(WH v (by simpa using hv)).1.imp λu hu=>cC.ok hu,by have:=(WH v (by simpa using hv)).2;have:(zD v:Int)<=400000000:=this;unfold ao;omega⟩,by show I vs.reverse<=60000;simpa using WB⟩,hvn⟩
    refine⟨if(g (l,A.tree,o.take k)).2-1<0 then(.aU,(g (l,A.tree,o.take k)).2-1)else if(sb (lf b t.H).1 vs.reverse).2=0 then(.yes (cF (sb (lf b t.H).1 vs.reverse).1 (o.drop k)),(g (l,A.tree,o.take k)).2-1)else(.aU,(g (l,A.tree,o.take k)).2-1),?_,run _ (λq=>by omega) (λ_ q=>by rw[hq]at q;cases q) (λ_ _ q=>by rw[hq]at q;cases q) (λ_ b2 Qo q=>?_)⟩
    .split
     .trivial
     .split
      .refine⟨by show 0<=_-1;omega,by show _-1<l;omega,cC.oK (A1.gl cC.loc oI λv hv=>(WH v (by simpa using hv)).1) λa ha=>iO a (xf ha),?_⟩;have hsm:=A1.small (t:=(lf b t.H).1) (vs:=vs.reverse) λv hv=>(Qn.1.2.2.1 v hv).2;show(zD (cF (sb (lf b t.H).1 vs.reverse).1 (o.drop k)):Int)<=(bA o+I o:Nat)+(6000:Nat)*(l-((g (l,A.tree,o.take k)).2-1));rw[zr];have e1:bA o=bA (o.take k)+bA (o.drop k):=by rw[<-Gw,xO]
       have e2:I (o.drop k)<=I o:=by simp
       omega
      .trivial
    .obtain⟨rfl,rfl⟩:=inj q;exact⟨Mk,λq=>absurd he q,λ_=>⟨Qn,rfl⟩⟩
   .refine⟨(.no,(g (l,A.tree,o.take k)).2),⟨h0,hle⟩,run _ (λq=>by omega) (λ_ q=>by rw[hq]at q;cases q) (λ_ _ _=>rfl) (λ_ b2 Qo q=>?_)⟩;obtain⟨rfl,rfl⟩:=inj q;exact⟨Mk,λ_=>rfl,λq=>absurd q he⟩
end
def F258:Z.f 258=O f258:=by kernel_rfl
@[simp] theorem TT.aIw:Z.u 341=O (td 7 340):=by kernel_rfl
@[simp] theorem aJc:zero Z 341=O (aAg [zj,zj,zj,zj,zj,zj,zj]):=by kernel_rfl
def Au{c:E}:eK Z h 341 (O (aAg [zj,zj,zj,zj,zj,zj,zj])) (O [(1,zU (za 285) ⟨[v]⟩ ⟨[]⟩),(5,zU (za 286) ⟨[N]⟩ ⟨[]⟩),(6,zU (za 287) ⟨[c]⟩ ⟨[]⟩)])=.v (aAg [zj,zU (za 285) ⟨[v]⟩ ⟨[]⟩,zj,zj,zj,zU (za 286) ⟨[N]⟩ ⟨[]⟩,zU (za 287) ⟨[c]⟩ ⟨[]⟩]) h:=by kernel_rfl
def awA:Am.zI Z 340=O 1:=by kernel_rfl
def awB:Am.zK Z 340=O G:=by kernel_rfl
def auk(h:H)(a b c:E)(i:Nat)(d:i<7):indexOf Z h 341 (O (td 7 340)) (O (aAg [zj,a,zj,zj,zj,b,c])) (O (J i))=.v ([zj,a,zj,zj,zj,b,c].getD i zj) h:=by
 show Z3 Z h [zj,a,zj,zj,zj,b,c] 340 i 7 (Am.zI Z 340)=_;rw[awA];show cond (Nat.ble (Nat.succ i) 7) (gk h (zE Z 340 [zj,a,zj,zj,zj,b,c] (i*1))) .f=_;rw[dK awB]
 match i,d with
 |0,_=>rfl
 |1,_=>rfl
 |2,_=>rfl
 |3,_=>rfl
 |4,_=>rfl
 |5,_=>rfl
 |6,_=>rfl
def Bt:fu Z h .eql 340 (vG 30) (.const zj) (O (zU (za f) ⟨[v]⟩ ⟨[]⟩)) (O zj)=.v (zP G) h:=by kernel_rfl
def ast:fu Z h .eql 340 (vG 30) (.const zj) (O zj) (O zj)=.v (zP Y) h:=by kernel_rfl
def anP{x y:cK}(h:ee x=ee y):x=y:=by cases x;cases y;unfold ee at h;injection h with h;injection h with h;injection h with a h;injection a with _ a;injection h with b h;injection b with _ b;injection h with c h;injection c with _ c;injection h with d h;injection d with _ d;have e:=CL h;simp_all
section
variable(env:List zB){lf:zA->List aB->zA×Int}{sb:zA->List zA->zA×Int}
abbrev KX:=Int×zA×List zA
abbrev O7(b:Nat)(x:KX):List E:=[pB b,D x.2.1,al x.2.2]
structure Im(M:Nat)(x:KX):Prop where
 IQ:iN x.1
 lv:∀v∈x.2.1.H,v.v=[]
 nl:I x.2.1.H<ao
 xs:∀a∈x.2.2,aI cC a
 top:(bA x.2.2+I x.2.2:Nat)+(AD:Int)*x.1<=Fx
 mu:∀a∈x.2.2,fa (x.1,a)<M
def ahu(hE:pX env)(py:Dh lf)(A1:BR sb){wf:Int×zA->Option zA×Int}(hw:Gj env j wf):
 ∃f:KX->RC×Int,aLk env 258 (Im j) O7 (λx=>x.1) (λx=>(f x).2) (λx=>(f x).1.mo)/\∀x,Im j x->pe x.1 (bA x.2.2+I x.2.2) (f x):=by
 let⟨f1,h1,o1⟩:=anC env hE py;let⟨f5,h5,o5⟩:=aht env hE py hw;let⟨f6,h6,o6⟩:=anO env hE py A1 hw;refine H2 (β:=RC×Int) (λ(x:KX) r=>mc env r.2) (λ_ r=>r.1.mo) (λx r=>pe x.1 (bA x.2.2+I x.2.2) r) ?_;rintro⟨l,t,o⟩ ⟨hl,oL,oe,iO,S,qj⟩;have hl:iN l:=hl;have oL:∀v∈t.H,v.v=[]:=oL;have oe:I t.H<ao:=oe;have iO:∀a∈o,aI cC a:=iO;have qj:∀a∈o,fa (l,a)<j:=qj;have S:((bA o+I o:Nat):Int)+(6000:Nat)*l<=400000000:=S;have ph:=hl.1
 have V:∀(f:CX->RC×Int)(b b':Nat)(x y:CX),aLl b x=aLl b' y->b=b'/\(mc env x.1=mc env y.1->(f x).1.mo=(f y).1.mo/\mc env (f x).2=mc env (f y).2):=λf b b' x y e=>by
  let⟨x1,x2,x3,x4⟩:=x;let⟨y1,y2,y3,y4⟩:=y;simp at e;refine⟨e.1,λe2=>?_⟩;have e2:x1=y1:=by simpa using e2
  have e3:x2=y2:=anP e.2.1;have e4:x3=y3:=cf e.2.2.1;have e5:x4=y4:=mN e.2.2.2;subst e2;subst e3;subst e4;subst e5;exact⟨rfl,rfl⟩
 obtain⟨C,hC,awC,k1,k5,k6⟩:∃C,aR Z prog C/\bQ C 280 320 G (λ_:Int×zA=>True) nI (λx=>mc env x.1) (λx=>mc env x.1) (λx=>.ret (Ge (Cf env x.2)))/\
  bQ C 285 320 G (λx=>PB env x/\x.2.1.kind=1) aLl (λx=>mc env x.1) (λx=>mc env (f1 x).2) (λx=>(f1 x).1.mo)/\
  bQ C 286 320 G (λx=>BX env j x/\x.2.1.kind=5) aLl (λx=>mc env x.1) (λx=>mc env (f5 x).2) (λx=>(f5 x).1.mo)/\
  bQ C 287 320 G (λx=>BX env j x/\x.2.1.kind=6) aLl (λx=>mc env x.1) (λx=>mc env (f6 x).2) (λx=>(f6 x).1.mo):=
  ⟨_,iv (iv (iv (iv aW h6) h5) h1) (akN env hE.small),bQ.add λb b' x y e=>(by
     let⟨x1,x2⟩:=x;let⟨y1,y2⟩:=y;simp at e;refine⟨e.1,λe2=>?_⟩;have e2:x1=y1:=by simpa using e2
     have e3:x2=y2:=cf e.2;subst e2;subst e3;exact⟨rfl,rfl⟩),bQ.skip (by decide) (bQ.add λb b' x y e=>V f1 b b' x y e),bQ.skip (by decide) (bQ.skip (by decide) (bQ.add λb b' x y e=>V f5 b b' x y e)),bQ.skip (by decide) (bQ.skip (by decide) (bQ.skip (by decide) (bQ.add λb b' x y e=>V f6 b b' x y e)))⟩
 have s:∀n(m:H),ae m 0 (ad (mc env l) 320)->af Z C n (aj 280 [pB 0,D t] m)=.r (Ge (Cf env t)) (m.p 0 (ad (mc env l) 320)) U:=λn m hg=>awC.ev (T:=Z) n (x:=(l,t)) trivial hg;have p:=fh (c:=z5) rfl;have s2:=λ(h0:H)(q:ae h0 2 (ad z5 31))=>fp (c:=z5) rfl rfl q rfl
 have no:∀(tm:Tr E)(h:H),aa tm 6 (pB 2)->aa tm 7 (zP G)->h.b=0->ae h 0 (ad (mc env l) 320)->ae h 2 (ad z5 31)->cn Z [yB 6 31,yx 7] 320 G RC.no.mo (mc env l) ⟨tm,[],h,U⟩:=λtm h t6 t7 hb g0 g2=>
  ⟨rfl,rfl,aTu [aAg z5,zP G],_,h,rfl,by simp[t6,t7,hb,g2,p],Lv _,g0⟩
 obtain⟨x,P,hu,W⟩:∃x P,Cf env t=(x,P)/\(P=Y->(∃i,∃hi:i<I env,x.decl=i/\r7 env[i] x)/\((I t.H:Nat):Int)=x.params):=by
  refine⟨_,_,rfl,λh=>?_⟩
  have e:Cf env t=match fM t.F 0 env with
   |some x=>(x,yF ((I t.H:Int)=x.params))
   |none=>(E0,G):=rfl
  try rw[e]at h
  try rw[e]
  cases hf:fM t.F 0 env with
  |none=>rw[hf]at h;cases h
  |some x=>rw[hf]at h;exact⟨SN hf,of_decide_eq_true h⟩
 rw[hu]at s
 have hkr:P=Y->∃k:Nat,k<7/\x.kind=k:=λh=>by
  let⟨⟨i,hi,_,he⟩,_⟩:=W h;cases he with
  |plain a L hp ht=>
   rcases a with a|a|a
   .exact⟨0,by omega,by rw[L,a];rfl⟩
   .exact⟨1,by omega,by rw[L,a];rfl⟩
   .exact⟨2,by omega,by rw[L,a];rfl⟩
  |family a L=>exact⟨3,by omega,L⟩
  |Di a L=>exact⟨4,by omega,L⟩
  |bD a L hp=>exact⟨5,by omega,L⟩
  |func a L=>exact⟨6,by omega,L⟩
 have WI:P=Y->PB env (l,x,t,o):=λh=>⟨hl,oL,oe,(W h).2,iO,by show(bA o:Int)+I o+(6000:Nat)*l<=500000000;omega,(W h).1⟩;have Qp:P=Y->BX env j (l,x,t,o):=λh=>⟨WI h,S,qj⟩
 have X:∀R:RC×Int,(P=G->R=(.no,l))->(P=Y->x.kind=1->R=f1 (l,x,t,o))->(P=Y->x.kind=5->R=f5 (l,x,t,o))->(P=Y->x.kind=6->R=f6 (l,x,t,o))->(P=Y->x.kind≠1->x.kind≠5->x.kind≠6->R=(.no,l))->
  ∀h b,ae h b (ad (mc env l) 320)->bP Z prog (zU (za 258) #[] #[]) (O7 b (l,t,o)) h U (R.1.mo.bi (h.p b (ad (mc env R.2) 320))):=by
  intro R r0 r1 r5 r6 rn h b hb;refine gJ.toM (a0:=O7 0 (l,t,o)) (C:=C) (n:=3) tok hC (lm F258 rfl rfl ?_) (.Cs (.ptr 0) (.Cs (.pure (bg t)) (.Cs (.pure (fb o)) .nil))) (λm a' q=>nV m a' q) (iI env l) (iI env R.2) hb;show ay (cn Z [yB 6 31,yx 7] 320 G R.1.mo (mc env R.2)) (cn Z [yB 6 31,yx 7] 320 G R.1.mo (mc env R.2)) ap (dD 320 G R.1.mo (mc env R.2)) _;have sx:=λ(h0:H)(q:ae h0 3 (ad z9 163))=>mS (x:=x) q rfl;by_cases F:P=Y
  .subst F;let⟨k,hk7,N⟩:=hkr rfl;have u:=λh a b c=>auk h a b c k hk7;have fin:∀(g:zZ)(f:CX->RC×Int)(rr:RC)(Q:Int),f (l,x,t,o)=(rr,Q)->True:=λ_ _ _ _ _=>trivial;by_cases qd:k=1
   .subst qd;have N:x.kind=1:=N;have u:∀h a b c,indexOf Z h 341 (O (td 7 340)) (O (aAg [zj,a,zj,zj,zj,b,c])) (O (J 1))=.v a h:=u;have r1:=r1 rfl N;subst r1;have w:∀n(m:H),ae m 0 (ad (mc env l) 320)->af Z C n (.call (zU (za 285) ⟨[pB 0]⟩ ⟨[]⟩) [ee x,D t,al o] m U)=((f1 (l,x,t,o)).1.mo).bi (m.p 0 (ad (mc env (f1 (l,x,t,o)).2) 320)):=λn m hg=>GZ n (k1 (l,x,t,o) ⟨WI rfl,N⟩ m 0 hg);generalize f1 (l,x,t,o)=r at w⊢;let⟨rc,Q⟩:=r;cases rc with
    |aU=>
     have w:∀n(m:H),ae m 0 (ad (mc env l) 320)->af Z C n (.call (zU (za 285) ⟨[pB 0]⟩ ⟨[]⟩) [ee x,D t,al o] m U)=.p [⟨eF,G,G⟩] (m.p 0 (ad (mc env Q) 320)) U:=w;simp[s,sx,N,Au,u,Bt,w,an];exact dD.pure kn (by simp)
    |no=>
     have w:∀n(m:H),ae m 0 (ad (mc env l) 320)->af Z C n (.call (zU (za 285) ⟨[pB 0]⟩ ⟨[]⟩) [ee x,D t,al o] m U)=.r (aTu [D zT,zP G]) (m.p 0 (ad (mc env Q) 320)) U:=w;simp[s,sx,N,Au,u,Bt,w,an];exact cn.pure (d:=aTu [D zT,zP G]) (.Tt (.Cs (bg _) dF)) (by simp)
    |yes v=>
     have w:∀n(m:H),ae m 0 (ad (mc env l) 320)->af Z C n (.call (zU (za 285) ⟨[pB 0]⟩ ⟨[]⟩) [ee x,D t,al o] m U)=.r (aTu [D v,zP Y]) (m.p 0 (ad (mc env Q) 320)) U:=w;simp[s,sx,N,Au,u,Bt,w,an];exact cn.pure (d:=aTu [D v,zP Y]) (.Tt (.Cs (bg _) dF)) (by simp)
   by_cases Ml:k=5
   .subst Ml;have N:x.kind=5:=N;have u:∀h a b c,indexOf Z h 341 (O (td 7 340)) (O (aAg [zj,a,zj,zj,zj,b,c])) (O (J 5))=.v b h:=u;have r5:=r5 rfl N;subst r5;have A:∀n(m:H),ae m 0 (ad (mc env l) 320)->af Z C n (.call (zU (za 286) ⟨[pB 0]⟩ ⟨[]⟩) [ee x,D t,al o] m U)=((f5 (l,x,t,o)).1.mo).bi (m.p 0 (ad (mc env (f5 (l,x,t,o)).2) 320)):=λn m hg=>GZ n (k5 (l,x,t,o) ⟨Qp rfl,N⟩ m 0 hg);generalize f5 (l,x,t,o)=r at A⊢;let⟨rc,Q⟩:=r;cases rc with
    |aU=>
     have A:∀n(m:H),ae m 0 (ad (mc env l) 320)->af Z C n (.call (zU (za 286) ⟨[pB 0]⟩ ⟨[]⟩) [ee x,D t,al o] m U)=.p [⟨eF,G,G⟩] (m.p 0 (ad (mc env Q) 320)) U:=A;simp[s,sx,N,Au,u,Bt,A,an];exact dD.pure kn (by simp)
    |no=>
     have A:∀n(m:H),ae m 0 (ad (mc env l) 320)->af Z C n (.call (zU (za 286) ⟨[pB 0]⟩ ⟨[]⟩) [ee x,D t,al o] m U)=.r (aTu [D zT,zP G]) (m.p 0 (ad (mc env Q) 320)) U:=A;simp[s,sx,N,Au,u,Bt,A,an];exact cn.pure (d:=aTu [D zT,zP G]) (.Tt (.Cs (bg _) dF)) (by simp)
    |yes v=>
     have A:∀n(m:H),ae m 0 (ad (mc env l) 320)->af Z C n (.call (zU (za 286) ⟨[pB 0]⟩ ⟨[]⟩) [ee x,D t,al o] m U)=.r (aTu [D v,zP Y]) (m.p 0 (ad (mc env Q) 320)) U:=A;simp[s,sx,N,Au,u,Bt,A,an];exact cn.pure (d:=aTu [D v,zP Y]) (.Tt (.Cs (bg _) dF)) (by simp)
   by_cases Mm:k=6
   .subst Mm;have N:x.kind=6:=N;have u:∀h a b c,indexOf Z h 341 (O (td 7 340)) (O (aAg [zj,a,zj,zj,zj,b,c])) (O (J 6))=.v c h:=u;have r6:=r6 rfl N;subst r6;have B:∀n(m:H),ae m 0 (ad (mc env l) 320)->af Z C n (.call (zU (za 287) ⟨[pB 0]⟩ ⟨[]⟩) [ee x,D t,al o] m U)=((f6 (l,x,t,o)).1.mo).bi (m.p 0 (ad (mc env (f6 (l,x,t,o)).2) 320)):=λn m hg=>GZ n (k6 (l,x,t,o) ⟨Qp rfl,N⟩ m 0 hg);generalize f6 (l,x,t,o)=r at B⊢;let⟨rc,Q⟩:=r;cases rc with
    |aU=>
     have B:∀n(m:H),ae m 0 (ad (mc env l) 320)->af Z C n (.call (zU (za 287) ⟨[pB 0]⟩ ⟨[]⟩) [ee x,D t,al o] m U)=.p [⟨eF,G,G⟩] (m.p 0 (ad (mc env Q) 320)) U:=B;simp[s,sx,N,Au,u,Bt,B,an];exact dD.pure kn (by simp)
    |no=>
     have B:∀n(m:H),ae m 0 (ad (mc env l) 320)->af Z C n (.call (zU (za 287) ⟨[pB 0]⟩ ⟨[]⟩) [ee x,D t,al o] m U)=.r (aTu [D zT,zP G]) (m.p 0 (ad (mc env Q) 320)) U:=B;simp[s,sx,N,Au,u,Bt,B,an];exact cn.pure (d:=aTu [D zT,zP G]) (.Tt (.Cs (bg _) dF)) (by simp)
    |yes v=>
     have B:∀n(m:H),ae m 0 (ad (mc env l) 320)->af Z C n (.call (zU (za 287) ⟨[pB 0]⟩ ⟨[]⟩) [ee x,D t,al o] m U)=.r (aTu [D v,zP Y]) (m.p 0 (ad (mc env Q) 320)) U:=B;simp[s,sx,N,Au,u,Bt,B,an];exact cn.pure (d:=aTu [D v,zP Y]) (.Tt (.Cs (bg _) dF)) (by simp)
   have rn:=rn rfl (by omega) (by omega) (by omega);subst rn
   have AN:∀a b c:E,[zj,a,zj,zj,zj,b,c].getD k zj=zj:=λa b c=>by
    have:k=0\/k=2\/k=3\/k=4:=by omega
    rcases this with rfl|rfl|rfl|rfl<;>rfl
   have awD:∀h a b c,indexOf Z h 341 (O (td 7 340)) (O (aAg [zj,a,zj,zj,zj,b,c])) (O (J k))=.v zj h:=λh a b c=>by rw[u,AN]
   simp[s,sx,N,Au,awD,ast,an,jn,s2];exact no _ _ (by simp) (by simp) (by simp) (by simp) (by simp)
  .have hf:P=G:=by simpa using F
   have r0:=r0 hf;subst r0;subst hf;simp[s,sx,an,jn,s2];exact no _ _ (by simp) (by simp) (by simp) (by simp) (by simp)
 have Il:pe l (bA o+I o) (.no,l):=⟨ph,xW _⟩;by_cases F:P=Y
 .by_cases qd:x.kind=1
  .exact⟨f1 (l,x,t,o),o1 _ ⟨WI F,qd⟩,X _ (λq=>by rw[F]at q;cases q) (λ_ _=>rfl) (λ_ q=>by omega) (λ_ q=>by omega) (λ_ q=>absurd qd q)⟩
  .by_cases Ml:x.kind=5
   .exact⟨f5 (l,x,t,o),o5 _ ⟨Qp F,Ml⟩,X _ (λq=>by rw[F]at q;cases q) (λ_ q=>by omega) (λ_ _=>rfl) (λ_ q=>by omega) (λ_ _ q=>absurd Ml q)⟩
   .by_cases Mm:x.kind=6
    .exact⟨f6 (l,x,t,o),o6 _ ⟨Qp F,Mm⟩,X _ (λq=>by rw[F]at q;cases q) (λ_ q=>by omega) (λ_ q=>by omega) (λ_ _=>rfl) (λ_ _ _ q=>absurd Mm q)⟩
    .exact⟨(.no,l),Il,X _ (λ_=>rfl) (λ_ q=>absurd q qd) (λ_ q=>absurd q Ml) (λ_ q=>absurd q Mm) (λ_ _ _ _=>rfl)⟩
 .exact⟨(.no,l),Il,X _ (λ_=>rfl) (λq=>absurd q F) (λq=>absurd q F) (λq=>absurd q F) (λq=>absurd q F)⟩
end
abbrev node1(k:Int)(N:Nat):E:=aAg [J k,J 0,zN ⟨#[]⟩,zL U 0 0,zL (O ⟨N,0,U⟩) 1 1]
abbrev Gl(k:Int)(p:zA):zA:=.mk k 0 ⟨#[]⟩ [] [p]
inductive Dk:(zA×List zA)×Option Nat->List E->H->Prop
 |data {u:zA} {l:List zA} {v:E} {h:H} (hv:dj v=al l) (hl:I l<ao):Dk ((u,l),U) [D u,v] h
 |node {k:Int} {p:zA} {l:List zA} {N:Nat} {gr:Bool} {v:E} {h:H} (hp:bH v) (hv:dj v=al l) (hl:I l<ao) (hg:h.g N=O (K (zF D [p]) 31 gr)):Dk ((Gl k p,l),O N) [node1 k N,v] h
def Io(x:(zA×List zA)×Option Nat)(_:List E)(h:H):ag:=.r (D (cF x.1.1 x.1.2)) (match x.2 with|none=>h|some N=>h.bx [N]) U
def asu:P6 Z prog 79 Dk Io:=by
 intro x args h e
 have a:∀(u:zA)(l:List zA)(v:E)(h:H),dj v=al l->I l<ao->bP Z prog (zU (za 79) #[] #[]) [D u,v] h U (.r (D (cF u l)) h U):=λu l v h b c=>by refine YC ?_;show bP Z prog _ [dj (D u),dj v] h U _;rw[abE,b];exact J4 (u,l) c h
 cases e with
 |data b c=>exact a _ _ _ _ b c
 |node f b c d=>
  rename_i k p l N g v;refine GS (args:=[D (Gl k p),v]) (bs:=[N]) (a _ _ _ _ b c) ⟨by rw[d];simp,by simp,trivial⟩ (.Cs ?_ (.Cs (.Pu f) .Nl));rw[eD];exact .agg (.Cs eI (.Cs eI (.Cs eI (.Cs .cP (.Cs (Hg (ts:=[p]) rfl (ny (by simp) d)) .Nl)))))
def aaK(x y:(zA×List zA)×Option Nat)(args:List E)(h:H)(p:Dk x args h)(l:Dk y args h):Io x args h=Io y args h:=by
 have n:∀(u:zA)(k:Int)(N:Nat),D u≠node1 k N:=λu k N e=>by rw[eD]at e;injection e with e;injection e with e;cases u;injection e with _ e;injection e with _ e;injection e with _ e;injection e with _ e;injection e with e _;cases e
 cases p with
 |data m q=>
  generalize hE:[D _,_]=i at l;cases l with
  |data d j=>
   injection hE with f c;injection c with c _;have:=cf f;subst this;subst c;rw[m]at d;have:=mN d;subst this;rfl
  |node r d j o=>
   injection hE with f c;exact absurd f (n _ _ _)
 |node r m q o=>
  generalize hE:[node1 _ _,_]=i at l;cases l with
  |data d j=>
   injection hE with f c;exact absurd f.symm (n _ _ _)
  |node s d j g=>
   injection hE with f c;cases c;rw[m]at d;have:=mN d;subst this;injection f with f;injection f with f;injection f with f c;cases f;injection c with _ c;injection c with _ c;injection c with _ c;injection c with c _;injection c with c;injection c with c;cases c;rw[o]at g;injection g with g;injection g with g;have:=mH.G1 (λa b h=>by rw[dP,dP]at h;exact CL h) g;cases this;rfl
def asv(b:C 79=nP Dk Io)(n:Nat)(c:dj v=al y)(d:I y<ao)(m:H):af Z C n (aj 79 [D a,v] m)=.r (D (cF a y)) m U:=
 J3 (x:=((a,y),U)) b aaK n (.data c d)
def asw(d:C 79=nP Dk Io)(n:Nat)(e:bH v)(f:dj v=al y)(g:I y<ao)(j:ae h i (K (zF D [a]) 31 b)):af Z C n (aj 79 [node1 c i,v] h)=.r (D (cF (Gl c a) y)) (h.bx [i]) U:=
 J3 (x:=((Gl c a,y),O i)) d aaK n (.node e f g j)
def F220:Z.f 220=O f220:=by kernel_rfl
def gH:yG:=z f220 [Y,G,G]
def fF:yG:=ak [G] gH
def iJ:yG:=ak [Y,Y,Y,G] fF
def Bu:yG:=ak [Y,G] iJ
def ky:yG:=ak [Y,Y] iJ
def ms:yG:=ak [Y,Y] ky
def oY:yG:=ak [Y,G] ms
def rU:yG:=ak [Y,Y] ms
def KB:yG:=ak [Y,G] rU
def HF:Array Oper:=bq (ak [Y] Bu)
def Hi:Array Oper:=bq (ak [Y,G] ky)
def aiX:f220.body=O (zS (z f220 pF0) (zv 0 (yb gH))):=rfl
def ahv:gH=zv 1 fF:=rfl
def ahw:fF=zS (ak [G] fF) (zS (ak [Y,G] fF) (zS (ak [Y,Y,G] fF) (zv 2 iJ))):=rfl
def ahx:iJ=zS (ak [G] iJ) (tV (vG 23) Bu ky):=rfl
def agC:Bu=zS (ak [G] Bu) (yM 9 HF Y):=rfl
def agD:ky=zS (ak [G] ky) (tV (vG 42) (yM 11 Hi Y) ms):=rfl
def agE:ms=zS (ak [G] ms) (tV (vG 57) oY rU):=rfl
def agF:oY=zS (ak [G] oY) (zS (ak [Y,G] oY) (ak [Y,Y] oY)):=rfl
def agG:rU=zS (ak [G] rU) (tV (vG 82) KB (ak [Y,Y] rU)):=rfl
def Av:Tr Nat:=bj HF.toList 0 .Nl
def rP:Tr Nat:=bj Hi.toList 0 .Nl
def ak5:(aN (aE Av 9) 8&&aN (aE Av 9) 2&&aN (aE Av 12) 9&&aN (aE Av 13) 9&&aN (aE Av 13) 8&&aN (aE Av 13) 2&& !aN (aE Av 10) 9&& !aN (aE Av 11) 9)=Y:=by kernel_rfl
def aiY:(aN (aE rP 10) 9&&aN (aE rP 10) 2&&aN (aE rP 10) 6&&aN (aE rP 12) 10&&aN (aE rP 13) 10&&aN (aE rP 13) 9&&aN (aE rP 13) 2&&aN (aE rP 13) 6&& !aN (aE rP 11) 10)=Y:=by kernel_rfl
def asx(h:H)(a b c d e:E):iQ Z h 1 (O (zf 31)) (O [(0,aAg [a,b,c,d,e])])=.v (zL (pO h.n) 1 1) (h.w (ad [a,b,c,d,e] 31)):=by kernel_rfl
def aIx:iQ Z h 1 (O (zf 31)) (O [(0,D a)])=.v (zL (pO h.n) 1 1) (h.w (ad (zF D [a]) 31)):=by
 have e:zF D [a]=tc a:=by show ah (D a)++[]=_;rw[dP,ye]
 rw[e,eD];exact asx ..
def awE(h:H)(k:Int)(N:Nat):eK Z h 31 (O (aAg z5)) (O [(0,J k),(4,zL (pO N) 1 1)])=.v (node1 k N) h:=by kernel_rfl
end Go.Proofs.YtpeialehpoilbaaGreat
namespace Go.Am.Eu
structure aul(l:Int)(t:zA)(l':Int)(t':zA):Prop where
 l0:0<=l'
 lt:l'<l
 cl:aI cC t'
 sz:(zD t':Int)<=zD t+AD*(l-l')
end Go.Am.Eu
namespace Go.Am
namespace Sym
def Xz{p bp rd wr:Nat}{l:List aG}:gh p bp (nG p rd wr l)=gh p bp l:=by
 unfold nG;cases cond (zV rd 0) (zV wr 0) G with
 |true=>rfl
 |false=>exact qo _ _ (zq rfl)
end Sym
end Go.Am
namespace Go.Proofs.YtpeialehpoilbaaGreat
def MN:∀(l:List Nat)(m:H),(m.bx l).n=m.n
 |[],_=>rfl
 |b::l,m=>by show((m.d b).bx l).n=_;rw[MN l,mR]
structure Wp(env:List zB)(l:Int)(t:zA)(tm:Tr E)(h:H):Prop where
 base:h.b=0
 next:3<=h.n
 g0:h.g 0=O (K (mc env l) 320 G)
 g1:h.g 1=O (K (ah (D t)) 31 G)
 g2:h.g 2=O (K z5 31 G)
 t0:tm.g 0=O (zM (O ⟨0,0,U⟩))
 t3:tm.g 3=O (zM (O ⟨1,0,U⟩))
 t4:tm.g 4=O (zM (O ⟨2,0,U⟩))
structure Wq(env:List zB)(l:Int)(t:zA)(tm:Tr E)(h:H):Prop extends Wp env l t tm h where
 hd:∃N,3<=N/\N<h.n/\h.g N=O (K (ah (D (aM t))) 31 G)/\tm.g 5=O (zM (O ⟨N,0,U⟩))
 t6:tm.g 6=O (al (bt t))
def E4(env:List zB)(r:Option zA×Int)(s:S):Prop:=cn Z [yB 4 31] 320 G (mJ r.1) (mc env r.2) s
def E5(env:List zB)(l:Int)(c:List zO)(s:S):Prop:=dD 320 G (.aU eF) (mc env l) c s
section
variable{ev:zC->ag}{env:List zB}{l:Int}{t:zA}{tm:Tr E}{h:H}{lf:zA->List aB->zA×Int}{sb:zA->List zA->zA×Int}
def Wp.kG(a:Wp env l t tm h)(b:r.g 0=tm.g 0)(c:r.g 3=tm.g 3)(d:r.g 4=tm.g 4):Wp env l t r h:=by obtain⟨e,f,g,i,j,k,m,n⟩:=a;exact⟨e,f,g,i,j,by rw[b,k],by rw[c,m],by rw[d,n]⟩
def Wq.kG{a:Tr E}(b:Wq env l t tm h)(c:a.g 0=tm.g 0)(d:a.g 3=tm.g 3)(e:a.g 4=tm.g 4)(f:a.g 5=tm.g 5)(g:a.g 6=tm.g 6):Wq env l t a h:=by obtain⟨b,⟨N,i,j,k,m⟩,n⟩:=b;exact⟨b.kG c d e,⟨N,i,j,k,by rw[f,m]⟩,by rw[g,n]⟩
def ap6(c:Wp env l t tm h)(a:∀m,ev (aj 76 [D t] m)=.r (aTu [D (aM t),al (bt t)]) m U):
 ay (bB (Wq env l t)) ca ap ap (aF Z ev 220 (ak [G] fF) tm h):=by
 let⟨b,d,g0,g1,g2,t0,t3,t4⟩:=c;have e:¬0=h.n:=by omega
 have f:¬1=h.n:=by omega
 have g:¬2=h.n:=by omega
 simp[fF,gH,z,f220,t3,b,g1,a];exact .mk ⟨⟨by simp[b],by simp;omega,by simp[e,g0],by simp[f,g1],by simp[g,g2],by simp[t0],by simp[t3],by simp[t4]⟩,⟨h.n,d,by simp,by simp,by simp⟩,by simp⟩
def ap7(a:Wq env l t tm h):ay (bB λb d=>I (bt t)<=40960/\Wq env l t b d) ca ap (E5 env l) (aF Z ev 220 (ak [Y,G] fF) tm h):=by
 have e:=a.g0;have c:=a.t6;by_cases hl:(40960:Int)<I (bt t)
 .simp[fF,gH,z,f220,c,hl,an,TP,UA];exact dD.pure kn (by simp[e])
 .simp[fF,gH,z,f220,c,hl,an];exact .mk ⟨by omega,a.kG (by simp) (by simp) (by simp) (by simp) (by simp)⟩
def ap8(b:Wq env l t tm h):ay (bB λa c=>Wq env l t a c/\aa a 21 (J (aM t).w)) ca ap ap (aF Z ev 220 (ak [Y,Y,G] fF) tm h):=by let⟨N,h1,g,d,e⟩:=b.hd;have f:=b.base;simp[fF,gH,z,f220,e,f,d];exact .mk ⟨b.kG (by simp) (by simp) (by simp) (by simp) (by simp),by simp⟩
def ap9(b:Wp env l t tm h):ay ca (E4 env (O t,l)) ap ap (aF Z ev 220 (ak [Y,Y] rU) tm h):=by let⟨a,hn,g0,g1,g2,t0,t3,t4⟩:=b;simp[rU,ms,ky,iJ,fF,gH,z,f220,t3,t4,a,g1,g2];exact cn.pure (bg t) (by simp[t4,a,g0])
def aqa(b:Wq env l t tm h):ay (bB λc f=>bt t≠[]/\Wq env l t c f) (E4 env (O t,l)) (λ_ _=>False) (λ_ _=>False) (aw Z ev ⟨220,U⟩ (ak [G] Bu) ⟨tm,[],h,U⟩):=by
 have d:=b;have a:=b.t6;let⟨e,hn,g0,g1,g2,t0,t3,t4⟩:=b.toWp;by_cases hl:(bt t)=[]
 .have a:tm.g 6=O (al []):=by rw[a,hl]
  simp[Bu,iJ,fF,gH,z,f220,a,an,t3,t4,e,g1,g2];exact cn.pure (bg t) (by simp[t4,e,g0])
 .have g:¬(I (bt t):Int)=0:=by intro q;exact hl (List.length_eq_zero_iff.1 (by omega))
  simp[Bu,iJ,fF,gH,z,f220,a,hl,an];exact .mk (d.kG (by simp) (by simp) (by simp) (by simp) (by simp))
def aqb(F:Wq env l t tm h){xs:List zA}(X:(aM t).M=[(aM t).M.headD zT,a])(hx:bt t=d::xs)(hlen:I xs<ao)
 (kf:∀(m:H)(B:Nat),B≠0->m.g 0=O (K (mc env l) 320 G)->m.g B=O (K (zF D [d]) 31 G)->ev (aj 256 [zM (O ⟨0,0,U⟩),D a,zL (O ⟨B,0,U⟩) 1 1] m)=(ij sb (l,a,[d])).bi ((m.bx [B]).p 0 (K (mc env (l-1)) 320 G)))
 (e:∀m u v L,dj v=al L->I L<ao->ev (aj 79 [D u,v] m)=.r (D (cF u L)) m U):
 ay (bB λM h'=>0<=l-1/\(sb a [d]).2=0/\Wp env (l-1) (cF (sb a [d]).1 xs) M h') (λ_=>False) (λ_ _=>False) (E5 env (l-1)) (aw Z ev ⟨220,U⟩ (yM 9 HF Y) ⟨tm,[],h,U⟩):=by
 let⟨N,h1,h2,h3,h4⟩:=F.hd;have P:=F.t6;let⟨f,hn,g0,g1,g2,t0,t3,t4⟩:=F.toWp;have Wv:I (aM t).M=2:=by rw[X];rfl
 have Q:(aM t).M[1]=a:=by
  have:(aM t).M[1]?=O a:=by rw[X];rfl
  rw[zm (by omega)]at this;injection this
 have ix:∀h:H,dI Z h (O (zf 31)) (O (al (aM t).M)) (O (J 1))=.v (ar (D a) 0) h:=λh=>by have:=nu (h:=h) (k:=zx) (l:=(aM t).M) (i:=1) (by omega);rw[Q]at this;exact this
 have n:∀h:H,dI Z h (O (zf 31)) (O (al (d::xs))) (O (J 0))=.v (ar (D d) 0) h:=λh=>nu (h:=h) (k:=zx) (l:=d::xs) (i:=0) (by simp);have sl:∀h:H,rO Z h 29 (O (al (d::xs))) (O (O (J 1))) (O U) (O U)=.v (iZ (d::xs) 1) h:=λh=>JO (h:=h) (xs:=d::xs) (k:=1) (by simp);have e:=λm u=>e m u (iZ (d::xs) 1) xs (by rw[NH];rfl) hlen;have R:zF D [d]=ah (D d):=ye _;rw[R]at kf;have nN:¬N=h.n:=by omega
 have o:¬h.n=N:=by omega
 have n0:¬h.n=0:=by omega
 have n1:¬1=h.n:=by omega
 have n2:¬2=h.n:=by omega
 have r:¬0=h.n:=by omega
 rw[hx]at P
 have b:(∃v,ij sb (l,a,[d])=.ret (D v)/\v=(sb a [d]).1/\0<=l-1/\(sb a [d]).2=0)\/ij sb (l,a,[d])=.aU eF:=by
  unfold ij;split
  .exact zt rfl
  .rename_i q;have q:¬l-1<0:=q;split
   .rename_i q2;exact zq ⟨_,rfl,rfl,by omega,q2⟩
   .exact zt rfl
 rw[eg,dJ];have bo:=ak5;simp only[zX,wy]at bo;let⟨⟨⟨⟨⟨⟨⟨g,s⟩,w⟩,c⟩,x⟩,y⟩,A⟩,C⟩:=bo;have e0:bj HF.toList 0 .Nl=Av:=rfl;rw[e0];generalize Av=bs at*;have d9:=λ(k:List aG->S->ag)(l:List aG)(tm:Tr E)(df:List zc)(h h1:H)(ab:Option (List zO))(f:h.b=0)(T:lJ (aE bs 9) l=Y)=>EQ (bs:=bs) (i:=9) (l:=l) (tm:=tm) (df:=df) (h:=h) (h1:=h1) (ab:=ab) (k:=k) f T;have V:=λ(k:List aG->S->ag)(l:List aG)(tm:Tr E)(df:List zc)(h h1:H)(ab:Option (List zO))(f:h.b=0)(T:lJ (aE bs 13) l=Y)=>EQ (bs:=bs) (i:=13) (l:=l) (tm:=tm) (df:=df) (h:=h) (h1:=h1) (ab:=ab) (k:=k) f T;have aq:∀(rd wr:Nat)(l:List aG),lJ (aE bs 13) l=Y->lJ (aE bs 13) (nG 9 rd wr l)=Y:=λrd wr l hl=>MW c hl;have cq:=λ(bp rd wr:Nat)(l:List aG)=>Xz (p:=9) (bp:=bp) (rd:=rd) (wr:=wr) (l:=l);have gd:∀(m:H)(j:Nat),¬j=h.n->(m.bx [h.n]).g j=m.g j:=λm j hj=>kQ (by simp;exact hj);have W:∀(rd wr:Nat)(l:List aG),gh 9 (aE bs 9) (⟨8,rd,wr⟩::l)=gh 9 (aE bs 9) l:=λrd wr l=>qo _ _ (zt g);have dn:∀(m:H),(m.bx [h.n]).n=m.n:=λm=>MN _ m;rcases b with⟨v,b,rfl,IF,he⟩|b
 .rw[b]at kf;simp only[MO.bi]at kf;simp[HF,Bu,iJ,fF,gH,bq,z,f220,t0,t3,P,h4,f,g0,g1,h3,h2,ix,n,kf,sl,bounds,iV,e,o,n0,r,n1,g,s,x,y,d9,V,aq,gd,cZ,cY,dc,dt,cR];exact .mk ⟨by omega,he,by simp[f],by simp[dn];omega,by simp,by simp,by simp[gd,n2,g2],by simp[t0],by simp[t3],by simp[t4]⟩
 .rw[b]at kf;simp only[MO.bi]at kf;simp[HF,Bu,iJ,fF,gH,bq,z,f220,t0,P,h4,f,g0,h3,h2,ix,n,kf,sl,bounds,iV,o,n0,r,g,s,w,A,C,c,d9,W,cq,ol,JH,rM,cZ,cY,dc,dt,cR];exact dD.pure kn (by simp)
def anQ(L:Wq env l t tm h)(M:(aM t).M=[(aM t).M.headD zT,d,a])(hlen:I (bt t)<ao)
 (kf:∀(m:H)(B:Nat),B≠0->m.g 0=O (K (mc env l) 320 G)->m.g B=O (K (zF D [d]) 31 G)->ev (aj 256 [zM (O ⟨0,0,U⟩),D a,zL (O ⟨B,0,U⟩) 1 1] m)=(ij sb (l,a,[d])).bi ((m.bx [B]).p 0 (K (mc env (l-1)) 320 G)))
 (e:∀m u v P,dj v=al P->I P<ao->ev (aj 79 [D u,v] m)=.r (D (cF u P)) m U):
 ay (bB λQ h'=>0<=l-1/\(sb a [d]).2=0/\Wp env (l-1) (cF (sb a [d]).1 (bt t)) Q h') (λ_=>False) (λ_ _=>False) (E5 env (l-1)) (aw Z ev ⟨220,U⟩ (yM 11 Hi Y) ⟨tm,[],h,U⟩):=by
 let⟨N,h1,h2,h3,h4⟩:=L.hd;have t6:=L.t6;let⟨f,hn,g0,g1,g2,t0,t3,t4⟩:=L.toWp;have Wv:I (aM t).M=3:=by rw[M];rfl
 have R:(aM t).M[1]=d:=by
  have:(aM t).M[1]?=O d:=by rw[M];rfl
  rw[zm (by omega)]at this;injection this
 have T:(aM t).M[2]=a:=by
  have:(aM t).M[2]?=O a:=by rw[M];rfl
  rw[zm (by omega)]at this;injection this
 have ix:∀h:H,dI Z h (O (zf 31)) (O (al (aM t).M)) (O (J 2))=.v (ar (D a) 0) h:=λh=>by have:=nu (h:=h) (k:=zx) (l:=(aM t).M) (i:=2) (by omega);rw[T]at this;exact this
 have n:∀h:H,dI Z h (O (zf 31)) (O (al (aM t).M)) (O (J 1))=.v (ar (D d) 0) h:=λh=>by have:=nu (h:=h) (k:=zx) (l:=(aM t).M) (i:=1) (by omega);rw[R]at this;exact this
 have e:=λm u=>e m u (al (bt t)) (bt t) (RA _) hlen;have V:zF D [d]=ah (D d):=ye _;rw[V]at kf;have nN:¬N=h.n:=by omega
 have o:¬h.n=N:=by omega
 have n0:¬h.n=0:=by omega
 have n1:¬1=h.n:=by omega
 have n2:¬2=h.n:=by omega
 have r:¬0=h.n:=by omega
 have b:(∃v,ij sb (l,a,[d])=.ret (D v)/\v=(sb a [d]).1/\0<=l-1/\(sb a [d]).2=0)\/ij sb (l,a,[d])=.aU eF:=by
  unfold ij;split
  .exact zt rfl
  .rename_i q;have q:¬l-1<0:=q;split
   .rename_i q2;exact zq ⟨_,rfl,rfl,by omega,q2⟩
   .exact zt rfl
 rw[eg,dJ];have bo:=aiY;simp only[zX,wy]at bo;let⟨⟨⟨⟨⟨⟨⟨⟨g,s⟩,w⟩,x⟩,c⟩,y⟩,A⟩,C⟩,F⟩:=bo;have e0:bj Hi.toList 0 .Nl=rP:=rfl;rw[e0];generalize rP=bs at*;have d9:=λ(k:List aG->S->ag)(l:List aG)(tm:Tr E)(df:List zc)(h h1:H)(ab:Option (List zO))(f:h.b=0)(W:lJ (aE bs 10) l=Y)=>EQ (bs:=bs) (i:=10) (l:=l) (tm:=tm) (df:=df) (h:=h) (h1:=h1) (ab:=ab) (k:=k) f W;have X:=λ(k:List aG->S->ag)(l:List aG)(tm:Tr E)(df:List zc)(h h1:H)(ab:Option (List zO))(f:h.b=0)(W:lJ (aE bs 13) l=Y)=>EQ (bs:=bs) (i:=13) (l:=l) (tm:=tm) (df:=df) (h:=h) (h1:=h1) (ab:=ab) (k:=k) f W;have aq:∀(rd wr:Nat)(l:List aG),lJ (aE bs 13) l=Y->lJ (aE bs 13) (nG 10 rd wr l)=Y:=λrd wr l hl=>MW c hl;have cq:=λ(bp rd wr:Nat)(l:List aG)=>Xz (p:=10) (bp:=bp) (rd:=rd) (wr:=wr) (l:=l);have gd:∀(m:H)(j:Nat),¬j=h.n->(m.bx [h.n]).g j=m.g j:=λm j hj=>kQ (by simp;exact hj);have am8:∀(rd wr:Nat)(l:List aG),gh 10 (aE bs 10) (⟨9,rd,wr⟩::l)=gh 10 (aE bs 10) l:=λrd wr l=>qo _ _ (zt g);have dn:∀(m:H),(m.bx [h.n]).n=m.n:=λm=>MN _ m;rcases b with⟨v,b,rfl,IF,he⟩|b
 .rw[b]at kf;simp only[MO.bi]at kf;simp[Hi,ky,iJ,fF,gH,bq,z,f220,t0,t3,t6,h4,f,g0,g1,h3,h2,ix,n,kf,e,o,n0,r,n1,g,s,w,C,y,A,d9,X,aq,gd,cZ,cY,dc,dt,cR];exact .mk ⟨by omega,he,by simp[f],by simp[dn];omega,by simp,by simp,by simp[gd,n2,g2],by simp[t0],by simp[t3],by simp[t4]⟩
 .rw[b]at kf;simp only[MO.bi]at kf;simp[Hi,ky,iJ,fF,gH,bq,z,f220,t0,t6,h4,f,g0,h3,h2,ix,n,kf,o,n0,r,g,s,w,x,F,c,d9,am8,cq,ol,JH,rM,cZ,cY,dc,dt,cR];exact dD.pure kn (by simp)
end
section
variable{ev:zC->ag}{env:List zB}{l:Int}{t:zA}{tm:Tr E}{h:H}{lf:zA->List aB->zA×Int}{sb:zA->List zA->zA×Int}
structure Wr(env:List zB)(l:Int)(t p:zA)(tm:Tr E)(h:H):Prop extends Wq env l t tm h where
 pr:∃N,3<=N/\N<h.n/\h.g N=O (K (ah (D p)) 31 G)/\tm.g 7=O (zM (O ⟨N,0,U⟩))
def Wr.kG{p:zA}{a:Tr E}(b:Wr env l t p tm h)(c:a.g 0=tm.g 0)(d:a.g 3=tm.g 3)(e:a.g 4=tm.g 4)(f:a.g 5=tm.g 5)(g:a.g 6=tm.g 6)(i:a.g 7=tm.g 7):Wr env l t p a h:=by obtain⟨b,⟨N,j,k,m,n⟩⟩:=b;exact⟨b.kG c d e f g,⟨N,j,k,m,by rw[i,n]⟩⟩
def anR(b:Wq env l t tm h){r:Option zA×Int}(q:(aM t).M=[a])(eO:∀m:H,ae m 0 (ad (mc env l) 320)->ev (aj 220 [pB 0,D a] m)=(mJ r.1).bi (m.p 0 (ad (mc env r.2) 320))):
 ay (bB λd u=>∃p,r.1=O p/\Wr env r.2 t p d u) ca ap (λc s=>r.1=U/\E5 env r.2 c s) (aF Z ev 220 (ak [G] oY) tm h):=by
 let⟨N,h1,F,e,f⟩:=b.hd;have v:=b.t6;let⟨g,w,g0,g1,g2,t0,t3,t4⟩:=b.toWp;let⟨x,n⟩:=r
 have o:∀h:H,dI Z h (O (zf 31)) (O (al (aM t).M)) (O (J 0))=.v (ar (D a) 0) h:=λh=>by rw[q];exact nu (h:=h) (k:=zx) (l:=[a]) (i:=0) (by simp)
 have y:¬N=h.n:=by omega
 have A:¬0=h.n:=by omega
 have B:¬1=h.n:=by omega
 have C:¬2=h.n:=by omega
 have j:¬N=0:=by omega
 cases x with
 |none=>
  have eO:∀m:H,ae m 0 (ad (mc env l) 320)->ev (aj 220 [pB 0,D a] m)=.p [⟨eF,G,G⟩] (m.p 0 (ad (mc env n) 320)) U:=eO;simp[oY,ms,ky,iJ,fF,gH,z,f220,t0,f,g,e,g0,o,eO];exact dD.pure kn (by simp)
 |some p=>
  have eO:∀m:H,ae m 0 (ad (mc env l) 320)->ev (aj 220 [pB 0,D a] m)=.r (D p) (m.p 0 (ad (mc env n) 320)) U:=eO;simp[oY,ms,ky,iJ,fF,gH,z,f220,t0,f,g,e,g0,o,eO];exact .mk ⟨⟨⟨by simp[g],by simp;omega,by simp[A],by simp[B,g1],by simp[C,g2],by simp[t0],by simp[t3],by simp[t4]⟩,⟨N,h1,by simp;omega,by simp[y,j,e],by simp[f]⟩,by simp[v]⟩,⟨h.n,w,by simp,by simp,by simp⟩⟩
def anS(b:Wr env l t a tm h)(hlen:I (bt t)<ao)
 (PE:∀(m:H)(N:Nat)(k:Int),ae m N (ad (zF D [a]) 31)->ev (aj 79 [node1 k N,al (bt t)] m)=.r (D (cF (Gl k a) (bt t))) (m.bx [N]) U):
 ay (bB λd n=>a.w=8/\Wr env l t a d n) (λs=>a.w≠8/\E4 env (O (cF (Gl (aM t).w a) (bt t)),l) s) ap ap (aF Z ev 220 (ak [Y,G] oY) tm h):=by
 have e:=b;let⟨N,h1,A,o,q⟩:=b.hd;let⟨P,B,C,p3,p4⟩:=b.pr;have r:=b.t6;let⟨c,hn,g0,g1,g2,t0,t3,t4⟩:=b.toWp;have f:zF D [a]=ah (D a):=ye _;rw[f]at PE;have u:¬0=h.n:=by omega
 have v:¬2=h.n:=by omega
 have w:=λ(h:H)(k:Int)(N:Nat)=>awE h k N;have g:∀(m:H)(j:Nat),¬j=h.n->(m.bx [h.n]).g j=m.g j:=λm j x=>kQ (by simp;exact x);have y:∀m:H,m.b=0->(m.bx [h.n]).b=0:=λm c=>(rI c [h.n]).2.1;by_cases i:a.w=8
 .simp[oY,ms,ky,iJ,fF,gH,z,f220,p4,c,p3,i,an];exact .mk (e.kG (by simp) (by simp) (by simp) (by simp) (by simp) (by simp))
 .simp[oY,ms,ky,iJ,fF,gH,z,f220,t4,r,q,o,p4,c,p3,g2,i,an,w,PE,g,v];exact cn.pure (bg _) (by simp[t4,c,y,g,u,g0])
def anT{b:MO}(c:Wr env l t a tm h)(hlen:I (bt t)<ao)(j:b=.aU eF\/b=.ret (D (pW (aM t) a)))
 (Ip:∀(m:H),ae m 0 (ad (mc env l) 320)->ev (aj 257 [pB 0,D (aM t),D a] m)=b.bi (m.p 0 (ad (mc env (l-1)) 320)))
 (d:∀m u,ev (aj 79 [D u,al (bt t)] m)=.r (D (cF u (bt t))) m U):
 ay (bB λe k=>b=.ret (D (pW (aM t) a))/\Wp env (l-1) (cF (pW (aM t) a) (bt t)) e k) ca ap (E5 env (l-1)) (aF Z ev 220 (ak [Y,Y] oY) tm h):=by
 let⟨N,h1,o,g,i⟩:=c.hd;let⟨P,q,r,p3,p4⟩:=c.pr;have n:=c.t6;let⟨f,hn,g0,g1,g2,t0,t3,t4⟩:=c.toWp;rcases j with rfl|rfl
 .simp only[MO.bi]at Ip;simp[oY,ms,ky,iJ,fF,gH,z,f220,t0,i,g,p4,f,p3,g0,Ip];exact dD.pure kn (by simp)
 .simp only[MO.bi]at Ip;simp[oY,ms,ky,iJ,fF,gH,z,f220,t0,t3,n,i,g,p4,f,p3,g0,g1,Ip,d];exact .mk ⟨by simp[f],by simp;omega,by simp,by simp,by simp[g2],by simp[t0],by simp[t3],by simp[t4]⟩
def aqc{rc:RC}{l':Int}(b:Wq env l t tm h)
 (aLm:∀(m:H),ae m 0 (ad (mc env l) 320)->ev (aj 258 [pB 0,D (aM t),al (bt t)] m)=rc.mo.bi (m.p 0 (ad (mc env l') 320))):
 ay (bB λd n=>∃u,rc=.yes u/\Wp env l' u d n) (λs=>rc=.no/\E4 env (O t,l') s) ap (λc s=>rc=.aU/\E5 env l' c s) (aF Z ev 220 KB tm h):=by
 let⟨N,h1,o,e,f⟩:=b.hd;have g:=b.t6;let⟨a,hn,g0,g1,g2,t0,t3,t4⟩:=b.toWp;have i:¬0=h.n:=by omega
 have j:¬1=h.n:=by omega
 have k:¬2=h.n:=by omega
 cases rc with
 |aU=>
  have aLm:∀(m:H),ae m 0 (ad (mc env l) 320)->ev (aj 258 [pB 0,D (aM t),al (bt t)] m)=.p [⟨eF,G,G⟩] (m.p 0 (ad (mc env l') 320)) U:=aLm;simp[KB,rU,ms,ky,iJ,fF,gH,z,f220,t0,g,f,e,a,g0,aLm];exact dD.pure kn (by simp)
 |no=>
  have aLm:∀(m:H),ae m 0 (ad (mc env l) 320)->ev (aj 258 [pB 0,D (aM t),al (bt t)] m)=.r (aTu [D zT,zP G]) (m.p 0 (ad (mc env l') 320)) U:=aLm;simp[KB,rU,ms,ky,iJ,fF,gH,z,f220,t0,t3,t4,g,f,e,a,g0,g1,g2,j,k,aLm,an];exact cn.pure (bg _) (by simp[t4,a,i])
 |yes u=>
  have aLm:∀(m:H),ae m 0 (ad (mc env l) 320)->ev (aj 258 [pB 0,D (aM t),al (bt t)] m)=.r (aTu [D u,zP Y]) (m.p 0 (ad (mc env l') 320)) U:=aLm;simp[KB,rU,ms,ky,iJ,fF,gH,z,f220,t0,t3,g,f,e,a,g0,g1,j,aLm,an];exact .mk ⟨by simp[a],by simp;omega,by simp[i],by simp,by simp[k,g2],by simp[t0],by simp[t3],by simp[t4]⟩
end
def awF{l:List A}(h:I l=1):∃a,l=[a]:=by
 match l,h with
 |[a],_=>exact⟨a,rfl⟩
def awG{l:List A}(h:I l=2):∃a b,l=[a,b]:=by
 match l,h with
 |[a,b],_=>exact⟨a,b,rfl⟩
def ad2{l:List A}(h:I l=3):∃a b c,l=[a,b,c]:=by
 match l,h with
 |[a,b,c],_=>exact⟨a,b,c,rfl⟩
def YQ(t:zA):zD t=1+bA t.M:=by cases t;rw[kU];rfl
section
variable(env:List zB){lf:zA->List aB->zA×Int}{sb:zA->List zA->zA×Int}
structure WK(M:Nat)(wf:Int×zA->Option zA×Int)(sb:zA->List zA->zA×Int)(fc:KX->RC×Int)(ev:zC->ag):Prop where
 Wt:∀m u,zD u<1073741824->ev (aj 76 [D u] m)=.r (.tuple ⟨[D (aM u),al (bt u)]⟩) m U
 px:∀m u v zs,dj v=al zs->I zs<ao->ev (aj 79 [D u,v] m)=.r (D (cF u zs)) m U
 PE:∀(m:H)(N:Nat)(k:Int)(p:zA)(zs:List zA),I zs<ao->ae m N (ad (zF D [p]) 31)->ev (aj 79 [node1 k N,al zs] m)=.r (D (cF (Gl k p) zs)) (m.bx [N]) U
 kf:∀(m:H)(B:Nat)(l:Int)(bd x0:zA),C3 (l,bd,[x0])->B≠0->ae m 0 (ad (mc env l) 320)->ae m B (ad (zF D [x0]) 31)->ev (aj 256 [pB 0,D bd,zL (pO B) 1 1] m)=(ij sb (l,bd,[x0])).bi ((m.bx [B]).p 0 (ad (mc env (l-1)) 320))
 eO:∀(m:H)(x:Int×zA),ni x->fa x<M->ae m 0 (ad (mc env x.1) 320)->ev (aj 220 [pB 0,D x.2] m)=(mJ (wf x).1).bi (m.p 0 (ad (mc env (wf x).2) 320))
 Ip:∀(m:H)(x:Int×zA×zA),Ot x->ae m 0 (ad (mc env x.1) 320)->ev (aj 257 [pB 0,D x.2.1,D x.2.2] m)=(At x).bi (m.p 0 (ad (mc env (x.1-1)) 320))
 aLm:∀(m:H)(x:KX),Im M x->ae m 0 (ad (mc env x.1) 320)->ev (aj 258 [pB 0,D x.2.1,al x.2.2] m)=(fc x).1.mo.bi (m.p 0 (ad (mc env (fc x).2) 320))
 ok:∀x,ni x->fa x<M->nc x (wf x)
 okc:∀x,Im M x->pe x.1 (bA x.2.2+I x.2.2) (fc x)
def ak6(A1:BR sb){wf:Int×zA->Option zA×Int}{fc:KX->RC×Int}(c:WK env n wf sb fc V){l:Int}{t:zA}(hx:ni (l,t))(hm:fa (l,t)<=n)(st:Wp env l t r h):
 ay (bB λi C=>∃l' t',aul l t l' t'/\Wp env l' t' i C) (λs=>∃d,nc (l,t) d/\E4 env d s) (λ_ _=>False) (λf s=>∃l',E5 env l' f s) (aw Z V ⟨220,U⟩ gH ⟨r,[],h,U⟩):=by
 let⟨hl,S,eU⟩:=hx;have hl:iN l:=hl;have S:aI cC t:=S;have eU:(zD t:Int)+(6000:Nat)*l<=400000000:=eU;have ph:=hl.1;have IF:=hl.2;have AV:=En t;have L:=YQ (aM t);have T:=S.head;have j:=S.args;have A:=T.here;have same:nc (l,t) (O t,l):=⟨ph,xW _,S,by show(zD t:Int)<=zD t+(6000:Nat)*(l-l);omega⟩
 have mul:∀a:zA,zD a<zD t->fa (l,a)<n:=λa ha=>by unfold fa at hm⊢;have hm:l.toNat*1000000000+zD t<=n:=hm;show l.toNat*1000000000+zD a<n;omega
 have P:I (bt t)<ao:=by unfold ao;omega
 rw[ahv,hU];refine mM ?_;rw[ahw];refine ax (Q0:=Wq env l t) ((ap6 st λm=>c.Wt m t (by omega)).Mo (λ_ q=>q) (λ_ q=>q.elim) (λ_ _ q=>q.elim) (λ_ _ q=>q.elim)) λfQ h1 DJ=>?_;refine ax (Q0:=Wq env l t) ((ap7 DJ).Mo (λs q=>?_) (λ_ q=>q.elim) (λ_ _ q=>q.elim) (λ_ _ q=>⟨l,q⟩)) λjH h2 qh=>?_
 .obtain⟨i,C,rfl,_,q⟩:=q.elim;exact .mk q
 refine ax (Q0:=λi C=>Wq env l t i C/\i.g 21=O (J (aM t).w)) ((ap8 qh).Mo (λ_ q=>q) (λ_ q=>q.elim) (λ_ _ q=>q.elim) (λ_ _ q=>q.elim)) λru h3⟨DF,o⟩=>?_;rw[hU];refine mM ?_;rw[ahx];refine ax (Q0:=λi C=>Wq env l t i C/\i.g 21=O (J (aM t).w)/\i.g 23=O (zP (yF ((aM t).w=5)))) ?_ λCb h4⟨Gb,o,t23⟩=>?_
 .simp[iJ,fF,gH,z,f220,o];exact .mk ⟨DF.kG (by simp) (by simp) (by simp) (by simp) (by simp),by simp[o],by simp⟩
 rw[oR];simp only[qI,t23];by_cases k5:(aM t).w=5
 .rw[show yF ((aM t).w=5)=Y by simp[k5],rG,agC];refine ax (Q0:=λi C=>bt t≠[]/\Wq env l t i C) ((aqa Gb).Mo (λ_ q=>q) (λ_ q=>⟨_,same,q⟩) (λ_ _ q=>q.elim) (λ_ _ q=>q.elim)) λIK h5⟨jE,W⟩=>?_;let⟨ty,X,w⟩:=awG (l:=(aM t).M) (by rw[A.1,k5];rfl)
  obtain⟨R,xs,iO⟩:∃R xs,bt t=R::xs:=by
   cases hq:bt t with
   |nil=>exact absurd hq jE
   |cons a b=>exact⟨a,b,rfl⟩
  have Gc:aI cC X:=T.ld (by rw[w];simp);have DA:aI cC R:=j R (by rw[iO];simp);rw[w]at L;rw[iO]at AV;rw[hG,hG]at L;rw[hG,List.length_cons]at AV
  have Q:C3 (l,X,[R]):=⟨hl,Gc.imp λu hu=>cC.ok hu,λv F=>(by have F:v∈[R]:=F;rw[yi]at F;subst F;exact⟨DA.imp λu hu=>cC.ok hu,by unfold ao;omega⟩),by show 1<=60000;omega⟩
  refine(aqb (sb:=sb) W (by rw[w];rfl) iO (by unfold ao;omega) (λm B h1 h2 h3=>c.kf m B l X R Q h1 h2 h3) c.px).Mo (λs q=>?_) (λ_ q=>q.elim) (λ_ _ q=>q.elim) (λ_ _ q=>⟨_,q⟩);obtain⟨i,C,rfl,q1,_,q2⟩:=q.elim;refine .mk ⟨_,_,⟨q1,by omega,cC.oK (A1.gl cC.loc Gc λv F=>(by rw[yi]at F;subst F;exact DA)) λa ha=>j a (by rw[iO];simp[ha]),?_⟩,q2⟩;have hsm:=A1.small (t:=X) (vs:=[R]) λv F=>(Q.2.2.1 v F).2;rw[zr];show((zD (sb X [R]).1+bA xs+I xs:Nat):Int)<=zD t+(6000:Nat)*(l-(l-1));omega
 rw[show yF ((aM t).w=5)=G by simp[k5],Aa,agD];refine ax (Q0:=λi C=>Wq env l t i C/\i.g 21=O (J (aM t).w)/\i.g 42=O (zP (yF ((aM t).w=11)))) ?_ λIK h5⟨W,o,t42⟩=>?_
 .simp[ky,iJ,fF,gH,z,f220,o];exact .mk ⟨Gb.kG (by simp) (by simp) (by simp) (by simp) (by simp),by simp[o],by simp⟩
 rw[oR];simp only[qI,t42];by_cases WJ:(aM t).w=11
 .rw[show yF ((aM t).w=11)=Y by simp[WJ],rG];let⟨ty,R,X,w⟩:=ad2 (l:=(aM t).M) (by rw[A.1,WJ];rfl);have Gc:aI cC X:=T.ld (by rw[w];simp);have DA:aI cC R:=T.ld (by rw[w];simp);rw[w]at L;rw[hG,hG,hG]at L
  have Q:C3 (l,X,[R]):=⟨hl,Gc.imp λu hu=>cC.ok hu,λv F=>(by have F:v∈[R]:=F;rw[yi]at F;subst F;exact⟨DA.imp λu hu=>cC.ok hu,by unfold ao;omega⟩),by show 1<=60000;omega⟩
  refine(anQ (sb:=sb) W (by rw[w];rfl) P (λm B h1 h2 h3=>c.kf m B l X R Q h1 h2 h3) c.px).Mo (λs q=>?_) (λ_ q=>q.elim) (λ_ _ q=>q.elim) (λ_ _ q=>⟨_,q⟩);obtain⟨i,C,rfl,q1,_,q2⟩:=q.elim;refine .mk ⟨_,_,⟨q1,by omega,cC.oK (A1.gl cC.loc Gc λv F=>(by rw[yi]at F;subst F;exact DA)) j,?_⟩,q2⟩;have hsm:=A1.small (t:=X) (vs:=[R]) λv F=>(Q.2.2.1 v F).2;rw[zr];show((zD (sb X [R]).1+bA (bt t)+I (bt t):Nat):Int)<=zD t+(6000:Nat)*(l-(l-1));omega
 rw[show yF ((aM t).w=11)=G by simp[WJ],Aa,agE];refine ax (Q0:=λi C=>Wq env l t i C/\i.g 21=O (J (aM t).w)/\i.g 57=O (zP (yF ((aM t).w=9\/(aM t).w=10)))) ?_ λIL h6⟨Qm,o,t57⟩=>?_
 .by_cases k9:(aM t).w=9
  .simp[ms,ky,iJ,fF,gH,z,f220,o,k9,an];exact .mk ⟨W.kG (by simp) (by simp) (by simp) (by simp) (by simp),by simp[o,k9],by simp⟩
  .simp[ms,ky,iJ,fF,gH,z,f220,o,k9,an];exact .mk ⟨W.kG (by simp) (by simp) (by simp) (by simp) (by simp),by simp[o],by simp⟩
 rw[oR];simp only[qI,t57];by_cases kp:(aM t).w=9\/(aM t).w=10
 .rw[show yF ((aM t).w=9\/(aM t).w=10)=Y by simp[kp],rG,agF];have hkN:mZ (aM t).w=1:=by rcases kp with k|k<;>rw[k]<;>rfl
  let⟨k0,w⟩:=awF (l:=(aM t).M) (by rw[A.1,hkN]);have hk0:aI cC k0:=T.ld (by rw[w];simp);rw[w]at L;rw[hG]at L;have L:zD (aM t)=1+zD k0:=by rw[L];simp[bA]
  have w0:ni (l,k0):=⟨hl,hk0,by show(zD k0:Int)+(6000:Nat)*l<=400000000;omega⟩;have m0:fa (l,k0)<n:=mul k0 (by omega);have hr:=c.ok _ w0 m0;refine ax (Q0:=λi C=>∃p,(wf (l,k0)).1=O p/\Wr env (wf (l,k0)).2 t p i C) ((anR Qm w λm hg=>c.eO m (l,k0) w0 m0 hg).Mo (λ_ q=>q) (λ_ q=>q.elim) (λ_ _ q=>q.elim) (λ_ _ q=>⟨_,q.2⟩)) λCe h7⟨p,hp,Gi⟩=>?_;unfold nc at hr;rw[hp]at hr;let⟨a1,a2,a3,a4⟩:=hr;generalize(wf (l,k0)).2=l' at a1 a2 a4 Gi;have a2:l'<=l:=a2;have a4:(zD p:Int)<=zD k0+(6000:Nat)*(l-l'):=a4;refine ax (Q0:=λi C=>p.w=8/\Wr env l' t p i C) ((anS Gi P λm N k hN=>c.PE m N k p (bt t) P hN).Mo (λ_ q=>q) (λs q=>⟨_,?_,q.2⟩) (λ_ _ q=>q.elim) (λ_ _ q=>q.elim)) λDG h8⟨hp8,Mh⟩=>?_
  .refine⟨a1,a2,cC.oK (.mk ⟨by show 1=mZ (aM t).w;rw[hkN],⟨by show 0<1000000;omega,λx hx=>by cases hx⟩,λx hx=>by cases hx⟩ λx hx=>?_) j,?_⟩
   .have hx:x∈[p]:=hx;rw[yi]at hx;subst hx;exact a3
   .rw[zr,kU];have:bA [p]=zD p:=by simp[bA]
    rw[this];show((1+zD p+bA (bt t)+I (bt t):Nat):Int)<=zD t+(6000:Nat)*(l-l');omega
  .have p3:I p.M=3:=by rw[a3.here.1,hp8];rfl
   have hco:Ot (l',aM t,p):=⟨⟨a1,by show l'<=1000000;omega⟩,kp,p3⟩
   have hcm:At (l',aM t,p)=.aU eF\/(At (l',aM t,p)=.ret (D (pW (aM t) p))/\0<=l'-1):=by
    unfold At;split
    .exact zq rfl
    .rename_i q;have q:¬l'-1<0:=q;exact zt ⟨rfl,by omega⟩
   refine(anT Mh P (hcm.imp id λq=>q.1) (λm hg=>c.Ip m (l',aM t,p) hco hg) (λm u=>c.px m u _ _ (RA _) P)).Mo (λs q=>?_) (λ_ q=>q.elim) (λ_ _ q=>q.elim) (λ_ _ q=>⟨_,q⟩);obtain⟨i,C,rfl,q1,q2⟩:=q.elim
   have h0:0<=l'-1:=by
    rcases hcm with e|⟨_,e⟩
    .rw[e]at q1;cases q1
    .exact e
   have adf:aI cC (pW (aM t) p)/\zD (pW (aM t) p)<=zD p:=by
    let⟨x,y,g,Mn⟩:=ad2 p3;have hpn:=YQ p;rw[Mn,hG,hG,hG]at hpn;unfold pW;rcases kp with k|k
    .rw[k,Mn];exact⟨a3.ld (by rw[Mn];simp[List.getD]),by show zD y<=_;omega⟩
    .rw[k,Mn];exact⟨a3.ld (by rw[Mn];simp[List.getD]),by show zD g<=_;omega⟩
   refine .mk ⟨_,_,⟨h0,by omega,cC.oK adf.1 j,?_⟩,q2⟩;rw[zr];show((zD (pW (aM t) p)+bA (bt t)+I (bt t):Nat):Int)<=zD t+(6000:Nat)*(l-(l'-1));have:=adf.2;omega
 rw[show yF ((aM t).w=9\/(aM t).w=10)=G by simp[kp],Aa,agG];refine ax (Q0:=λi C=>Wq env l t i C/\i.g 82=O (zP (yF ((aM t).w=3)))) ?_ λCe h7⟨Gi,t82⟩=>?_
 .simp[rU,ms,ky,iJ,fF,gH,z,f220,o];exact .mk ⟨Qm.kG (by simp) (by simp) (by simp) (by simp) (by simp),by simp⟩
 rw[oR];simp only[qI,t82];by_cases k3:(aM t).w=3
 .rw[show yF ((aM t).w=3)=Y by simp[k3],rG];have hn1:1<=zD (aM t):=by rw[L];omega
  have hkx:Im n (l,aM t,bt t):=⟨hl,λv F=>A.2.2 v F,by have:=A.2.1.1;unfold ao;show(aM t).H.length<_;omega,j,by show((bA (bt t)+I (bt t):Nat):Int)+(6000:Nat)*l<=400000000;omega,λa ha=>by have ha:a∈bt t:=ha;have:=GL ha;exact mul a (by omega)⟩
  have ho:=c.okc _ hkx;refine(aqc (rc:=(fc (l,aM t,bt t)).1) (l':=(fc (l,aM t,bt t)).2) Gi λm hg=>c.aLm m (l,aM t,bt t) hkx hg).Mo (λs q=>?_) (λs q=>?_) (λ_ _ q=>q.elim) (λ_ _ q=>⟨_,q.2⟩)
  .obtain⟨i,C,rfl,u,q1,q2⟩:=q.elim;unfold pe at ho;rw[q1]at ho;let⟨a1,a2,a3,a4⟩:=ho;refine .mk ⟨_,_,⟨a1,a2,a3,?_⟩,q2⟩;have a4:(zD u:Int)<=(bA (bt t)+I (bt t):Nat)+(6000:Nat)*(l-(fc (l,aM t,bt t)).2):=a4;show(zD u:Int)<=zD t+(6000:Nat)*(l-(fc (l,aM t,bt t)).2);omega
  .unfold pe at ho;rw[q.1]at ho;have o1:0<=(fc (l,aM t,bt t)).2:=ho.1;have o2:(fc (l,aM t,bt t)).2<=l:=ho.2;exact⟨(O t,(fc (l,aM t,bt t)).2),⟨o1,o2,S,by show(zD t:Int)<=zD t+(6000:Nat)*(l-(fc (l,aM t,bt t)).2);omega⟩,q.2⟩
 .rw[show yF ((aM t).w=3)=G by simp[k3],Aa];exact(ap9 Gi.toWp).Mo (λ_ q=>q.elim) (λ_ q=>⟨_,same,q⟩) (λ_ _ q=>q.elim) (λ_ _ q=>q.elim)
def ak7(hE:pX env)(py:Dh lf)(i:BR sb)(x:Int×zA)(hx:ni x){wf:Int×zA->Option zA×Int}(hw:Gj env (fa x) wf):
 ∃r:Option zA×Int,nc x r/\∀h b,ae h b (ad (mc env x.1) 320)->bP Z prog (zU (za 220) #[] #[]) (nI b x) h U ((mJ r.1).bi (h.p b (ad (mc env r.2) 320))):=by
 obtain⟨l,t⟩:=x;obtain⟨fc,hfc,Gk⟩:=ahu env hE py i hw
 obtain⟨C,hC,Wo,A,F,L,P,Q⟩:∃C,aR Z prog C/\Has C 76 (λt=>zD t<1073741824) (λt=>[D t]) (λt=>aTu [D (aM t),al (bt t)])/\C 79=nP Dk Io/\C 256=nP (Ij env) (Ik sb env)/\
  bQ C 220 320 G (λy:Int×zA=>ni y/\fa y<fa (l,t)) nI (λx=>mc env x.1) (λx=>mc env (wf x).2) (λx=>mJ (wf x).1)/\
  bQ C 257 320 G Ot UB (λx=>mc env x.1) (λx=>mc env (x.1-1)) At/\
  bQ C 258 320 G (Im (fa (l,t))) O7 (λx=>mc env x.1) (λx=>mc env (fc x).2) (λx=>(fc x).1.mo):=
  ⟨_,aZ (MX (MX (iv (iv (iv aW hfc) (agB env)) hw.fn) (abz env i)) asu) NY,Has.Ad λx y e=>(by simp at e;rw[cf e]),rfl,rfl,bQ.skip (by decide) (bQ.skip (by decide) (bQ.skip (by decide) (bQ.add λb b' x y e=>(by
     obtain⟨R,S⟩:=x;obtain⟨V,W⟩:=y;simp at e;refine⟨e.1,λf=>?_⟩;have f:R=V:=by simpa using f
     have X:S=W:=cf e.2;subst f;subst X;exact⟨rfl,rfl⟩)))),bQ.skip (by decide) (bQ.skip (by decide) (bQ.skip (by decide) (bQ.skip (by decide) (bQ.add λb b' x y e=>(by
     obtain⟨R,S,x3⟩:=x;obtain⟨V,W,y3⟩:=y;simp at e;refine⟨e.1,λf=>?_⟩;have f:R=V:=by simpa using f
     have X:S=W:=cf e.2.1;have e4:x3=y3:=cf e.2.2;subst f;subst X;subst e4;exact⟨rfl,rfl⟩))))),bQ.skip (by decide) (bQ.skip (by decide) (bQ.skip (by decide) (bQ.skip (by decide) (bQ.skip (by decide) (bQ.add λb b' x y e=>(by
     obtain⟨R,S,x3⟩:=x;obtain⟨V,W,y3⟩:=y;simp at e;refine⟨e.1,λf=>?_⟩;have f:R=V:=by simpa using f
     have X:S=W:=cf e.2.1;have e4:x3=y3:=mN e.2.2;subst f;subst X;subst e4;exact⟨rfl,rfl⟩))))))⟩
 have a:∀n,WK env (fa (l,t)) wf sb fc (af Z C n):=λn=>⟨λm u hu=>Wo.ev (T:=Z) n (x:=u) hu m,λm u v zs hv hz=>asv A n hv hz m,λm N k p zs hz hN=>asw A n (fb zs) (RA zs) hz hN,λm B l bd x0 hp hB h0 j=>abA env F n (vs:=[x0]) hp hB h0 j,λm x h1 h2 hg=>L.ev (T:=Z) n (x:=x) ⟨h1,h2⟩ hg,λm x h1 hg=>P.ev (T:=Z) n (x:=x) h1 hg,λm x h1 hg=>Q.ev (T:=Z) n (x:=x) h1 hg,hw.ok,Gk⟩
 have run:∃r:Option zA×Int,nc (l,t) r/\gJ 320 G (mc env r.2) (cB Z (af Z C (2000000+1)) 220 (nI 0 (l,t)) (H.e.w (ad (mc env l) 320)) U (Z.f 220)) (mJ r.1):=by
  refine aaj (Pr:=λr=>nc (l,t) r) (mo:=λr=>mJ r.1) (c2:=λr=>mc env r.2) (n:=2000000) F220 aiX rfl ?_;show ay (λs=>∃r:Option zA×Int,nc (l,t) r/\E4 env r s) (λs=>∃r:Option zA×Int,nc (l,t) r/\E4 env r s) _ (λc s=>∃r:Option zA×Int,nc (l,t) r/\dD 320 G (mJ r.1) (mc env r.2) c s) _;refine ax (Q0:=Wp env l t) ?_ λtm h st=>?_
  .simp[z,ak,sub,f220];exact .mk ⟨by simp,by simp,by simp,by simp,by simp,by simp,by simp,by simp⟩
  have hl:iN l:=hx.IQ;have ph:=hl.1;have IF:=hl.2;have eU:(zD t:Int)+(6000:Nat)*l<=400000000:=hx.sz;have oI:aI cC t:=hx.cl;refine(pE (N:=λ_=>False) 50 (λk s'=>∃d g,k=d.toNat/\0<=d/\d<=l/\aI cC g/\(zD g:Int)<=zD t+(6000:Nat)*(l-d)/\fa (d,g)<=fa (l,t)/\bB (Wp env d g) s') l.toNat ⟨l,t,rfl,ph,xW _,oI,by omega,zR _,.mk st⟩ (by omega) ?_).Mo dN fP bT bT;rintro k s' m ⟨d,g,rfl,q1,q2,q3,q4,q5,hs⟩ hm;obtain⟨jH,h2,rfl,qh⟩:=hs.elim;have hl':iN d:=⟨q1,by omega⟩;refine(ak6 env i (a m) (l:=d) (t:=g) ⟨hl',q3,by show(zD g:Int)+(6000:Nat)*d<=400000000;omega⟩ q5 qh).Mo (λs q=>?_) (λs q=>?_) aP (λc s q=>?_)
  .obtain⟨ru,h3,rfl,l2,t2,w,DF⟩:=q.elim;obtain⟨w1,w2,w3,w4⟩:=w;have w4:(zD t2:Int)<=zD g+(6000:Nat)*(d-l2):=w4;have qj:=acu (b:=g) (M:=fa (d,g)+1) w2 w1 (show zD t2<=1000000000 by omega) (yL _);exact⟨l2.toNat,by omega,l2,t2,rfl,w1,by omega,w3,by omega,by omega,.mk DF⟩
  .obtain⟨r,j,hs⟩:=q;refine⟨r,?_,hs⟩;unfold nc at j⊢;cases WL:r.1 with
   |none=>trivial
   |some u=>
    rw[WL]at j;obtain⟨a1,a2,a3,a4⟩:=j;have a2:r.2<=d:=a2;have a4:(zD u:Int)<=zD g+(6000:Nat)*(d-r.2):=a4;exact⟨a1,by show r.2<=l;omega,a3,by show(zD u:Int)<=zD t+(6000:Nat)*(l-r.2);omega⟩
  .obtain⟨l2,q⟩:=q;exact⟨(U,l2),trivial,q⟩
 obtain⟨r,j,o⟩:=run;exact⟨r,j,λh b hb=>o.toM (a0:=nI 0 (l,t)) tok hC (.Cs (.ptr 0) (.Cs (.pure (bg t)) .nil)) (λm a' q=>nV m a' q) (iI env l) (iI env r.2) hb⟩
def aqd(l:pX env)(f:Dh lf)(g:BR sb):∃wf,∀M,Gj env M wf:=by
 classical
 let P:Int×zA->Option zA×Int->Prop:=λx r=>nc x r/\∀h b,ae h b (ad (mc env x.1) 320)->bP Z prog (zU (za 220) #[] #[]) (nI b x) h U ((mJ r.1).bi (h.p b (ad (mc env r.2) 320)));let wf:Int×zA->Option zA×Int:=λx=>if d:∃r,P x r then yE d else default
 have a:∀x,(∃r,P x r)->P x (wf x):=λx d=>by
  show P x (if d:∃r,P x r then yE d else default)
  rw[dif_pos d];exact Classical.choose_spec d
 have e:∀(M:Nat)(x:Int×zA),fa x<M->ni x->∃r,P x r:=by
  intro M;induction M with
  |zero=>intro x h;omega
  |succ M j=>
   intro x m d;refine ak7 env l f g x d (wf:=wf) ⟨λy c h b i=>?_,λy c k=>?_⟩
   .exact(a y (j y (by have:=c.2;omega) c.1)).2 h b i
   .exact(a y (j y (by omega) c)).1
 refine⟨wf,λM=>⟨λy c h b i=>?_,λy c k=>?_⟩⟩
 .exact(a y (e M y c.2 c.1)).2 h b i
 .exact(a y (e M y k c)).1
end
end Go.Proofs.YtpeialehpoilbaaGreat
namespace Go.Am
section
variable{T:au}{P:Program}
def ad3(T:au)(d:zC->ag)(e:List yR)(g:zZ)(a:List E)(Q:E->H->Prop)(s:S):Prop:=
 s.df=lK g a/\s.ab=U/\∃u b v c,d (.call (zU (za g) ⟨[]⟩ ⟨a⟩) [] s.h U)=.r u b U/\fw U (zJ T s.tm e b)=.r v c U/\Q v c
def aum(T:au)(e:zC->ag)(f:List yR)(g:zZ)(a:List E)(Q:E->H->Prop)(c:List zO)(s:S):Prop:=
 s.df=lK g a/\s.ab=U/\∃u b v d m,e (.call (zU (za g) ⟨[]⟩ ⟨a⟩) [] s.h (O c))=.r u b m/\settled m=U/\fw U (zJ T s.tm f b)=.r v d U/\Q v d
def ak8{gd:zZ}{A:Func}{args cap:List E}{Q:E->H->Prop}(F:C f args h=U)(L:T.f f=O A)(M:A.body=O x){p:List yR}(N:A.results.toList=p)
 (l:ay (ad3 T (af T C (n+1)) p gd cap Q) (ad3 T (af T C (n+1)) p gd cap Q) (λ_ _=>False) (aum T (af T C (n+1)) p gd cap Q) (aw T (af T C (n+2)) ⟨f,U⟩ x ⟨bF args 0 .Nl,[],h,U⟩)):
 ∃v a,af T C (n+3) (aj f args h)=.r v a U/\Q v a:=by
 have o:∀(k:Tr E)(a j:H)(v:E),fw U (zJ T k p a)=.r v j U->Q v j->∃v B,af T C (n+1) (.unwind A ⟨k,[],a,U⟩ U)=.r v B U/\Q v B:=λk a j v b d=>by rw[oi,N,b];exact⟨v,j,rfl,d⟩
 rw[ll _ F,L,Sym.rC,M,Sym.rB];rcases l.cases with⟨⟨k,r,s,t⟩,e,b,d,u,a,v,j,i,w,y⟩|⟨⟨k,r,s,t⟩,e,b,d,u,a,v,j,i,w,y⟩|⟨_,_,_,q⟩|⟨P,⟨k,r,s,t⟩,e,b,d,u,a,v,j,m,i,R,w,y⟩
 .rw[e,Sym.xv];have b:r=lK gd cap:=b;have d:t=U:=d;subst b;subst d;have i:af T C (n+1) (.call (zU (za gd) ⟨[]⟩ ⟨cap⟩) [] s U)=.r u a U:=i;rw[GF,i,Gv];exact o k a j v w y
 .rw[e,Sym.zg];have b:r=lK gd cap:=b;have d:t=U:=d;subst b;subst d;have i:af T C (n+1) (.call (zU (za gd) ⟨[]⟩ ⟨cap⟩) [] s U)=.r u a U:=i;rw[GF,i,Gv];exact o k a j v w y
 .cases q
 .rw[e,Sym.DW];have b:r=lK gd cap:=b;have d:t=U:=d;subst b;subst d;have i:af T C (n+1) (.call (zU (za gd) ⟨[]⟩ ⟨cap⟩) [] s (O P))=.r u a m:=i;rw[GF,i,Gv,R];exact o k a j v w y
def ZP{b:Func}{args:List E}{d:H}{e:List zO}(i:T.f f=O b)(j:b.body=O x)
 (a:aw T (af T C (n+1)) ⟨f,U⟩ x ⟨bF args 0 .Nl,[],h,U⟩=.c (.panic e) ⟨r,[],d,U⟩):cB T (af T C (n+1)) f args h U (T.f f)=.p e d U:=by
 rw[i,Sym.rC,j,Sym.rB,a,Sym.DW];rfl
end
end Go.Am
namespace Go.Proofs.YtpeialehpoilbaaGreat
def F185:Z.f 185=O f185:=by kernel_rfl
def F218:Z.f 218=O f218:=by kernel_rfl
def F219:Z.f 219=O f219:=by kernel_rfl
def F255:Z.f 255=O f255:=by kernel_rfl
def asy{x y:Operand}:fu Z h .neq 20 x y (O eF) (O .nilIface)=.v (zP Y) h:=by kernel_rfl
def aqe:rJ Z h 317 Y (Z.u 317) (O eF)=.v (aTu [aAg [],zP Y]) h:=by kernel_rfl
def aun:Am.zI Z 317=O 0:=by kernel_rfl
@[simp] theorem aJd:zero Z 320=O (aAg [zL U 0 0,J 0]):=by kernel_rfl
def asz(h:H)(env:List zB)(n:Int):eK Z h 320 (O (aAg [zL U 0 0,J 0])) (O [(0,bw env),(1,J n)])=.v (aAg [bw env,J n]) h:=by kernel_rfl
def auo{g:Bool}(a:ae h k (K [] t g)):zG Z h 317 (aAg []) (pB k)=O (h.p k (K [] t g)):=by rw[dY (v:=aAg []) (n:=0) (off:=0) aun rfl rfl a (by show 0<=0;omega)];rfl
section
variable(env:List zB){wf:Int×zA->Option zA×Int}
def asA{t:zA}{Kk:Nat}(b:C 219=λ_ _=>U)(eO:∀n(m:H),ae m Kk (ad (mc env 20000) 320)->af Z C n (aj 220 [pB Kk,D t] m)=(mJ (wf (20000,t)).1).bi (m.p Kk (ad (mc env (wf (20000,t)).2) 320)))
 (d:h.b=0)(e:ae h 0 (ad (ah (D t)) 31))(g:ae h 2 (ad z5 31))(f:ae h Kk (ad (mc env 20000) 320))(l:3<=Kk):
 ((wf (20000,t)).1=U/\af Z C (n+2) (.call (bK 219 [pB 0,pB 2]) [pB Kk] h U)=.p [⟨eF,G,G⟩] (h.p Kk (ad (mc env (wf (20000,t)).2) 320)) U)\/
 ∃u,(wf (20000,t)).1=O u/\af Z C (n+2) (.call (bK 219 [pB 0,pB 2]) [pB Kk] h U)=.r (aTu []) ((h.p Kk (ad (mc env (wf (20000,t)).2) 320)).p 2 (ad (ah (D u)) 31)) U:=by
 generalize wf (20000,t)=r at eO;let⟨i,c⟩:=r;have j:¬2=Kk:=by omega
 have k:¬0=Kk:=by omega
 rw[oy _ (by rw[b])];cases i with
 |none=>
  have eO:∀n(m:H),ae m Kk (ad (mc env 20000) 320)->af Z C n (aj 220 [pB Kk,D t] m)=.p [⟨eF,G,G⟩] (m.p Kk (ad (mc env c) 320)) U:=eO
  have a:∃tm,aF Z (af Z C (n+1)) 219 (f219.body.getD we) (bF [pB Kk,pB 0,pB 2] 0 .Nl) h=.c (.panic [⟨eF,G,G⟩]) ⟨tm,[],h.p Kk (ad (mc env c) 320),U⟩:=by simp[f219,d,e,f,eO]
  let⟨tm,a⟩:=a;exact zq ⟨rfl,ZP F219 rfl a⟩
 |some u=>
  have eO:∀n(m:H),ae m Kk (ad (mc env 20000) 320)->af Z C n (aj 220 [pB Kk,D t] m)=.r (D u) (m.p Kk (ad (mc env c) 320)) U:=eO;refine zt ⟨u,rfl,?_⟩;show cB Z (af Z C (n+1)) 219 [pB Kk,pB 0,pB 2] h U (Z.f 219)=_;rw[dx (vs:=[]) (h2:=(h.p Kk (ad (mc env c) 320)).p 2 (ad (ah (D u)) 31)) (ab:=U) F219 rfl rfl (by simp[f219,d,e,f,g,j,eO])];rfl
def aqf(a:C 255=λ_ _=>U):af Z C (n+2) (.call (bK 255 [pB k]) [] h U)=.r (aTu []) h U:=by rw[oy _ (by rw[a]),dx (vs:=[]) (h2:=h) (ab:=U) F255 rfl rfl (by simp[f255,HA,an])];rfl
def aqg{B:Nat}(f:h.b=0)(g:ae h B (ad [J 0] 52))(i:B<h.n):
 ∃b,af Z C (n+2) (.call (bK 255 [pB B]) [] h (O [⟨eF,G,G⟩]))=.r (aTu []) b (O [⟨eF,Y,G⟩])/\b.b=0/\ae b B (ad [J 11] 52)/\∀j,j<h.n->¬j=B->b.g j=h.g j:=by
 have k:=λ(c:H)(q:ae c B (ad [J 0] 52))=>qF (n:=11) q;have l:=λ(c:H)(q:ae c h.n (ad [] 317))=>auo q
 have a:∃tm,aw Z (af Z C (n+1)) ⟨255,U⟩ (f255.body.getD we) ⟨bF [pB B] 0 .Nl,[],h,O [⟨eF,G,G⟩]⟩=.c .Nr ⟨tm,[],((h.p B (ad [J 11] 52)).w (ad [] 317)).p h.n (ad [] 317),O [⟨eF,Y,G⟩]⟩:=by simp[f255,asy,aqe,Jb,an,g,k,l]
 let⟨tm,a⟩:=a;rw[G2]
 have d:cB Z (af Z C (n+1)) 255 [pB B] h (O [⟨eF,G,G⟩]) (Z.f 255)=.r (aTu []) (((h.p B (ad [J 11] 52)).w (ad [] 317)).p h.n (ad [] 317)) (O [⟨eF,Y,G⟩]):=by rw[Hb (vs:=[]) F255 rfl rfl (zq rfl) a (by simp[f255])];rfl
 refine⟨((h.p B (ad [J 11] 52)).w (ad [] 317)).p h.n (ad [] 317),d,by simp[f],?_,λj m e=>?_⟩
 .have:¬B=h.n:=by omega
  simp[this]
 .have:¬j=h.n:=by omega
  simp[this,e]
def og(wf:Int×zA->Option zA×Int)(t:zA):zA×Int:=match(wf (20000,t)).1 with
 |some u=>(u,0)
 |none=>(zT,11)
def AT(t:zA):Prop:=aI cC t/\zD t<=280000000
def AT.nj(h:AT a):ni (20000,a):=⟨⟨by show(0:Int)<=20000;decide,by show(20000:Int)<=1000000;decide⟩,h.1,by have:=h.2;show(zD a:Int)+(6000:Nat)*20000<=400000000;omega⟩
def aqh(hw:∀M,Gj env M wf):aJ Z prog 185 AT (λt=>[bw env,D t]) (λt=>cj (og wf t)):=by
 intro t ht N
 obtain⟨C,hC,P,Q,R,S⟩:∃C,aR Z prog C/\bQ C 220 320 G (λx:Int×zA=>ni x/\fa x<fa (20000,t)+1) nI (λx=>mc env x.1) (λx=>mc env (wf x).2) (λx=>mJ (wf x).1)/\C 219=(λ_ _=>U)/\C 218=(λ_ _=>U)/\C 255=(λ_ _=>U):=
  ⟨_,iv aW (hw _).fn,bQ.add λb b' x y e=>(by
     let⟨x1,x2⟩:=x;let⟨y1,y2⟩:=y;simp at e;refine⟨e.1,λe2=>?_⟩;have e2:x1=y1:=by simpa using e2
     have e3:x2=y2:=cf e.2;subst e2;subst e3;exact⟨rfl,rfl⟩),rfl,rfl,rfl⟩
 have eO:∀Kk n(m:H),ae m Kk (ad (mc env 20000) 320)->af Z C n (aj 220 [pB Kk,D t] m)=(mJ (wf (20000,t)).1).bi (m.p Kk (ad (mc env (wf (20000,t)).2) 320)):=λKk n m hg=>P.ev (T:=Z) n (x:=(20000,t)) ⟨ht.nj,yL _⟩ hg;refine jf tok C hC (.Cs (me env) (.Cs (bg t) .Nl)) 20 F185 rfl rfl ?_ N;show ay (bG Z [yB 4 31,yx 5] _ (.ret (cj (og wf t)))) (bG Z [yB 4 31,yx 5] _ (.ret (cj (og wf t)))) _ _ _;refine ax (Q0:=λf h=>h.b=0/\h.n=2/\ae h 0 (ad (ah (D t)) 31)/\ae h 1 (ad z5 31)/\aa f 0 (bw env)/\aa f 3 (pB 0)/\aa f 4 (pB 1)) ?_ λf h⟨j,d,o,A,F,t3,k⟩=>?_
 .simp;exact .mk ⟨by simp,by simp,by simp,by simp,by simp,by simp,by simp⟩
 refine ax (Q0:=λf h=>h.b=0/\h.n=3/\ae h 0 (ad (ah (D t)) 31)/\ae h 1 (ad z5 31)/\ae h 2 (ad z5 31)/\aa f 0 (bw env)/\aa f 3 (pB 0)/\aa f 4 (pB 1)/\aa f 6 (pB 2)) ?_ λf h⟨j,d,o,A,V,F,t3,k,t6⟩=>?_
 .simp[d];exact .mk ⟨by simp[j],by simp[d],by simp[d,o],by simp[d,A],by simp[d],by simp[F],by simp[t3],by simp[k],by simp⟩
 have i:∃v g,af Z C (18+3) (aj 218 [bw env,bK 219 [pB 0,pB 2]] h)=.r v g U/\(v=J (og wf t).2/\g.b=0/\ae g 1 (ad z5 31)/\((og wf t).2=0->ae g 2 (ad (ah (D (og wf t).1)) 31))/\((og wf t).2=0\/og wf t=(zT,11))):=by
  refine ak8 (gd:=255) (cap:=[pB 3]) (by rw[R]) F218 rfl rfl ?_;refine ax (Q0:=λf h=>h.b=0/\h.n=4/\ae h 0 (ad (ah (D t)) 31)/\ae h 1 (ad z5 31)/\ae h 2 (ad z5 31)/\ae h 3 (ad [J 0] 52)/\aa f 0 (bw env)/\aa f 1 (bK 219 [pB 0,pB 2])/\aa f 4 (pB 3)) ?_ λf h⟨j,d,o,A,V,g3,F,t1,k⟩=>?_
  .simp[f218,d];exact .mk ⟨by simp[j],by simp[d],by simp[d,o],by simp[d,A],by simp[d,V],by simp[d],by simp,by simp,by simp⟩
  refine qq (df:=lK 255 [pB 3]) (Q0:=λr h'=>h'=h/\r.g 0=f.g 0/\r.g 1=f.g 1/\r.g 4=f.g 4) ?_ λfQ g⟨e1,j0,j1,j4⟩=>?_
  .simp[f218,k];exact .mk ⟨rfl,by simp,by simp,by simp[k]⟩
  subst e1;rw[F]at j0;rw[t1]at j1;rw[k]at j4;have X:=λ(h:H) n j o V gK=>asA (C:=C) (n:=n) (h:=h) (t:=t) (Kk:=4) env Q (eO 4) j o V gK (by omega);have hm:(g.w (ad (mc env 20000) 320)).b=0:=by simp[j]
  have r2:=λn=>X (g.w (ad (mc env 20000) 320)) n hm (by simp[d,o]) (by simp[d,V]) (by simp[d]);have dS:=λ(h:H)=>asz h env 20000
  have w:(∃l,og wf t=(zT,11)/\∀n,af Z C (n+2) (.call (bK 219 [pB 0,pB 2]) [pB 4] (g.w (ad (mc env 20000) 320)) U)=.p [⟨eF,G,G⟩] ((g.w (ad (mc env 20000) 320)).p 4 (ad (mc env l) 320)) U)\/
   ∃u l,og wf t=(u,0)/\∀n,af Z C (n+2) (.call (bK 219 [pB 0,pB 2]) [pB 4] (g.w (ad (mc env 20000) 320)) U)=.r (aTu []) (((g.w (ad (mc env 20000) 320)).p 4 (ad (mc env l) 320)).p 2 (ad (ah (D u)) 31)) U:=by
   unfold og;cases hu:(wf (20000,t)).1 with
   |none=>
    refine zq ⟨(wf (20000,t)).2,rfl,λn=>?_⟩;rcases r2 n with⟨_,q⟩|⟨u,q,_⟩
    .exact q
    .rw[hu]at q;cases q
   |some u=>
    refine zt ⟨u,(wf (20000,t)).2,rfl,λn=>?_⟩;rcases r2 n with⟨q,_⟩|⟨u',q,q2⟩
    .rw[hu]at q;cases q
    .rw[hu]at q;cases q;exact q2
  rcases w with⟨l,hW,a⟩|⟨u,l,hW,a⟩
  .have a:∀n,af Z C (n+2) (.call (zU (za 219) ⟨[]⟩ ⟨[pB 0,pB 2]⟩) [pB 4] (g.w (ad [bw env,J 20000] 320)) U)=.p [⟨eF,G,G⟩] ((g.w (ad [bw env,J 20000] 320)).p 4 (ad (mc env l) 320)) U:=a;have a:=a 18;let⟨h2,q1,q2,q3,q4⟩:=aqg (C:=C) (n:=17) (B:=3) (h:=(g.w (ad [bw env,J 20000] 320)).p 4 (ad (mc env l) 320)) (by simp[j]) (by simp[d,g3]) (by simp[d]);simp[f218,j0,j1,d,dS,a];refine⟨rfl,rfl,_,_,J 11,h2,_,q1,rfl,by simp[j4,q2,q3];rfl,?_⟩;rw[hW];exact⟨rfl,q2,by rw[q4 1 (by simp[d]) (by decide)];simp[d,A],(λq=>absurd (show(11:Int)=0 from q) (by decide)),zt rfl⟩
  .have a:∀n,af Z C (n+2) (.call (zU (za 219) ⟨[]⟩ ⟨[pB 0,pB 2]⟩) [pB 4] (g.w (ad [bw env,J 20000] 320)) U)=.r (aTu []) (((g.w (ad [bw env,J 20000] 320)).p 4 (ad (mc env l) 320)).p 2 (ad (ah (D u)) 31)) U:=a;have a:=a 18;have s1:=λ(N:H)(q:ae N 3 (ad [J 0] 52))=>qF (n:=0) q;simp[f218,j0,j1,j4,d,dS,a,g3,s1];refine⟨rfl,rfl,_,_,J 0,_,aqf S,by simp[j4,j];rfl,?_⟩;rw[hW];exact⟨rfl,by simp[j],by simp[d,A],λ_=>by simp,zq rfl⟩
 obtain⟨v,g,i,rfl,b1,k1,k2,L⟩:=i;have i:af Z C 21 (zC.call (zU (za 218) #[] #[]) [bw env,zU (za 219) ⟨[]⟩ ⟨[pB 0,pB 2]⟩] h U)=.r (J (og wf t).2) g U:=i;generalize hW:og wf t=W at i k2 L;let⟨u,er⟩:=W;by_cases he:er=0
 .subst he;have k2:=k2 rfl;simp[F,t3,k,t6,i,an,b1,k1,k2];exact bG.Pu (JN _) (by simp[k,b1])
 .rcases L with L|L
  .exact absurd L he
  .cases L;have s:=λ(N:H)(q:ae N 1 (ad z5 31))=>fp (c:=z5) rfl rfl q rfl;have p:=fh (c:=z5) rfl;simp[F,t3,k,t6,i,an,k1,jn,s];exact⟨rfl,rfl,aTu [aAg z5,J 11],_,_,rfl,by simp[k,b1,p];rfl,.Tt (.Cs (rS _) ka)⟩
end
end Go.Proofs.YtpeialehpoilbaaGreat
namespace Go.Am.Eu
abbrev gU(e:Int):E:=.iface 52 (J e)
def Nn(e:Int):bH (gU e):=.iface 52 bJ
def Cj(a:zA->Int)(t:zA):Bool:=yF ((4096:Int)<(zD t:Nat))||decide (200<a t)
def qS(a:zA->Int)(x:zA×Int):MO:=if x.2=0/\Cj a x.1=G then .ret (D x.1)else .aU (gU 11)
end Go.Am.Eu
namespace Go.Proofs.YtpeialehpoilbaaGreat
def F103:Z.f 103=O f103:=by kernel_rfl
def F77:Z.f 77=O f77:=by kernel_rfl
def F74:Z.f 74=O f74:=by kernel_rfl
def awI:Bi h 52 (Z.u 52) (O (J e))=.v (gU e) h:=by kernel_rfl
def acv:kg Z prog 74 (λ_:Int=>True) (λe=>[J e]) (λe=>.aU (gU e)):=by intro e _ a;refine mi tok cg aW dF 1 F74 rfl rfl ?_ a;simp[f74,awI];exact iX.pure (Nn e)
def KC(t:zA):Prop:=aI lP t/\zD t<ao
def anU{c:zA->Int}(g:aJ Z prog 120 (aI lP) (λt=>[D t]) (λt=>J (c t))):aJ Z prog 103 KC (λt=>[D t]) (λt=>zP (Cj c t)):=by
 intro t h j
 obtain⟨C,k,d,f⟩:∃C,aR Z prog C/\Has C 119 (λt=>aI lP t/\zD t<ao) (λt=>[D t]) (λt=>J (zD t:Nat))/\Has C 120 (aI lP) (λt=>[D t]) (λt=>J (c t)):=
  ⟨_,aZ (aZ aW abv) g,Has.Sk (by decide) (Has.Ad λx y e=>(by simp at e;rw[cf e])),Has.Ad λx y e=>(by simp at e;rw[cf e])⟩
 have a:∀n m,af Z C n (aj 119 [D t] m)=.r (J (zD t:Nat)) m U:=λn m=>d.ev (T:=Z) n (x:=t) h m;have b:∀n m,af Z C n (aj 120 [D t] m)=.r (J (c t)) m U:=λn m=>f.ev (T:=Z) n (x:=t) h.1 m;refine jf tok C k (.Cs (bg t) .Nl) 1 F103 rfl rfl ?_ j;show ay (bG Z [yx 2] _ (.ret (zP (Cj c t)))) (bG Z [yx 2] _ (.ret (zP (Cj c t)))) _ _ _;unfold Cj;by_cases h1:(4096:Int)<(zD t:Nat)
 .simp[a,h1];exact bG.Pu bJ (by simp)
 .by_cases i:200<c t
  .simp[a,b,h1,i];exact bG.Pu bJ (by simp)
  .simp[a,b,h1,i];exact bG.Pu bJ (by simp)
def ak9{b:zA->Int}(g:aJ Z prog 120 (aI lP) (λt=>[D t]) (λt=>J (b t))):kg Z prog 77 (λx:zA×Int=>KC x.1) (λx=>[D x.1,J x.2]) (qS b):=by
 rintro⟨t,e⟩ h j;have h:KC t:=h
 obtain⟨C,k,c,i⟩:∃C,aR Z prog C/\Has C 103 KC (λt=>[D t]) (λt=>zP (Cj b t))/\bS C 74 (λ_:Int=>True) (λe=>[J e]) (λe=>.aU (gU e)):=
  ⟨_,jL (aZ aW (anU g)) acv,Has.Sk (by decide) (Has.Ad λx y e=>(by simp at e;rw[cf e])),bS.add λx y _ _ e=>(by simp at e;rw[e])⟩
 have a:∀n m,af Z C n (aj 103 [D t] m)=.r (zP (Cj b t)) m U:=λn m=>c.ev (T:=Z) n (x:=t) h m;have d:∀n m,af Z C n (aj 74 [J 11] m)=.p [⟨gU 11,G,G⟩] m U:=λn m=>i.ev (T:=Z) n (x:=11) trivial m;refine mi tok C k (.Cs (bg t) dF) 1 F77 rfl rfl ?_ j;show ay (bG Z [yB 4 31] _ (qS b (t,e))) (bG Z [yB 4 31] _ (qS b (t,e))) _ (iX _ (qS b (t,e))) _;unfold qS;by_cases f:e=0
 .cases hl:Cj b t with
  |false=>
   rw[hl]at a;rw[if_pos ⟨f,rfl⟩];simp[f,a,an];exact bG.Pu (bg t) (by simp)
  |true=>
   rw[hl]at a;rw[if_neg (λq=>by cases q.2)];simp[f,a,d,an];exact iX.pure (Nn 11)
 .rw[if_neg (λq=>f q.1)];simp[f,d,an];exact iX.pure (Nn 11)
abbrev O8(t:zA)(N:Nat):E:=aAg [J t.w,J t.Q,zN t.F,aO t.H,zL (pO N) (I t.M) (I t.M)]
inductive sx:(zA×List zA)×Option Nat×Nat->List E->H->Prop
 |data {u:zA} {l:List zA} {M:Nat} {gr:Bool} {h:H} (hl:I l<ao) (hM:ae h M (K (zF D l) 31 gr)):sx ((u,l),U,M) [D u,zL (pO M) (I l) (I l)] h
 |node {u:zA} {l:List zA} {N M:Nat} {gr gr':Bool} {h:H} (hl:I l<ao) (hNM:N≠M) (hN:ae h N (K (zF D u.M) 31 gr')) (hM:ae h M (K (zF D l) 31 gr)):sx ((u,l),O N,M) [O8 u N,zL (pO M) (I l) (I l)] h
def BD(x:(zA×List zA)×Option Nat×Nat)(_:List E)(h:H):ag:=.r (D (cF x.1.1 x.1.2)) (match x.2.1 with|none=>h.bx [x.2.2]|some N=>h.bx [N,x.2.2]) U
def asB:P6 Z prog 79 sx BD:=by
 intro x args h e;cases e with
 |data b a=>
  rename_i u l M f;exact GS (args:=[D u,al l]) (bs:=[M]) (J4 (u,l) b _) ⟨by rw[a];simp,by simp,trivial⟩ (.Cs (.Pu (bg u)) (.Cs (Hg rfl (ny (by simp) a)) .Nl))
 |node b c d a=>
  rename_i u l N M f g;refine GS (args:=[D u,al l]) (bs:=[N,M]) (J4 (u,l) b _) ⟨by rw[d];simp,by simpa using c,by rw[a];simp,by simp,trivial⟩ (.Cs ?_ (.Cs (Hg rfl (ny (by simp) a)) .Nl));rw[eD];exact .agg (.Cs eI (.Cs eI (.Cs eI (.Cs (.Pu (jM _)) (.Cs (Hg (ts:=u.M) rfl (ny (by simp) d)) .Nl)))))
def aaL(x y:(zA×List zA)×Option Nat×Nat)(args:List E)(h:H)(S:sx x args h)(q:sx y args h):BD x args h=BD y args h:=by
 have F:∀(u:zA)(w:zA)(N:Nat),D u≠O8 w N:=λu w N e=>by rw[eD]at e;injection e with e;injection e with e;injection e with _ e;injection e with _ e;injection e with _ e;injection e with _ e;injection e with e _;cases e
 have i:∀{l v:List zA}{g T:Bool}{o:Option ai},o=O (K (zF D l) 31 g)->o=O (K (zF D v) 31 T)->l=v:=λV m=>by rw[V]at m;injection m with m;injection m with m;exact mH.G1 (λa b h=>by rw[dP,dP]at h;exact CL h) m
 cases S with
 |data W A=>
  generalize hE:[D _,zL _ _ _]=j at q;cases q with
  |data k f=>
   injection hE with c d;injection d with d _;injection d with d;injection d with d;injection d with d;have:=cf c;subst this;subst d;have:=i A f;subst this;rfl
  |node k B L f=>
   injection hE with c d;exact absurd c (F _ _ _)
 |node W B L A=>
  generalize hE:[O8 _ _,zL _ _ _]=j at q;cases q with
  |data k f=>
   injection hE with c d;exact absurd c.symm (F _ _ _)
  |node k P C f=>
   rename_i u l N M gr X u2 v N2 M2 gr2 Q;injection hE with c d;injection d with d _;injection d with d;injection d with d;cases d;have:=i A f;subst this;injection c with c;injection c with c;injection c with n c;injection n with _ n;injection c with r c;injection r with _ r;injection c with s c;injection s with s;injection c with t c;injection c with p _;injection p with p;injection p with p;cases p;have R:=i L C;replace t:=qy t;cases u;cases u2;have n:_=_:=n;simp only[zA.w,zA.Q,zA.F,zA.H,zA.M]at n r s t R;subst n;subst r;subst s;subst t;subst R;rfl
def aqi(a:C 79=nP sx BD)(n:Nat){u:zA}{l:List zA}{M:Nat}(c:I l<ao){m:H}(d:ae m M (K (zF D l) 31 b)):af Z C n (aj 79 [D u,zL (pO M) (I l) (I l)] m)=.r (D (cF u l)) (m.bx [M]) U:=
 J3 (x:=((u,l),U,M)) a aaL n (.data c d)
def aqj(d:C 79=nP sx BD)(n:Nat){u:zA}{l:List zA}{N M:Nat}{a:Bool}(e:I l<ao)(c:N≠M){m:H}(f:ae m N (K (zF D u.M) 31 a))(g:ae m M (K (zF D l) 31 b)):af Z C n (aj 79 [O8 u N,zL (pO M) (I l) (I l)] m)=.r (D (cF u l)) (m.bx [N,M]) U:=
 J3 (x:=((u,l),O N,M)) d aaL n (.node e c f g)
end Go.Proofs.YtpeialehpoilbaaGreat
namespace Go.Am.Eu
structure dE(W:Nat)(h h':H):Prop where
 le:h.n<=h'.n
 get:∀j,j<h.n->j≠W->h'.g j=h.g j
def dE.refl{W:Nat}(h:H):dE W h h:=⟨zR _,λ_ _ _=>rfl⟩
def dE.trans{W:Nat}{h c h2:H}(a:dE W h c)(b:dE W c h2):dE W h h2:=
 ⟨yd a.le b.le,λj d e=>(b.get j (Nat.lt_of_lt_of_le d a.le) e).trans (a.get j d e)⟩
def dE.new{W:Nat}{h1:H}(a:dE W h h1)(o:ai):dE W h (h1.w o):=
 a.trans ⟨by rw[Sym.Rt];omega,λj b _=>by rw[Sym.kP,if_neg (by omega)]⟩
def dE.az{W:Nat}(a:dE W h g)(b:Nat):dE W h (g.az b):=
 a.trans ⟨by rw[Sym.XN];omega,λj c _=>by rw[Sym.agX]⟩
def dE.Ve{W:Nat}(a:dE W h g)(o:ai):dE W h (g.p W o):=
 a.trans ⟨by rw[Sym.Yw];omega,λj c b=>by rw[Sym.jd,if_neg b]⟩
def dE.put{W:Nat}{h1:H}(a:dE W h h1){b:Nat}(hb:h.n<=b)(o:ai):dE W h (h1.p b o):=
 ⟨by rw[Sym.Yw];exact a.le,λj c d=>by rw[Sym.jd,if_neg (by omega)];exact a.get j c d⟩
def Yc:∀(l:List Nat)(m:H),(m.bx l).n=m.n
 |[],_=>rfl
 |b::l,m=>by show((m.mark b).f|>λ_=>(m.bx (b::l)).n)=m.n;exact Go.Proofs.YtpeialehpoilbaaGreat.MN (b::l) m
def dE.bx{W:Nat}(a:dE W h g){l:List Nat}(c:∀b∈l,h.n<=b):dE W h (g.bx l):=
 ⟨by rw[Yc];exact a.le,λj d e=>by rw[kQ (λq=>by have:=c j q;omega)];exact a.get j d e⟩
def oM(t:zA):Prop:=t.w≠12/\I t.M<=65536/\(t.w=4/\I t.M=2->t.Q=0/\t.F=⟨#[]⟩/\t.H=[])
def oM.ng{t:zA}(h:aI oM t):aI Go.Proofs.YtpeialehpoilbaaGreat.lP t:=h.mono λt h=>by have:=h.2.1;unfold Go.Proofs.YtpeialehpoilbaaGreat.lP;omega
def ahy(f:zA):∀(l:List zA)(b:zA),cF f (l++[b])=.mk 4 0 ⟨#[]⟩ [] [cF f l,b]:=by
 intro l;induction l generalizing f with
 |nil=>intro b;rfl
 |cons a l c=>intro b;exact c _ b
def ala:∀(N:Nat)(t:zA),zD t<N->aI oM t->cF (aM t) (bt t)=t:=by
 intro N;induction N with
 |zero=>intro t h;omega
 |succ N k=>
  intro t m g;by_cases h:t.w=4/\I t.M=2
  .let⟨f,d⟩:=h;cases c:t.M with
   |nil=>rw[c]at d;cases d
   |cons a r=>cases r with
    |nil=>rw[c]at d;cases d
    |cons b r=>cases r with
     |cons _ _=>rw[c]at d;simp at d
     |nil=>
      have e:=oQ c;have l:aI oM a:=g.ld (by rw[c];simp);have q:=k a (by omega) l;unfold aM bt at q⊢;rw[Ko f c];show cF _ (List.reverse (b::_))=t;rw[List.reverse_cons,ahy,q];let⟨h1,i,j⟩:=g.here.2.2 ⟨f,d⟩;cases t;simp only[zA.w,zA.Q,zA.F,zA.H,zA.M]at f c h1 i j;subst f;subst c;subst h1;subst i;subst j;rfl
  .unfold aM bt;rw[J5 h];rfl
end Go.Am.Eu
namespace Go.Am
section
variable{T:au}
def NJ{m:Func}{args:List E}{Q:E->H->Prop}{QP:List zO->H->Prop}(y:T.f f=O m)(A:m.body=O x){rs:List yR}(u:m.results.toList=rs)
 (d:ay (nb T rs Q) (nb T rs Q) (λ_ _=>False) (λx s=>s.df=[]/\s.ab=U/\QP x s.h) (aw T (af T C (n+1)) ⟨f,U⟩ x ⟨bF args 0 .Nl,[],h,U⟩)):
 (∃v i,cB T (af T C (n+1)) f args h U (T.f f)=.r v i U/\Q v i)\/∃l i,cB T (af T C (n+1)) f args h U (T.f f)=.p l i U/\QP l i:=by
 rw[y,Sym.rC,A,Sym.rB];rcases d.cases with⟨⟨w,j,o,k⟩,e,a,b,v,p,r,t⟩|⟨⟨w,j,o,k⟩,e,a,b,v,p,r,t⟩|⟨_,_,_,q⟩|⟨l,⟨w,j,o,k⟩,e,a,b,q⟩
 .rw[e,Sym.xv];have a:j=[]:=a;have b:k=U:=b;subst a;subst b;rw[oi,u];exact zq ⟨v,p,r,t⟩
 .rw[e,Sym.zg];have a:j=[]:=a;have b:k=U:=b;subst a;subst b;rw[oi,u];exact zq ⟨v,p,r,t⟩
 .cases q
 .rw[e,Sym.DW];have a:j=[]:=a;have b:k=U:=b;subst a;subst b;rw[Ra];exact zt ⟨l,o,rfl,q⟩
end
end Go.Am
namespace Go.Proofs.YtpeialehpoilbaaGreat
def F75:Z.f 75=O f75:=by kernel_rfl
abbrev DK(b n:Nat):E:=zL (O ⟨b,0,U⟩) n n
abbrev ef(W A V F:Nat):E:=zU (za 75) ⟨[]⟩ ⟨[pB W,pB A,pB V,pB F]⟩
def AE(W A V F:Nat)(ev:zC->ag)(t:zA):Prop:=∀h w,h.g W=O (K [J w] 3 G)->h.g F=O (K [ef W A V F] 78 G)->0<=w->w<=8192000->W<h.n->F<h.n->
 ∃a,dE W h a/\((∃b,0<=b/\b<=8192000/\a.g W=O (K [J b] 3 G)/\ev (.call (ef W A V F) [D t] h U)=.r (D t) a U)\/ev (.call (ef W A V F) [D t] h U)=.p [⟨gU 11,G,G⟩] a U)
def aLn(W:Nat)(a:H)(c:List zO)(s:S):Prop:=s.df=[]/\s.ab=U/\c=[⟨gU 11,G,G⟩]/\dE W a s.h
def lU:yG:=z f75 pF4
def nX:yG:=ak [Y,Y,Y,G] lU
def m8:yG:=ak [Y,G,Y,G,G] nX
def jD:yG:=z f75 pT5
def mA:yG:=ak [Y,G,Y,G,G] jD
def UE:yG:=ak [Y,Y,G,G,G] jD
def alb:f75.body=O (zS (z f75 pF0) (zS (z f75 pF1) (zS (z f75 pF2) (zS (z f75 pF3) (zS lU jD))))):=rfl
def aiZ:lU=zS (ak [G] lU) (tV (vG 49) (ak [Y,G] lU) (zS (ak [Y,Y,G] lU) (tV (vG 57) nX we))):=rfl
def ai0:nX=zS (ak [G] nX) (zS (zS (ak [Y,G,G] nX) (zv 0 (yb m8))) (ak [Y,Y] nX)):=rfl
def ahz:m8=zS (ak [G] m8) (zS (ak [Y,G] m8) (zS (zv 1 (zS (ak [Y,Y,G,G,G] m8) (ak [Y,Y,G,G,Y] m8))) (ak [Y,Y,Y] m8))):=rfl
def ai1:jD=zS (ak [G] jD) (zS (zS (ak [Y,G,G] jD) (zv 2 (yb mA))) (zS (zv 4 (yb UE)) (ak [Y,Y,Y] jD))):=rfl
def ahA:mA=zS (ak [G] mA) (zS (ak [Y,G] mA) (zS (zv 3 (zS (ak [Y,Y,G,G,G] mA) (ak [Y,Y,G,G,Y] mA))) (ak [Y,Y,Y] mA))):=rfl
structure Fl(W F:Nat)(fv:E)(hm:H)(gp:Tr E)(n:Nat)(ts:List zA)(w:Int)(src:List zA)(sD sS sN sK k:Nat)(tm:Tr E)(h:H):Prop where
 kp:dE W hm h
 gW:h.g W=O (K [J w] 3 G)
 gF:h.g F=O (K [fv] 78 G)
 w0:0<=w
 w1:w<=8192000
 lW:W<hm.n
 lF:F<hm.n
 lD:hm.n<h.n
 gD:h.g hm.n=O (K (gw n ts).flatten 31 G)
 t1:tm.g 1=gp.g 1
 t4:tm.g 4=O (pB F)
 t6:tm.g 6=gp.g 6
 t7:tm.g 7=gp.g 7
 t8:tm.g 8=gp.g 8
 t9:tm.g 9=gp.g 9
 tD:tm.g sD=O (DK hm.n n)
 tS:tm.g sS=O (al src)
 tN:tm.g sN=O (J (n:Nat))
 tK:tm.g sK=O (J (k:Nat))
def IT(c:List E)(a:Nat):zE Z 78 c a=c[a]?:=dK (show Am.zK Z 78=O G by kernel_rfl) c a
section
variable{W A V F:Nat}{ev:zC->ag}
def aqk{d:List zA}(p:Fl W F (ef W A V F) g r n y c (y++a::d) 10 63 64 65 (I y) q h)(hn:n=I y+(I d+1))(hb:n<=65536)(DM:W≠F)(hf:AE W A V F ev a):
 ay (bB λi j=>∃M,Fl W F (ef W A V F) g r n (y++[a]) M (y++a::d) 10 63 64 65 (I y+1) i j) (λ_=>False) (λ_ _=>False) (aLn W g) (aw Z ev ⟨75,U⟩ m8 ⟨q,[],h,U⟩):=by
 have hi:I y<n:=by omega
 have WN:I y<I (y++a::d):=by simp
 have hx:(y++a::d)[I y]=a:=by simp
 rw[ahz];refine ax (Q0:=λi j=>Fl W F (ef W A V F) g r n y c (y++a::d) 10 63 64 65 (I y) i j/\i.g 66=O (zP Y)) ?_ λq h⟨p,t66⟩=>?_
 .obtain⟨l,N,o,P,Q,R,S,lD,T,X,s,t6,t7,t8,t9,v,C,L,x⟩:=p;simp[m8,nX,lU,z,ak,sub,f75,L,x,hi];exact .mk ⟨⟨l,N,o,P,Q,R,S,lD,T,by simp[X],by simp[s],by simp[t6],by simp[t7],by simp[t8],by simp[t9],by simp[v],by simp[C],by simp[L],by simp[x]⟩,by simp⟩
 refine ax (Q0:=λi j=>Fl W F (ef W A V F) g r n y c (y++a::d) 10 63 64 65 (I y) i j) ?_ λq h p=>?_
 .simp[m8,nX,lU,z,ak,sub,f75,t66];exact .mk p
 refine ax (Q0:=λi j=>∃M,Fl W F (ef W A V F) g r n (y++[a]) M (y++a::d) 10 63 64 65 (I y) i j) ?_ λq h⟨M,p⟩=>?_
 .rw[hU];refine mM ?_;refine ax (Q0:=λi j=>Fl W F (ef W A V F) g r n y c (y++a::d) 10 63 64 65 (I y) i j/\i.g 11=O (J (I y:Nat))/\∃B,g.n<B/\B<j.n/\j.g B=O (K (ah (D a)) 31 G)/\i.g 12=O (pB B)) ?_ λq h⟨p,t11,B,V9,lB2,gB,t12⟩=>?_
  .obtain⟨l,N,o,P,Q,R,S,lD,T,X,s,t6,t7,t8,t9,v,C,L,x⟩:=p;have ix:=λ(h:H)=>nu (h:=h) (k:=zx) WN;have n1:¬W=h.n:=by have:=l.le;omega
   have n2:¬F=h.n:=by have:=l.le;omega
   have n3:¬g.n=h.n:=by omega
   simp[m8,nX,lU,z,ak,sub,f75,C,x,ix];exact .mk ⟨⟨(l.new _).put (by have:=l.le;omega) _,by simp[n1,N],by simp[n2,o],P,Q,R,S,by simp;omega,by simp only[jd,kP,n3,if_false];exact T,by simp[X],by simp[s],by simp[t6],by simp[t7],by simp[t8],by simp[t9],by simp[v],by simp[C],by simp[L],by simp[x]⟩,by simp,h.n,lD,by simp,by simp,by simp⟩
  .obtain⟨l,N,o,P,Q,R,S,lD,T,X,s,t6,t7,t8,t9,v,C,L,x⟩:=p;have ix:=λ(h:H)=>Ha (h:=h) (b:=g.n) (m:=n) (k:=zx) hi;have hle:=l.le;obtain⟨j,k1,k2⟩:=hf ((h.az F).az B) c (by simp[N]) (by simp[o]) P Q (by simp;omega) (by simp;omega);have qd:dE W g j:=((l.az _).az _).trans k1
   have kD:j.g g.n=O (K (gw n y).flatten 31 G):=by rw[k1.get g.n (by simp;omega) (by omega)];simpa using T
   have kF:j.g F=O (K [ef W A V F] 78 G):=by rw[k1.get F (by simp;omega) (λf=>DM f.symm)];simpa using o
   have kl:g.n<j.n:=by have:=k1.le;simp at this;omega
   rcases k2 with⟨M,Qq,Qr,Qs,e⟩|e
   .have e:ev (.call (zU (za 75) ⟨[]⟩ ⟨[pB W,pB A,pB V,pB F]⟩) [D a] ((h.az F).az B) U)=.r (D a) j U:=e;have sr:=M3 (t:=a) kD (ML _ _) (by rw[M4 (by omega)];exact hi);rw[M5 a hi]at sr;simp[m8,nX,lU,z,ak,sub,f75,v,t11,t12,s,o,gB,IT,ob,e,ix,sr];exact .mk ⟨M,qd.put (zR _) _,by simp[show¬W=g.n by omega,Qs],by simp[show¬F=g.n by omega,kF],Qq,Qr,R,S,by simpa using kl,by simp,by simp[X],by simp[s],by simp[t6],by simp[t7],by simp[t8],by simp[t9],by simp[v],by simp[C],by simp[L],by simp[x]⟩
   .have e:ev (.call (zU (za 75) ⟨[]⟩ ⟨[pB W,pB A,pB V,pB F]⟩) [D a] ((h.az F).az B) U)=.p [⟨gU 11,G,G⟩] j U:=e;simp[m8,nX,lU,z,ak,sub,f75,v,t11,t12,s,o,gB,IT,ob,e];exact⟨rfl,rfl,rfl,qd⟩
 .obtain⟨l,N,o,P,Q,R,S,lD,T,X,s,t6,t7,t8,t9,v,C,L,x⟩:=p;have e2:=dA (n:=I y+1) (by unfold ao;omega);simp at e2;simp[m8,nX,lU,z,ak,sub,f75,x,e2];exact .mk ⟨M,l,N,o,P,Q,R,S,lD,T,by simp[X],by simp[s],by simp[t6],by simp[t7],by simp[t8],by simp[t9],by simp[v],by simp[C],by simp[L],by simp⟩
end
section
variable{W A V F:Nat}{ev:zC->ag}
def aql{d:List zA}(p:Fl W F (ef W A V F) g r n y c (y++a::d) 13 82 83 84 (I y) q h)(hn:n=I y+(I d+1))(hb:n<=65536)(DM:W≠F)(hf:AE W A V F ev a):
 ay (bB λi j=>∃M,Fl W F (ef W A V F) g r n (y++[a]) M (y++a::d) 13 82 83 84 (I y+1) i j) (λ_=>False) (λ_ _=>False) (aLn W g) (aw Z ev ⟨75,U⟩ mA ⟨q,[],h,U⟩):=by
 have hi:I y<n:=by omega
 have WN:I y<I (y++a::d):=by simp
 have hx:(y++a::d)[I y]=a:=by simp
 rw[ahA];refine ax (Q0:=λi j=>Fl W F (ef W A V F) g r n y c (y++a::d) 13 82 83 84 (I y) i j/\i.g 85=O (zP Y)) ?_ λq h⟨p,t66⟩=>?_
 .let⟨l,gW,o,w0,w1,N,P,lD,Q,R,s,S,T,X,t9,v,C,L,x⟩:=p;simp[mA,jD,z,f75,L,x,hi];exact .mk ⟨⟨l,gW,o,w0,w1,N,P,lD,Q,by simp[R],by simp[s],by simp[S],by simp[T],by simp[X],by simp[t9],by simp[v],by simp[C],by simp[L],by simp[x]⟩,by simp⟩
 refine ax (Q0:=λi j=>Fl W F (ef W A V F) g r n y c (y++a::d) 13 82 83 84 (I y) i j) ?_ λq h p=>?_
 .simp[mA,jD,z,f75,t66];exact .mk p
 refine ax (Q0:=λi j=>∃M,Fl W F (ef W A V F) g r n (y++[a]) M (y++a::d) 13 82 83 84 (I y) i j) ?_ λq h⟨M,p⟩=>?_
 .rw[hU];refine mM ?_;refine ax (Q0:=λi j=>Fl W F (ef W A V F) g r n y c (y++a::d) 13 82 83 84 (I y) i j/\i.g 14=O (J (I y:Nat))/\∃B,g.n<B/\B<j.n/\j.g B=O (K (ah (D a)) 31 G)/\i.g 15=O (pB B)) ?_ λq h⟨p,t11,B,V9,lB2,gB,t12⟩=>?_
  .let⟨l,gW,o,w0,w1,N,P,lD,Q,R,s,S,T,X,t9,v,C,L,x⟩:=p;have ix:=λ(h:H)=>nu (h:=h) (k:=zx) WN;have n1:¬W=h.n:=by have:=l.le;omega
   have n2:¬F=h.n:=by have:=l.le;omega
   have n3:¬g.n=h.n:=by omega
   simp[mA,jD,z,f75,C,x,ix];exact .mk ⟨⟨(l.new _).put (by have:=l.le;omega) _,by simp[n1,gW],by simp[n2,o],w0,w1,N,P,by simp;omega,by simp only[jd,kP,n3,if_false];exact Q,by simp[R],by simp[s],by simp[S],by simp[T],by simp[X],by simp[t9],by simp[v],by simp[C],by simp[L],by simp[x]⟩,by simp,h.n,lD,by simp,by simp,by simp⟩
  .let⟨l,gW,o,w0,w1,N,P,lD,Q,R,s,S,T,X,t9,v,C,L,x⟩:=p;have ix:=λ(h:H)=>Ha (h:=h) (b:=g.n) (m:=n) (k:=zx) hi;have hle:=l.le;let⟨j,k1,k2⟩:=hf ((h.az F).az B) c (by simp[gW]) (by simp[o]) w0 w1 (by simp;omega) (by simp;omega);have qd:dE W g j:=((l.az _).az _).trans k1
   have kD:j.g g.n=O (K (gw n y).flatten 31 G):=by rw[k1.get g.n (by simp;omega) (by omega)];simpa using Q
   have kF:j.g F=O (K [ef W A V F] 78 G):=by rw[k1.get F (by simp;omega) (λf=>DM f.symm)];simpa using o
   have kl:g.n<j.n:=by have:=k1.le;simp at this;omega
   rcases k2 with⟨M,Qq,Qr,Qs,e⟩|e
   .have e:ev (.call (zU (za 75) ⟨[]⟩ ⟨[pB W,pB A,pB V,pB F]⟩) [D a] ((h.az F).az B) U)=.r (D a) j U:=e;have sr:=M3 (t:=a) kD (ML _ _) (by rw[M4 (by omega)];exact hi);rw[M5 a hi]at sr;simp[mA,jD,z,f75,v,t11,t12,s,o,gB,IT,e,ix,sr];exact .mk ⟨M,qd.put (zR _) _,by simp[show¬W=g.n by omega,Qs],by simp[show¬F=g.n by omega,kF],Qq,Qr,N,P,by simpa using kl,by simp,by simp[R],by simp[s],by simp[S],by simp[T],by simp[X],by simp[t9],by simp[v],by simp[C],by simp[L],by simp[x]⟩
   .have e:ev (.call (zU (za 75) ⟨[]⟩ ⟨[pB W,pB A,pB V,pB F]⟩) [D a] ((h.az F).az B) U)=.p [⟨gU 11,G,G⟩] j U:=e;simp[mA,jD,z,f75,v,t11,t12,s,o,gB,IT,e];exact⟨rfl,rfl,rfl,qd⟩
 .let⟨l,gW,o,w0,w1,N,P,lD,Q,R,s,S,T,X,t9,v,C,L,x⟩:=p;have e2:=dA (n:=I y+1) (by unfold ao;omega);simp at e2;simp[mA,jD,z,f75,x,e2];exact .mk ⟨M,l,gW,o,w0,w1,N,P,lD,Q,by simp[R],by simp[s],by simp[S],by simp[T],by simp[X],by simp[t9],by simp[v],by simp[C],by simp[L],by simp⟩
def anV{a:List zA}(d:Fl W F v g r n y c a 10 63 64 65 (I y) q h)(b:n=I y):
 ay ca ca (λi s=>i=0/\bB (Fl W F v g r n y c a 10 63 64 65 (I y)) s) ap (aF Z ev 75 m8 q h):=by
 let⟨kp,gW,gF,w0,w1,lW,lF,lD,gD,t1,t4,t6,t7,t8,t9,tD,tS,tN,tK⟩:=d;simp[m8,nX,lU,z,f75,tN,tK,b,an];exact .mk ⟨kp,gW,gF,w0,w1,lW,lF,lD,by simpa[b]using gD,by simp[t1],by simp[t4],by simp[t6],by simp[t7],by simp[t8],by simp[t9],by simp[tD,b],by simp[tS],by simp[tN,b],by simp[tK]⟩
def anW{a:List zA}(d:Fl W F v g r n y c a 13 82 83 84 (I y) q h)(b:n=I y):
 ay ca ca (λi s=>i=2/\bB (Fl W F v g r n y c a 13 82 83 84 (I y)) s) ap (aF Z ev 75 mA q h):=by
 let⟨kp,gW,gF,w0,w1,lW,lF,lD,gD,t1,t4,t6,t7,t8,t9,tD,tS,tN,tK⟩:=d;simp[mA,jD,z,f75,tN,tK,b,an];exact .mk ⟨kp,gW,gF,w0,w1,lW,lF,lD,by simpa[b]using gD,by simp[t1],by simp[t4],by simp[t6],by simp[t7],by simp[t8],by simp[t9],by simp[tD,b],by simp[tS],by simp[tN,b],by simp[tK]⟩
end
section
variable{W A V F:Nat}{C:aV}
def alc(o:Fl W F (ef W A V F) g r (I y) [] c y 10 63 64 65 0 q h)(x:I y<=65536)(p:W≠F)(B:∀u∈y,∀m,k<=m->AE W A V F (af Z C m) u)(L:I y+k<=m):
 ay (bB λl t=>∃n,Fl W F (ef W A V F) g r (I y) y n y 10 63 64 65 (I y) l t) ca ap (aLn W g) (aF Z (af Z C m) 75 (zv 0 (yb m8)) q h):=by
 refine pE k (λj s=>∃f a n,y=f++a/\j=I a/\bB (Fl W F (ef W A V F) g r (I y) f n y 10 63 64 65 (I f)) s) (I y) ⟨[],y,c,rfl,rfl,.mk o⟩ (by omega) ?_;rintro j s m ⟨f,a,n,e,M,N⟩ P;obtain⟨l,t,rfl,o⟩:=N.elim;cases a with
 |nil=>
  rw[ye]at e;subst e;exact(anV o rfl).Mo dN dN (λi s b=>⟨b.1,by obtain⟨q,h,rfl,d⟩:=b.2.elim;exact .mk ⟨n,d⟩⟩) aP
 |cons u a=>
  have Q:I y=I f+(I a+1):=by rw[e];simp
  have v:Fl W F (ef W A V F) g r (I y) f n (f++u::a) 10 63 64 65 (I f) l t:=by rw[<-e];exact o
  refine(aqk v Q x p (B u (by rw[e];simp) m P)).Mo (λs b=>?_) fP aP bT;obtain⟨q,h,rfl,R,b⟩:=b.elim;exact⟨I a,by rw[M];simp,f++[u],a,R,by rw[e];simp,rfl,.mk (by rw[e];rw[e]at b;simpa using b)⟩
def ald(o:Fl W F (ef W A V F) g r (I y) [] c y 13 82 83 84 0 q h)(x:I y<=65536)(p:W≠F)(B:∀u∈y,∀m,k<=m->AE W A V F (af Z C m) u)(L:I y+k<=m):
 ay (bB λl t=>∃n,Fl W F (ef W A V F) g r (I y) y n y 13 82 83 84 (I y) l t) ca ap (aLn W g) (aF Z (af Z C m) 75 (zv 2 (yb mA)) q h):=by
 refine pE k (λj s=>∃f a n,y=f++a/\j=I a/\bB (Fl W F (ef W A V F) g r (I y) f n y 13 82 83 84 (I f)) s) (I y) ⟨[],y,c,rfl,rfl,.mk o⟩ (by omega) ?_;rintro j s m ⟨f,a,n,e,M,N⟩ P;obtain⟨l,t,rfl,o⟩:=N.elim;cases a with
 |nil=>
  rw[ye]at e;subst e;exact(anW o rfl).Mo dN dN (λi s b=>⟨b.1,by obtain⟨q,h,rfl,d⟩:=b.2.elim;exact .mk ⟨n,d⟩⟩) aP
 |cons u a=>
  have Q:I y=I f+(I a+1):=by rw[e];simp
  have v:Fl W F (ef W A V F) g r (I y) f n (f++u::a) 13 82 83 84 (I f) l t:=by rw[<-e];exact o
  refine(aql v Q x p (B u (by rw[e];simp) m P)).Mo (λs b=>?_) fP aP bT;obtain⟨q,h,rfl,R,b⟩:=b.elim;exact⟨I a,by rw[M];simp,f++[u],a,R,by rw[e];simp,rfl,.mk (by rw[e];rw[e]at b;simpa using b)⟩
end
structure Fs(W F:Nat)(fv:E)(t:zA)(h0:H)(w:Int)(tm:Tr E)(h:H):Prop where
 kp:dE W h0 h
 gW:ae h W (ad [J w] 3)
 gF:ae h F (ad [fv] 78)
 w0:0<=w
 w1:w<=8192000
 lW:W<h0.n
 lF:F<h0.n
 nx:h0.n+2<=h.n
 g5:ae h h0.n (ad (ah (D t)) 31)
 g6:ae h (h0.n+1) (ad z5 31)
 t1:aa tm 1 (pB W)
 t4:aa tm 4 (pB F)
 t5:aa tm 5 (pB h0.n)
 t6:aa tm 6 (pB (h0.n+1))
inductive Mp(t:zA)(B:Nat)(h:H):Prop
 |data (hB:h.g B=O (K (ah (D t)) 31 G)):Mp t B h
 |made (N:Nat) (hN:N<h.n) (hBN:B<N) (hB:h.g B=O (K [J t.w,J t.Q,zN t.F,aO t.H,DK N (I t.M)] 31 G)) (gN:h.g N=O (K (zF D t.M) 31 G)):Mp t B h
structure Ft(W F:Nat)(fv:E)(t:zA)(h0:H)(w:Int)(B:Nat)(tm:Tr E)(h:H):Prop where
 kp:dE W h0 h
 gW:ae h W (ad [J w] 3)
 gF:ae h F (ad [fv] 78)
 w0:0<=w
 w1:w<=8192000
 lW:W<h0.n
 lF:F<h0.n
 nx:h0.n+2<=B/\B<h.n
 g6:ae h (h0.n+1) (ad z5 31)
 t1:aa tm 1 (pB W)
 t4:aa tm 4 (pB F)
 t6:aa tm 6 (pB (h0.n+1))
 t7:aa tm 7 (pB B)
 t8:aa tm 8 (al (bt t))
section
variable{W A V F:Nat}{ev:zC->ag}
def aup(b:ae h W (ad [J c] 3))(d:ae h F (ad [v] 78))(e:0<=c)(f:c<=8192000)(g:W<h.n)(i:F<h.n):
 ay (bB (Fs W F v a h c)) ca ap ap (aF Z ev 75 (z f75 pF0) (bF [D a,pB W,pB A,pB V,pB F] 0 .Nl) h):=by
 have j:¬W=h.n:=by omega
 have k:¬F=h.n:=by omega
 have l:¬W=h.n+1:=by omega
 have m:¬F=h.n+1:=by omega
 have n:¬h.n+1=h.n:=by omega
 simp[z,f75];refine .mk ⟨?_,by simp[j,l,b],by simp[k,m,d],e,f,g,i,by simp,by simp,by simp,by simp,by simp,by simp,by simp⟩;exact((dE.refl h).new _).new _
def auq(j:Fs W F v a g c r h)(b:W≠F)(d:∀m,ev (aj 74 [J 11] m)=.p [⟨gU 11,G,G⟩] m U):
 ay (bB λr h=>∃k,Fs W F v a g k r h) ca ap (aLn W g) (aF Z ev 75 (z f75 pF1) r h):=by
 let⟨kp,gW,gF,w0,w1,lW,lF,nx,g5,g6,t1,t4,t5,t6⟩:=j;obtain⟨n,rfl⟩:∃n:Nat,c=(n:Int):=⟨c.toNat,by omega⟩;have e:=dA (n:=n+1) (by unfold ao;omega);simp at e;have l:¬F=W:=λq=>b q.symm;have o:¬g.n=W:=by omega
 have p:¬g.n+1=W:=by omega
 have f:=λ(g:H)(q:ae g W (ad [J n] 3))=>J6 (n:=(n:Int)+1) q;by_cases i:8192000<(n:Int)+1
 .simp[z,f75,t1,e,i,d,f,gW];exact⟨rfl,rfl,rfl,((kp.az _).Ve _).az _⟩
 .simp[z,f75,t1,e,i,f,gW];exact .mk ⟨(n:Int)+1,((kp.az _).Ve _).az _,by simp,by simp[l,gF],by omega,by omega,lW,lF,by simpa using nx,by simp[o,g5],by simp[p,g6],by simp[t1],by simp[t4],by simp[t5],by simp[t6]⟩
def aur(e:Fs W F v a g c r h)(d:∀m,ev (aj 76 [D a] m)=.r (aTu [D (aM a),al (bt a)]) m U):
 ay (bB λr h=>∃B,Ft W F v a g c B r h/\ae h B (ad (ah (D (aM a))) 31)) ca ap (aLn W g) (aF Z ev 75 (z f75 pF2) r h):=by
 let⟨b,f,i,j,k,l,n,o,g5,p,q,s,t5,u⟩:=e;have x:¬W=h.n:=by have:=b.le;omega
 have y:¬F=h.n:=by have:=b.le;omega
 have A:¬g.n+1=h.n:=by omega
 simp[z,f75,t5,g5,d];refine .mk ⟨h.n,⟨((b.az _).new _).put (by have:=b.le;simp;omega) _,by simp[x,f],by simp[y,i],j,k,l,n,⟨o,by simp⟩,by simp[A,p],by simp[q],by simp[s],by simp[u],by simp,by simp⟩,by simp⟩
def aus(d:Ft W F v a g c n r h)(b:ae h n (ad (ah (D (aM a))) 31))(e:(aM a).w≠12):
 ay (bB λr h=>Ft W F v a g c n r h/\ae h n (ad (ah (D (aM a))) 31)/\aa r 9 (zP G)) ca ap ap (aF Z ev 75 (z f75 pF3) r h):=by
 let⟨kp,gW,gF,w0,w1,lW,lF,nx,g6,t1,t4,t6,t7,t8⟩:=d;simp[z,f75,t7,b,e];refine .mk ⟨⟨(kp.az _),by simp[gW],by simp[gF],w0,w1,lW,lF,⟨nx.1,by simp[nx.2]⟩,by simp[g6],by simp[t1],by simp[t4],by simp[t6],by simp[t7],by simp[t8]⟩,by simp[b],by simp⟩
end
def Yd(a:n=I y):(gw n y).flatten=zF D y:=by subst a;unfold gw zF;simp[dP,List.flatMap]
section
variable{W A V F:Nat}{C:aV}
def aut(j:Ft W F (ef W A V F) a g e n r h)(y:h.g n=O (K (ah (D (aM a))) 31 G))(L:r.g 9=O (zP G))(DM:W≠F)
 (hb:I (aM a).M<=65536)(hf:∀u∈(aM a).M,∀m,k<=m->AE W A V F (af Z C m) u)(hmk:I (aM a).M+k<=m):
 ay (bB λr h=>∃M,Ft W F (ef W A V F) a g M n r h/\Mp (aM a) n h/\r.g 9=O (zP G)) (λ_=>False) (λ_ _=>False) (aLn W g) (aw Z (af Z C m) ⟨75,U⟩ lU ⟨r,[],h,U⟩):=by
 rw[aiZ];refine ax (Q0:=λb d=>Ft W F (ef W A V F) a g e n b d/\d.g n=O (K (ah (D (aM a))) 31 G)/\b.g 9=O (zP G)/\b.g 49=O (zP G)) ?_ λr h⟨j,y,L,t49⟩=>?_
 .obtain⟨N,l,o,p,v,P,Q,x,g6,R,S,T,f,X⟩:=j;simp[lU,z,ak,sub,f75,L];exact .mk ⟨⟨N,l,o,p,v,P,Q,x,g6,by simp[R],by simp[S],by simp[T],by simp[f],by simp[X]⟩,y,by simp[L],by simp⟩
 rw[oR];show ay _ _ _ _ (CP _ _ _ (r.g 49));rw[t49,an,if_neg (by simp)];refine ax (Q0:=λb d=>Ft W F (ef W A V F) a g e n b d/\d.g n=O (K (ah (D (aM a))) 31 G)/\b.g 9=O (zP G)/\b.g 57=O (zP (yF (0<(I (aM a).M:Int))))) ?_ λr h⟨j,y,L,t57⟩=>?_
 .obtain⟨N,l,o,p,v,P,Q,x,g6,R,S,T,f,X⟩:=j;simp[lU,z,ak,sub,f75,f,y];refine .mk ⟨⟨N.az _,by simp[l],by simp[o],p,v,P,Q,⟨x.1,by simp[x.2]⟩,by simp[g6],by simp[R],by simp[S],by simp[T],by simp[f],by simp[X]⟩,by simp[y],by simp[L],by simp⟩
 rw[oR];show ay _ _ _ _ (CP _ _ _ (r.g 57));rw[t57,an];by_cases hn:I (aM a).M=0
 .rw[if_neg (by simp[hn]),JU];rw[Gz];exact .mk ⟨e,j,.data y,L⟩
 rw[if_pos (by simp;omega),ai0];generalize hu:aM a=u at*;refine ax (Q0:=λb d=>dE W h d/\d.g W=h.g W/\d.n=h.n+1/\d.g n=O (K (ah (D u)) 31 G)/\d.g h.n=O (K (gw (I u.M) []).flatten 31 G)/\b.g 10=O (DK h.n (I u.M))/\b.g 9=r.g 9/\b.g 1=r.g 1/\b.g 4=r.g 4/\b.g 6=r.g 6/\b.g 7=r.g 7/\b.g 8=r.g 8) ?_ λfQ h1⟨k1,kW,n1,gB1,gD1,j10,j9,j1,j4,j6,j7,j8⟩=>?_
 .obtain⟨N,l,o,p,v,P,Q,x,g6,R,S,T,f,X⟩:=j;have mk:=λ(g:H)=>Pt g hb;have nB:¬n=h.n:=by omega
  simp[nX,lU,z,ak,sub,f75,f,y,mk];show bB _ _;refine .mk ⟨((dE.refl h).az _).new _,by simp[show¬W=h.n by omega],by simp,by simp[nB,y],by simp[Pv],by simp,by simp,by simp,by simp,by simp,by simp[f],by simp⟩
 refine ax (Q0:=λr d=>∃M,dE W h d/\d.g W=O (K [J M] 3 G)/\d.g F=O (K [ef W A V F] 78 G)/\0<=M/\M<=8192000/\h.n<d.n/\d.g h.n=O (K (zF D u.M) 31 G)/\r.g 10=O (DK h.n (I u.M))/\r.g 9=O (zP G)/\r.g 1=O (pB W)/\r.g 4=O (pB F)/\r.g 6=O (pB (g.n+1))/\r.g 7=O (pB n)/\r.g 8=O (al (bt a))) ?_ λr d⟨M,i,l,o,p,v,lD,gD,t10,L,R,S,T,f,X⟩=>?_
 .obtain⟨N,l,o,p,v,P,Q,x,g6,R,S,T,f,X⟩:=j;have lWh:W<h.n:=by omega
  have lFh:F<h.n:=by omega
  have gW1:h1.g W=O (K [J e] 3 G):=by rw[kW];exact l
  have gF1:h1.g F=O (K [ef W A V F] 78 G):=by rw[k1.get F lFh (λq=>DM q.symm)];exact o
  refine ax (Q0:=λb d=>Fl W F (ef W A V F) h fQ (I u.M) [] e u.M 10 63 64 65 0 b d) ?_ λr d j=>?_
  .have f:=j7.trans f;simp[nX,lU,z,ak,sub,f75,f,gB1];refine .mk ⟨k1.az _,by simp[gW1],by simp[gF1],p,v,lWh,lFh,by simp[n1],by simp[gD1],by simp,by simp[j4,S],by simp,by simp,by simp,by simp,by simp[j10],by simp,by simp,by simp⟩
  .refine(alc j hb DM hf hmk).Mo (λs q=>?_) (λ_ q=>q) (λ_ _ q=>q) (λc s q=>⟨q.1,q.2.1,q.2.2.1,N.trans q.2.2.2⟩);obtain⟨r,d,rfl,M,i,l,o,p,v,P,Q,lD,gD,i1,i4,i6,i7,i8,i9,iD,_⟩:=q.elim;exact .mk ⟨M,i,l,o,p,v,lD,by rw[gD,Yd rfl],iD,by rw[i9,j9,L],by rw[i1,j1,R],i4,by rw[i6,j6,T],by rw[i7,j7,f],by rw[i8,j8,X]⟩
 obtain⟨N,_,_,_,_,P,Q,x,g6,_⟩:=j
 have gB:d.g n=O (K [J u.w,J u.Q,zN u.F,aO u.H,al u.M] 31 G):=by rw[i.get n x.2 (by omega),y,eD];rfl
 have s1:=λ(h1:H)(q:h1.g n=O (K [J u.w,J u.Q,zN u.F,aO u.H,al u.M] 31 G))=>JW q (O ⟨h.n,0,U⟩) (I u.M) (I u.M);have n1:¬W=n:=by omega
 have n2:¬F=n:=by omega
 have n3:¬g.n+1=n:=by omega
 have n4:¬h.n=n:=by omega
 have g6':d.g (g.n+1)=O (K z5 31 G):=by rw[i.get _ (by omega) (by omega)];exact g6
 simp[nX,lU,z,ak,sub,f75,f,t10,s1,gB];refine .mk ⟨⟨M,(N.trans i).put (by omega) _,by simp[n1,l],by simp[n2,o],p,v,P,Q,⟨x.1,by simp;omega⟩,by simp[n3,g6'],by simp[R],by simp[S],by simp[T],by simp[f],by simp[X]⟩,.made h.n (by simpa using lD) x.2 (by simp) (by simp[n4,gD]),by simp[L]⟩
end
def Vf(W:Nat)(b:H)(t:zA)(v:E)(h:H):Prop:=v=D t/\dE W b h/\∃a,0<=a/\a<=8192000/\ae h W (ad [J a] 3)
structure Fe(W F:Nat)(fv:E)(t:zA)(h0:H)(B Dd:Nat)(tm:Tr E)(h:H):Prop where
 kp:dE W h0 h
 gW:∃w:Int,0<=w/\w<=8192000/\h.g W=O (K [J w] 3 G)
 lW:W<h0.n
 nB:h0.n+2<=B
 nBD:B<Dd
 nD:Dd<h.n
 hd:Mp (aM t) B h
 hN:∀N,N=Dd->h.g B≠O (K [J (aM t).w,J (aM t).Q,zN (aM t).F,aO (aM t).H,DK N (I (aM t).M)] 31 G)
 g6:h.g (h0.n+1)=O (K z5 31 G)
 gD:h.g Dd=O (K (zF D (bt t)) 31 G)
 t6:tm.g 6=O (pB (h0.n+1))
 t7:tm.g 7=O (pB B)
 t9:tm.g 9=O (zP G)
 t13:tm.g 13=O (DK Dd (I (bt t)))
section
variable{W A V F:Nat}{C:aV}
def auu(y:Ft W F (ef W A V F) a g c n r h)(hd:Mp (aM a) n h)(t9:r.g 9=O (zP G))(R:W≠F)
 (hb:I (bt a)<=65536)(hf:∀u∈bt a,∀m,k<=m->AE W A V F (af Z C m) u)(S:I (bt a)+k<=m):
 ay (bB λr h=>∃b,Fe W F (ef W A V F) a g n b r h) (λ_=>False) (λ_ _=>False) (aLn W g) (aw Z (af Z C m) ⟨75,U⟩ (zS (ak [G] jD) (zS (ak [Y,G,G] jD) (zv 2 (yb mA)))) ⟨r,[],h,U⟩):=by
 generalize L:bt a=l at*;refine ax (Q0:=λf p=>p=h.w (K (gw (I l) []).flatten 31 G)/\f.g 13=O (DK h.n (I l))/\f.g 9=r.g 9/\f.g 1=r.g 1/\f.g 4=r.g 4/\f.g 6=r.g 6/\f.g 7=r.g 7/\f.g 8=r.g 8) ?_ λT h1⟨v,X,j9,j1,j4,j6,j7,j8⟩=>?_
 .obtain⟨kp,M,gF,P,Q,lW,lF,nx,g6,t1,t4,t6,t7,i⟩:=y;rw[L]at i;have mk:=λ(g:H)=>Pt g hb;simp[jD,z,ak,sub,f75,i,mk];exact .mk ⟨by simp[Pv],by simp,by simp,by simp,by simp,by simp,by simp,by simp[i]⟩
 obtain⟨kp,M,gF,P,Q,lW,lF,nx,g6,t1,t4,t6,t7,i⟩:=y;rw[L]at i;have nW:¬W=h.n:=by omega
 have nF:¬F=h.n:=by omega
 refine ax (Q0:=λf p=>Fl W F (ef W A V F) h T (I l) [] c l 13 82 83 84 0 f p) ?_ λr p y=>?_
 .have i:=j8.trans i;simp[jD,z,ak,sub,f75,i];exact .mk ⟨by rw[v];exact(dE.refl h).new _,by simp[v,nW,M],by simp[v,nF,gF],P,Q,by omega,by omega,by simp[v],by simp[v],by simp,by simp[j4,t4],by simp,by simp,by simp[i],by simp,by simp[X],by simp,by simp,by simp⟩
 refine(ald y hb R hf S).Mo (λs q=>?_) (λ_ q=>q) (λ_ _ q=>q) (λd s q=>⟨q.1,q.2.1,q.2.2.1,kp.trans q.2.2.2⟩);obtain⟨r,p,rfl,w',j,M,gF,P,Q,lW',lF',lD,gD,i1,i4,i6,i7,i8,i9,iD,_⟩:=q.elim;have gB:p.g n=h.g n:=j.get n (by omega) (by omega);refine .mk ⟨h.n,kp.trans j,⟨w',P,Q,M⟩,lW,nx.1,nx.2,lD,?_,?_,by rw[j.get _ (by omega) (by omega)];exact g6,by rw[gD,Yd rfl,L],by rw[i6,j6,t6],by rw[i7,j7,t7],by rw[i9,j9,t9],by rw[L];exact iD⟩
 .cases hd with
  |data o=>exact .data (by rw[gB];exact o)
  |made N hN x o gN=>exact .made N (by omega) x (by rw[gB];exact o) (by rw[j.get N hN (by omega)];exact gN)
 .intro N hN e;rw[gB]at e;cases hd with
  |data o=>
   rw[o,eD]at e;injection e with e;injection e with e;injection e with _ e;injection e with _ e;injection e with _ e;injection e with _ e;injection e with e _;cases e
  |made N' hN' x o gN=>
   rw[o]at e;injection e with e;injection e with e;injection e with _ e;injection e with _ e;injection e with _ e;injection e with _ e;injection e with e _;injection e with e;injection e with e;injection e with e;omega
end
def Fe.tms{W F:Nat}(b:Fe W F v a g n k r h)(d:q.g 6=r.g 6)(e:q.g 7=r.g 7)(f:q.g 9=r.g 9)(c:q.g 13=r.g 13):Fe W F v a g n k q h:=
 ⟨b.kp,b.gW,b.lW,b.nB,b.nBD,b.nD,b.hd,b.hN,b.g6,b.gD,by rw[d];exact b.t6,by rw[e];exact b.t7,by rw[f];exact b.t9,by rw[c];exact b.t13⟩
section
variable{W A V F:Nat}{C:aV}
def asC(b:Fe W F v a g n k r h)(i:2<=m):
 ay (bB λc d=>Fe W F v a g n k c d) ca ap (aLn W g) (aF Z (af Z C m) 75 (zv 4 (yb UE)) r h):=by
 refine pE 0 (λj s=>j=0/\bB (Fe W F v a g n k) s) 0 ⟨rfl,.mk b⟩ (by omega) ?_;rintro j s m ⟨rfl,e⟩ _;obtain⟨r,h,rfl,b⟩:=e.elim;have f:=b.t9;simp[UE,jD,z,f75,f,an];exact .mk (b.tms (by simp) (by simp) (by simp) (by simp))
def auv{P:zA->Int}{X:E}(st:Fe W F X a g k i r h)(Q:cF (aM a) (bt a)=a)(R:I (bt a)<ao)(j:C 79=nP sx BD)
 (d:∀n m,af Z C n (aj 77 [D a,J 0] m)=(qS P (a,0)).bi m):
 ay (nb Z [yB 6 31] (Vf W g a)) (nb Z [yB 6 31] (Vf W g a)) (λ_ _=>False) (aLn W g) (aw Z (af Z C m) ⟨75,U⟩ (ak [Y,Y,Y] jD) ⟨r,[],h,U⟩):=by
 let⟨kp,⟨w,w0,w1,gW⟩,lW,nB,nBD,nD,hd,hN,g6,gD,S,t7,t9,t13⟩:=st
 have s:∃l:List Nat,(∀b∈l,g.n<=b)/\g.n+1∉l/\∃c:List E,h.g k=O (K c 31 G)/\I c=5/\∀n,af Z C n (aj 79 [aAg c,DK i (I (bt a))] (h.az k))=.r (D a) ((h.az k).bx l) U:=by
  cases hd with
  |data f=>
   refine⟨[i],by simp;omega,by simp;omega,_,f,by rw[dP];rfl,λn=>?_⟩;have:=aqi (C:=C) j n (u:=aM a) (l:=bt a) (M:=i) R (m:=h.az k) (by simp[gD];rfl);rw[Q]at this;rw[<-this,eD];rfl
  |made N hN' hBN f gN=>
   have x:N≠i:=λe=>hN N e (by rw[e]at f;rw[e];exact f);refine⟨[N,i],by simp;omega,by simp;omega,_,f,rfl,λn=>?_⟩;have:=aqj (C:=C) j n (u:=aM a) (l:=bt a) (N:=N) (M:=i) R x (m:=h.az k) (by simp[gN];rfl) (by simp[gD];rfl);rw[Q]at this;exact this
 let⟨l,o,y,c,f,hc,px⟩:=s;have p:=fh hc;have T:dE W g ((h.az k).bx l):=(kp.az _).bx o;have A:((h.az k).bx l).g W=O (K [J w] 3 G):=by rw[kQ (λq=>by have:=o W q;omega)];simp[gW]
 have L:((h.az k).bx l).g (g.n+1)=O (K z5 31 G):=by rw[kQ y];simp[g6]
 generalize(h.az k).bx l=h1 at*;have nW:¬W=g.n+1:=by omega
 cases V:Cj P a with
 |true=>
  have d:∀n m,af Z C n (aj 77 [D a,J 0] m)=.p [⟨gU 11,G,G⟩] m U:=λn m=>by rw[d];unfold qS;rw[if_neg (by rw[V];simp)];rfl
  simp[jD,z,f75,t7,f,p,t13,px,d];exact⟨rfl,rfl,rfl,T⟩
 |false=>
  have d:∀n m,af Z C n (aj 77 [D a,J 0] m)=.r (D a) m U:=λn m=>by rw[d];unfold qS;rw[if_pos (by rw[V];simp)];rfl
  simp[jD,z,f75,t7,f,p,t13,px,d,S,L];refine nb.mk (v:=D a) (h2:=(h1.p (g.n+1) (K (ah (D a)) 31 G)).az (g.n+1)) (by simp[S]) ⟨rfl,(T.put (by omega) _).az _,w,w0,w1,by simp[nW,A]⟩
end
def aqm{T:au}{f:zC->ag}{g:Fr}{b c d:yG}{s:S}:aw T f g (zS x (zS (zS b c) d)) s=aw T f g (zS (zS x (zS b c)) d) s:=by
 rw[run_seq,run_seq,run_seq x];generalize aw T f g x s=A;cases A with
 |c e s=>cases e<;>rfl
 |_=>rfl
section
variable{W A V F:Nat}{C:aV}
def RQ{dp:zA->Int}(p:C 75=λ_ _=>U)(r:C 79=nP sx BD)(i:W≠F)
 (x:∀n m,af Z C n (aj 74 [J 11] m)=.p [⟨gU 11,G,G⟩] m U)
 (y:∀n m,af Z C n (aj 76 [D a] m)=.r (aTu [D (aM a),al (bt a)]) m U)
 (H:∀n m,af Z C n (aj 77 [D a,J 0] m)=(qS dp (a,0)).bi m)
 (ht:aI oM a)(hn:zD a<=65536)(hk:∀u,u∈(aM a).M\/u∈bt a->∀m,k<=m->AE W A V F (af Z C m) u)(hkn:65536+k<=n):AE W A V F (af Z C (n+2)) a:=by
 intro h w gW gF w0 w1 lW lF;have hl:=En a;have j:aI oM (aM a):=ht.head;have L:I (bt a)<=65536:=by omega
 rw[oy _ (by rw[p])];refine Or.elim (NJ (C:=C) (n:=n) (args:=[D a,pB W,pB A,pB V,pB F]) (h:=h) (Q:=Vf W h a) (QP:=λc g=>c=[⟨gU 11,G,G⟩]/\dE W h g) F75 alb (rs:=[yB 6 31]) rfl ?_) (λ⟨v,g,e,ev,M,w',N,P,R⟩=>⟨g,M,zq ⟨w',N,P,R,by subst ev;exact e⟩⟩) (λ⟨ch,g,e,ec,M⟩=>⟨g,M,zt (by subst ec;exact e)⟩);have l:∀c s,aLn W h c s->s.df=[]/\s.ab=U/\(c=[⟨gU 11,G,G⟩]/\dE W h s.h):=λc s q=>q;refine ax ((aup gW gF w0 w1 lW lF).Mo fP dN bT aP) λo g f=>?_;refine ax ((auq f i (x _)).Mo fP dN bT l) λo g⟨w',f⟩=>?_;refine ax ((aur f (y _)).Mo fP dN bT l) λo g⟨B,f,S⟩=>?_;refine ax ((aus f S j.here.1).Mo fP dN bT aP) λo g⟨f,S,T⟩=>?_;refine ax ((aut f S T i j.here.2.1 (λu X=>hk u (zq X)) (by have:=j.here.2.1;omega)).Mo fP dN bT l) λo g⟨w'',f,hd,T⟩=>?_;have b:=auu (m:=n+1) f hd T i L (λu X=>hk u (zt X)) (by omega);show ay _ _ _ _ (aw Z _ _ jD _);rw[ai1,aqm];refine ax (b.Mo fP dN bT l) λo g⟨d,f⟩=>?_;refine ax ((asC f (by omega)).Mo fP dN bT l) λo g f=>?_;exact(auv f (ala _ a (yL _) ht) (by unfold ao;omega) r H).Mo fP fP bT l
def asD{p:zA->Int}(c:C 75=λ_ _=>U)(d:C 79=nP sx BD)(f:W≠F)
 (g:∀n m,af Z C n (aj 74 [J 11] m)=.p [⟨gU 11,G,G⟩] m U)
 (i:∀t n m,zD t<=65536->af Z C n (aj 76 [D t] m)=.r (aTu [D (aM t),al (bt t)]) m U)
 (j:∀t n m,aI oM t->zD t<=65536->af Z C n (aj 77 [D t,J 0] m)=(qS p (t,0)).bi m):
 ∀(N:Nat)(t:zA),zD t<N->aI oM t->zD t<=65536->∀m,70000*(zD t+1)<=m->AE W A V F (af Z C m) t:=by
 intro N;induction N with
 |zero=>intro t h;omega
 |succ N q=>
  intro t r b l m o;obtain⟨n,rfl⟩:∃n,m=n+2:=⟨m-2,by omega⟩;have e:=En t;have s:=SI (aM t);refine RQ (k:=70000*zD t) c d f g (λn m=>i t n m l) (λn m=>j t n m b l) b l (λu hu m o=>?_) (by omega)
  have a:zD u+1<=zD t/\aI oM u:=by
   rcases hu with hu|hu
   .have:=GL hu;exact⟨by omega,b.head.ld hu⟩
   .have:=GL hu;have:=List.length_pos_of_mem hu;exact⟨by omega,b.args u hu⟩
  exact q u (by omega) a.2 (by omega) m (yd (Nat.mul_le_mul_left _ a.1) o)
end
def F53:Z.f 53=O f53:=by kernel_rfl
def F54:Z.f 54=O f54:=by kernel_rfl
def F55:Z.f 55=O f55:=by kernel_rfl
def F33:Z.f 33=O f33:=by kernel_rfl
def asE{x y:Operand}:fu Z h .neq 20 x y (O (.iface 52 (J e))) (O .nilIface)=.v (zP Y) h:=by kernel_rfl
def asF:rJ Z h 52 Y (Z.u 52) (O (.iface 52 (J e)))=.v (aTu [J e,zP Y]) h:=by kernel_rfl
def anX:aJ Z prog 54 (λ_:Int=>True) (λe=>[gU e]) (λe=>J e):=by intro e _;refine ku (v:=J e) tok cg aW (.Cs (Nn e) .Nl) bJ 1 F54 rfl rfl ?_;simp[gU,asF,Jb,an]
def asG(a:C 53=λ_ _=>U):af Z C (n+2) (.call (bK 53 [pB k,pB m]) [] h U)=.r (aTu []) h U:=by rw[oy _ (by rw[a]),dx (vs:=[]) (h2:=h) (ab:=U) F53 rfl rfl (by simp[f53,HA,an])];rfl
def asH{x:Int}(b:Has C 54 (λ_:Int=>True) (λe=>[gU e]) (λe=>J e))(t:h.b=0)(j:ae h k (ad l 31))(o:I l=5)(p:ae h i (ad [J x] 52))(d:¬i=k):
 af Z C (n+2) (.call (bK 53 [pB k,pB i]) [] h (O [⟨gU e,G,G⟩]))=.r (aTu []) ((h.p k (ad z5 31)).p i (ad [J e] 52)) (O [⟨gU e,Y,G⟩]):=by
 have f:∀n m,af Z C n (aj 54 [.iface 52 (J e)] m)=.r (J e) m U:=λn m=>b.ev (T:=Z) n (x:=e) trivial m;have r:=λ(g:H)(q:ae g k (ad l 31))=>fp (c:=z5) rfl rfl q o;have s:=λ(g:H)(q:ae g i (ad [J x] 52))=>qF (n:=e) q
 have a:∃tm,aw Z (af Z C (n+1)) ⟨53,U⟩ (f53.body.getD we) ⟨bF [pB k,pB i] 0 .Nl,[],h,O [⟨gU e,G,G⟩]⟩=.c .Nr ⟨tm,[],(h.p k (ad z5 31)).p i (ad [J e] 52),O [⟨gU e,Y,G⟩]⟩:=by simp[f53,gU,asE,an,f,jn,j,p,r,s,d]
 let⟨tm,a⟩:=a;rw[G2];show cB Z (af Z C (n+1)) 53 [pB k,pB i] h (O [⟨gU e,G,G⟩]) (Z.f 53)=_;rw[Hb (vs:=[]) F53 rfl rfl (zq rfl) a (by simp[f53])];rfl
def DJ{ty:TypeId}(c:Am.zI Z ty=O 1)(a:ah v=[v])(d:da [v]=Y){g:Bool}(f:ae h k (K [N] t g)):zG Z h ty v (pB k)=O (h.p k (K [v] t g)):=by rw[dY (v:=v) (n:=1) (off:=0) c (by rw[a];rfl) (by rw[a];exact d) f (by show 1<=1;omega)];rw[a];rfl
@[simp] theorem aJe:zero Z 134=O (.map U):=by kernel_rfl
@[simp] theorem aJf:zero Z 135=O (.map U):=by kernel_rfl
@[simp] theorem aJg:zero Z 138=O zj:=by kernel_rfl
@[simp] theorem z78:zero Z 78=O zj:=by kernel_rfl
structure oG(n:Nat)(h:H):Prop where
 b:h.b=n
 w:h.wr=0
 r:h.rd=0
def oG.new(o:oG n h)(x:ai):oG n (h.w x):=by let⟨b,w,r⟩:=o;rw[ib];exact⟨b,w,r⟩
def oG.put{n:Nat}{h:H}(o:oG n h){b:Nat}(hb:n<=b)(x:ai):oG n (h.p b x):=by let⟨e,w,r⟩:=o;rw[H.p,nz,kV,if_pos (by omega)];exact⟨e,w,r⟩
def oG.az(o:oG n h){b:Nat}(hb:n<=b):oG n (h.az b):=by let⟨e,w,r⟩:=o;rw[nv,if_pos (by omega)];exact⟨e,w,r⟩
def auw(g:C 55=λ_ _=>U)(h:H)(k:oG h.n h):∃a,af Z C (n+2) (aj 55 [N] h)=.r (ef (h.n+5) h.n (h.n+7) (h.n+6)) a U/\a.n=h.n+8/\oG h.n a/\
 (∀j,j<h.n->a.g j=h.g j)/\ae a (h.n+5) (ad [J 0] 3)/\ae a (h.n+6) (ad [ef (h.n+5) h.n (h.n+7) (h.n+6)] 78):=by
 have e:∃tm a,aF Z (af Z C (n+1)) 55 (f55.body.getD we) (bF [N] 0 .Nl) h=.c .ret ⟨tm,[],a,U⟩/\aa tm 2 (ef (h.n+5) h.n (h.n+7) (h.n+6))/\a.n=h.n+8/\oG h.n a/\
  (∀j,j<h.n->a.g j=h.g j)/\ae a (h.n+5) (ad [J 0] 3)/\ae a (h.n+6) (ad [ef (h.n+5) h.n (h.n+7) (h.n+6)] 78):=by
  have l:=λ(d:H)(b:Nat)(q:ae d b (ad [(.map U)] 134))(m:Nat)=>DJ (ty:=134) (v:=.map (O m)) (by kernel_rfl) rfl rfl q;have o:=λ(d:H)(b:Nat)(q:ae d b (ad [(.map U)] 135))(m:Nat)=>DJ (ty:=135) (v:=.map (O m)) (by kernel_rfl) rfl rfl q;have p:=λ(d:H)(b:Nat)(q:ae d b (ad [J 0] 3))=>J6 (n:=0) q;have r:=λ(d:H)(b:Nat)(q:ae d b (ad [zj] 138))(f:Fn)(x y:Array E)=>DJ (ty:=138) (v:=zU f x y) (by kernel_rfl) rfl rfl q;have s:=λ(d:H)(b:Nat)(q:ae d b (ad [zj] 78))(f:Fn)(x y:Array E)=>DJ (ty:=78) (v:=zU f x y) (by kernel_rfl) rfl rfl q;have X:=λ(c:List E)(i:Nat)=>IT c i;simp[f55,ZL,show∀m,ah (.map m)=[.map m] from λ_=>rfl,show ah zj=[zj] from rfl,l,o,p,r,s,IT];refine⟨_,_,⟨rfl,rfl⟩,by simp,by simp,?_,λj hj=>?_,by simp,by simp⟩
  .refine oG.az (.put (.put (.new (.new (.put (.new (.put (.put (.new (.new (.new (.new (.new k _) _) _) _) _) ?_ _) ?_ _) _) ?_ _) _) _) ?_ _) ?_ _) ?_<;>omega
  .have t:¬j=h.n:=by omega
   have u:¬j=h.n+1:=by omega
   have w:¬j=h.n+1+1:=by omega
   have A:¬j=h.n+1+1+1:=by omega
   have B:¬j=h.n+1+1+1+1:=by omega
   have F:¬j=h.n+1+1+1+1+1:=by omega
   have L:¬j=h.n+1+1+1+1+1+1:=by omega
   have M:¬j=h.n+1+1+1+1+1+1+1:=by omega
   simp[t,u,w,A,B,F,L,M]
 let⟨tm,a,e,P,Q,R,S,T,V⟩:=e;refine⟨a,?_,Q,R,S,T,V⟩
 have W:AL Z [yx 2] [ef (h.n+5) h.n (h.n+7) (h.n+6)] a U (aF Z (af Z C (n+1)) 55 (f55.body.getD we) (bF [N] 0 .Nl) h):=by rw[e];simp[AL,P]
 rw[ll _ (by rw[g]),dx (vs:=[ef (h.n+5) h.n (h.n+7) (h.n+6)]) (h2:=a) (ab:=U) F55 rfl rfl W];rfl
end Go.Proofs.YtpeialehpoilbaaGreat
namespace Go.Am
def No{a:Nat}{y:aG}:∀{l:List aG},(∀x∈l,aN a x.i=Y)->fe a y l=Y
 |[],_=>rfl
 |x::l,h=>by rw[x6,No (λx q=>h x (by simp[q]))];unfold apart;rw[h x (by simp)];rfl
def ZQ{a:Nat}{y:aG}:∀{l:List aG},(∀x∈l,apart a y x=Y)->fe a y l=Y
 |[],_=>rfl
 |x::l,h=>by rw[x6,ZQ (λx q=>h x (by simp[q])),h x (by simp)];rfl
def ai2(h:j<n):dV (dr n m) (bit j)=Y:=by
 unfold dV;apply ek;apply Nat.eq_of_testBit_eq;intro x;show(dr n m&&&bit j).testBit x=_;rw[Nat.testBit_and];cases h1:(dr n m).testBit x with
 |false=>simp
 |true=>
  cases d:(bit j).testBit x with
  |false=>simp
  |true=>
   have q:=(xy n m x).1 h1;have:=mL d;omega
def Ye{p a:Nat}:∀{l:List aG},(∀x∈l,x.i=p\/aN a x.i=Y)->gh p a l=Y
 |[],_=>rfl
 |x::l,h=>by
  show cond (calm p a x) (gh p a l) G=Y;rw[Ye (λx q=>h x (by simp[q]))];unfold calm;rcases h x (by simp)with q|q
  .rw[q,ek rfl];rfl
  .rw[q];cases zV x.i p<;>rfl
namespace Sym
variable{T:au}{ev:zC->ag}
section
variable(bs:Tr Nat)(i:Nat)(l:List aG)(tm:Tr E)(df:List zc)(h:H)(ab:Option (List zO))(k:List aG->S->ag)
def back(h a:H):H:=⟨a.m,a.n,h.b,h.rd,h.wr⟩
@[simp] theorem aFp:(back h g).g n=g.g n:=rfl
@[simp] theorem aDp:(back h g).n=g.n:=rfl
@[simp] theorem aDq:(back h g).b=h.b:=rfl
def anY(d:H)(e:h.b=0)(s:∀x∈l,aN (aE bs i) x.i=Y):∃g,(∀x∈g,x∈l\/x.i=i)/\gG k bs l i tm df h ab d=k g ⟨tm,df,back h d,ab⟩:=by
 let⟨j,a,b1,c,b⟩:=d;let⟨m,n,t,o,p⟩:=h;have e:t=0:=e;subst e;by_cases r:cond (zV c 0) (zV (zi b (dr n a)) 0) G=Y
 .refine⟨l,λx q=>zq q,?_⟩;show kw (λf=>mf k 0 o p bs l i tm df ab j a c b f) (zi b (dr n a))=_;rw[kr];unfold mf;rw[r];rfl
 .refine⟨⟨i,c,zi b (dr n a)⟩::l,λx q=>?_,?_⟩
  .rcases zp.1 q with rfl|q
   .exact zt rfl
   .exact zq q
  show kw (λf=>mf k 0 o p bs l i tm df ab j a c b f) (zi b (dr n a))=_;rw[kr];unfold mf;rw[eq_false_of_ne_true r,cond_false,No s,cond_true];rfl
def Np{bs:Tr Nat}{i:Nat}{l:List aG}{tm:Tr E}{df:List zc}{h :H}{ab:Option (List zO)}{k:List aG->S->ag}{N R:S->Prop}{X:Nat->S->Prop}{Q:List zO->S->Prop}(b:h.b=0)(c:∀x∈l,aN (aE bs i) x.i=Y)
 (d:∀a,(∀x∈a,x∈l\/x.i=i)->ay N R X Q (k a ⟨tm,df,back h g,ab⟩)):ay N R X Q (gG k bs l i tm df h ab g):=by
 let⟨a,q,e⟩:=anY bs i l tm df h ab k g b c;rw[e];exact d a q
def anZ(a:H)(c:h.b=0)(d:a.rd=0)(e:a.wr=0)(f:fe (aE bs i) ⟨i,0,dr h.n a.n⟩ l=Y):∃j,(∀x∈j,x∈l\/x=⟨i,0,dr h.n a.n⟩)/\gG k bs l i tm df h ab a=k j ⟨tm,df,back h a,ab⟩:=by
 let⟨o,b,b1,r1,w1⟩:=a;let⟨m,n,t,p,r⟩:=h;have c:t=0:=c;subst c;have d:r1=0:=d;subst d;have e:w1=0:=e;subst e;by_cases s:cond (zV 0 0) (zV (zi 0 (dr n b)) 0) G=Y
 .refine⟨l,λx q=>zq q,?_⟩;show kw (λg=>mf k 0 p r bs l i tm df ab o b 0 0 g) (zi 0 (dr n b))=_;rw[kr];unfold mf;rw[s];rfl
 .refine⟨⟨i,0,dr n b⟩::l,λx q=>?_,?_⟩
  .rcases zp.1 q with rfl|q
   .exact zt rfl
   .exact zq q
  show kw (λg=>mf k 0 p r bs l i tm df ab o b 0 0 g) (zi 0 (dr n b))=_;rw[kr];unfold mf;rw[eq_false_of_ne_true s,cond_false,qz];have f:fe (aE bs i) ⟨i,0,dr n b⟩ l=Y:=f;rw[f,cond_true];rfl
end
end Sym
end Go.Am
namespace Go.Proofs.YtpeialehpoilbaaGreat
def ZR:f33.body=O (zS (z f33 pF0) (zS (z f33 pF1) (zS (z f33 pF2) sw))):=rfl
def Dl:Array Oper:=bq (z f33 pF2)
def aqn:z f33 pF2=yM 2 Dl Y:=rfl
def r8:Tr Nat:=bj Dl.toList 0 .Nl
def aqo:(aN (aE r8 3) 1&&aN (aE r8 3) 2&&aN (aE r8 4) 1&&aN (aE r8 4) 2&&aN (aE r8 4) 3&&aN (aE r8 5) 1&&aN (aE r8 5) 2&&aN (aE r8 5) 3&&aN (aE r8 5) 4)=Y:=by kernel_rfl
structure WO(t:zA)(tm:Tr E)(h:H):Prop where
 b:h.b=0
 nx:3<=h.n
 g0:ae h 0 (ad (ah (D t)) 31)
 g1:ae h 1 (ad z5 31)
 g2:ae h 2 (ad [J 0] 52)
 t3:aa tm 3 (pB 0)
 t4:aa tm 4 (pB 1)
 t5:aa tm 5 (pB 2)
section
variable{ev:zC->ag}{t:zA}{tm:Tr E}{h:H}{df:List zc}{mv:E}
def asI(Q:WO t tm h)(R:tm.g 0=O mv)
 (d:∀h:H,oG h.n h->∃g,ev (aj 55 [mv] h)=.r (ef (h.n+5) h.n (h.n+7) (h.n+6)) g U/\g.n=h.n+8/\oG h.n g/\
   (∀j,j<h.n->g.g j=h.g j)/\g.g (h.n+5)=O (K [J 0] 3 G)/\g.g (h.n+6)=O (K [ef (h.n+5) h.n (h.n+7) (h.n+6)] 78 G))
 (p:∀W A V F,W≠F->AE W A V F ev t):
 ay (λs=>s.df=df/\s.ab=U/\s.h.b=0/\s.h.g 1=O (K (ah (D t)) 31 G)/\s.h.g 2=O (K [J 0] 52 G)/\s.tm.g 4=O (pB 1)/\s.tm.g 5=O (pB 2)) (λ_=>False) (λ_ _=>False)
  (λc s=>s.df=df/\s.ab=U/\c=[⟨gU 11,G,G⟩]/\s.h.b=0/\s.h.g 1=O (K z5 31 G)/\s.h.g 2=O (K [J 0] 52 G)/\s.tm.g 4=O (pB 1)/\s.tm.g 5=O (pB 2)) (jN Z ev ⟨33,U⟩ Dl Y ⟨tm,df,h,U⟩):=by
 let⟨b,nx,g0,g1,g2,t3,t4,t5⟩:=Q;rw[dJ];have C:=aqo;simp only[zX]at C;let⟨⟨⟨⟨⟨⟨⟨⟨S,T⟩,X⟩,b42⟩,r⟩,b51⟩,b52⟩,u⟩,b54⟩:=C;have e:bj Dl.toList 0 .Nl=r8:=rfl;rw[e];generalize r8=bs at*;let⟨f,d,L,M,i,gW,gF⟩:=d h.f ⟨by simp,by rw[fm],by rw[fm]⟩;simp[Dl,bq,z,f33,R,d];let⟨v,n,e1⟩:=anZ bs 1 [] ((tm.s 7 mv).s 8 (ef (h.n+5) h.n (h.n+7) (h.n+6))) df h U (oo Z ev Dl bs (Dl.toList.drop 2) 2) f b M.r M.w rfl
 have n:∀x∈v,x=⟨1,0,dr h.n f.n⟩:=λx a=>by
  rcases n x a with q|q
  .simp at q
  .exact q
 refine cast (congrArg (ay _ _ _ _) e1.symm) ?_;have L:f.n=h.n+8:=by simpa using L
 have i:∀j,j<h.n->f.g j=h.g j:=λj hj=>by simpa using i j (by simpa using hj)
 have ha:fe (aE bs 2) ⟨2,bit 0,0⟩ v=Y:=ZQ λx a=>by rw[n x a];unfold apart;rw[cO,cO,ai2 (by omega)];cases aN (aE bs 2) 1<;>rfl
 have l0:0<f.n:=by omega
 simp[Dl,bq,z,f33,t3,b,i 0 (by omega),g0];refine cast (congrArg (ay _ _ _ _) (A9 (h:=back h f) b l0 ha).symm) ?_;simp
 have o:∀x∈(⟨2,bit 0,0⟩::v:List aG),x.i=1\/x.i=2:=λx a=>by
  rcases zp.1 a with q|q
  .rw[q];exact zt rfl
  .rw[n x q];exact zq rfl
 let⟨w,y,k⟩:=p (h.n+5) h.n (h.n+7) (h.n+6) (by omega) (back h f).f 0 (by simpa using gW) (by simpa using gF) (by decide) (by decide) (by simp;omega) (by simp;omega);have l:w.g 1=O (K z5 31 G):=by rw[y.get 1 (by simp;omega) (by omega)];simp[i 1 (by omega),g1]
 have m:w.g 2=O (K [J 0] 52 G):=by rw[y.get 2 (by simp;omega) (by omega)];simp[i 2 (by omega),g2]
 have l3:3<=w.n:=by have:=y.le;simp at this;omega
 rcases k with⟨w',Qq,Qr,Qs,k⟩|k
 .rw[k,Zf];refine Np b (λx a=>by rcases o x a with q|q<;>rw[q]<;>assumption) λN B=>?_
  have P:∀x∈N,x.i=1\/x.i=2\/x.i=3:=λx a=>by
   rcases B x a with q|q
   .rcases o x q with q|q
    .exact zq q
    .exact zt (zq q)
   .exact zt (zt q)
  simp[t4,l];refine Np b (λx a=>by rcases P x a with q|q|q<;>rw[q]<;>assumption) λl5 q5=>?_
  have i5:∀x∈l5,x.i=1\/x.i=2\/x.i=3\/x.i=4:=λx a=>by
   rcases q5 x a with q|q
   .rcases P x q with q|q|q
    .exact zq q
    .exact zt (zq q)
    .exact zt (zt (zq q))
   .exact zt (zt (zt q))
  simp[t5,m];refine Np b (λx a=>by rcases i5 x a with q|q|q|q<;>rw[q]<;>assumption) λl6 q6=>?_;simp;exact⟨b,t4,t5⟩
 .rw[k,Zg];refine Np b (λx a=>by rcases o x a with q|q<;>rw[q]<;>assumption) λN B=>?_;simp[ol,r,u]
  rw[rM (hc:=Ye (λx a=>by
   rcases B x a with q|q
   .rcases o x q with q|q<;>rw[q]<;>right<;>assumption
   .exact zq q))]
  simp;exact⟨b,by simp[l],by simp[m],by simp[t4],by simp[t5]⟩
end
end Go.Proofs.YtpeialehpoilbaaGreat
namespace Go.Am
def an0{b N2 d R2:S->Prop}{P1 e:List zO->S->Prop}{a:ag}(h:ay b d ap e a):ay b d ap P1 a\/ay N2 R2 ap e a:=by
 rcases h.cases with⟨s,rfl,q⟩|⟨s,rfl,q⟩|⟨_,_,_,q⟩|⟨c,s,rfl,q⟩
 .exact zq q
 .exact zq q
 .exact q.elim
 .exact zt q
end Go.Am
namespace Go.Am.Eu
def Aw(x:E×zA):Prop:=bH x.1/\aI oM x.2/\zD x.2<=60000
end Go.Am.Eu
namespace Go.Proofs.YtpeialehpoilbaaGreat
abbrev AF:List E:=[pB 1,pB 2]
def adg{c:List E}(a:h.b=0)(b:ae h 1 (ad c 31))(d:I c=5)(f:ae h 2 (ad [J e] 52))(g:aa r 4 (pB 1))(i:aa r 5 (pB 2)):
 fw U (Am.zJ Z r [yB 4 31,yB 5 52] h)=.r (aTu [aAg c,J e]) h U:=by
 have p:=fh d;simp[g,i,a,b,f,p];rfl
def ai3(x:E×zA)(hx:Aw x)(j:zA->Int)(k:aJ Z prog 120 (aI lP) (λt=>[D t]) (λt=>J (j t))):
 (∀h,bP Z prog (zU (za 33) #[] #[]) [x.1,D x.2] h U (.r (cj (x.2,0)) h U))\/∀h,bP Z prog (zU (za 33) #[] #[]) [x.1,D x.2] h U (.r (cj (zT,11)) h U):=by
 let⟨l,t⟩:=x;let⟨hp,o,hn⟩:=hx;have o:aI oM t:=o;have hn:zD t<=60000:=hn
 obtain⟨C,hC,q,u,v,w,B,L,M,N⟩:∃C,aR Z prog C/\bS C 74 (λ_:Int=>True) (λe=>[J e]) (λe=>.aU (gU e))/\Has C 76 (λt=>zD t<1073741824) (λt=>[D t]) (λt=>aTu [D (aM t),al (bt t)])/\
  bS C 77 (λx:zA×Int=>KC x.1) (λx=>[D x.1,J x.2]) (qS j)/\C 79=nP sx BD/\Has C 54 (λ_:Int=>True) (λe=>[gU e]) (λe=>J e)/\C 55=(λ_ _=>U)/\C 75=(λ_ _=>U)/\C 53=(λ_ _=>U):=by
  refine⟨_,aZ (MX (jL (aZ (jL aW acv) NY) (ak9 k)) asB) anX,?_,?_,?_,rfl,?_,rfl,rfl,rfl⟩
  .exact bS.skip (by decide) (bS.skip (by decide) (bS.skip (by decide) (bS.skip (by decide) (bS.add λx y _ _ e=>(by simp at e;rw[e])))))
  .exact Has.Sk (by decide) (Has.Sk (by decide) (Has.Sk (by decide) (Has.Ad λx y e=>(by simp at e;rw[cf e]))))
  .exact bS.skip (by decide) (bS.skip (by decide) (bS.add λx y _ _ e=>(by let⟨x1,x2⟩:=x;let⟨y1,y2⟩:=y;simp at e;rw[cf e.1,e.2])))
  .exact Has.Ad λx y e=>(by simp at e;rw[e])
 have P:∀n m,af Z C n (aj 74 [J 11] m)=.p [⟨gU 11,G,G⟩] m U:=λn m=>q.ev (T:=Z) n (x:=11) trivial m;have Q:∀t n m,zD t<=65536->af Z C n (aj 76 [D t] m)=.r (aTu [D (aM t),al (bt t)]) m U:=λt n m h=>u.ev (T:=Z) n (x:=t) (by omega) m;have S:∀t n m,aI oM t->zD t<=65536->af Z C n (aj 77 [D t,J 0] m)=(qS j (t,0)).bi m:=λt n m h1 h2=>v.ev (T:=Z) n (x:=(t,0)) ⟨oM.ng h1,by unfold ao;show zD t<_;omega⟩ m;have p:=fh (c:=z5) rfl
 have X:ay (o3 Z (af Z C (70000*(zD t+1)+2)) [yB 4 31,yB 5 52] 53 AF (cj (t,0))) (o3 Z (af Z C (70000*(zD t+1)+2)) [yB 4 31,yB 5 52] 53 AF (cj (t,0))) ap (CU Z (af Z C (70000*(zD t+1)+2)) [yB 4 31,yB 5 52] 53 AF (cj (zT,11)))
  (aF Z (af Z C (70000*(zD t+1)+3)) 33 (zS (z f33 pF0) (zS (z f33 pF1) (zS (z f33 pF2) sw))) (bF [l,D t] 0 .Nl) H.e):=by
  refine ax (Q0:=λa h=>WO t a h/\aa a 0 l) ?_ λa h⟨st,t0⟩=>?_
  .simp[z,f33];exact .mk ⟨⟨by simp,by simp,by simp,by simp,by simp,by simp,by simp,by simp⟩,by simp⟩
  refine iw (N':=js (lK 53 AF) λa h=>WO t a h/\aa a 0 l) ?_ λs hs=>?_
  .let⟨b,nx,g0,g,i,t3,d,f⟩:=st;simp[z,f33,d,f];exact .mk ⟨⟨b,nx,g0,g,i,by simp[t3],by simp[d],by simp[f]⟩,by simp[t0]⟩
  obtain⟨a,h,rfl,st,t0⟩:=hs.elim;rw[aqn];have R:=asI (ev:=af Z C (70000*(zD t+1)+3)) (df:=lK 53 AF) st t0 (λh ho=>auw L h ho) (λW A V F DM=>asD M w DM P Q S _ t (yL _) o (by omega) _ (by omega));refine iw (R.Mo fP dN bT ?_) ?_
  .rintro c ⟨a,df,h,ab⟩ ⟨rfl,rfl,rfl,b,g,i,d,f⟩;have b:h.b=0:=b;exact⟨rfl,rfl,_,_,_,_,_,asH B b g rfl i (by decide),rfl,adg (c:=z5) (e:=11) (by simp[b]) (by simp) rfl (by simp) d f,.Tt (.Cs (rS _) ka)⟩
  .rintro⟨a,df,h,ab⟩ ⟨rfl,rfl,b,g,i,d,f⟩;have b:h.b=0:=b;have g:h.g 1=_:=g;have i:h.g 2=_:=i;have d:aa a 4 (pB 1):=d;have f:aa a 5 (pB 2):=f;have p:=fh (c:=ah (D t)) (by rw[dP];rfl);have e:(aAg (ah (D t)):E)=D t:=by rw[dP,eD]
   refine⟨rfl,rfl,_,_,_,_,asG N,adg b g (by rw[dP];rfl) i d f,?_⟩
   .rw[e];exact .Tt (.Cs (.Pu (bg t)) ka)
 rcases an0 (N2:=o3 Z (af Z C (70000*(zD t+1)+2)) [yB 4 31,yB 5 52] 53 AF (cj (zT,11))) (R2:=o3 Z (af Z C (70000*(zD t+1)+2)) [yB 4 31,yB 5 52] 53 AF (cj (zT,11))) (P1:=CU Z (af Z C (70000*(zD t+1)+2)) [yB 4 31,yB 5 52] 53 AF (cj (t,0))) X with r|r
 .exact zq (GU (gd:=53) (cap:=AF) tok C hC (.Cs hp (.Cs (bg t) .Nl)) _ F33 ZR rfl r)
 .exact zt (GU (gd:=53) (cap:=AF) tok C hC (.Cs hp (.Cs (bg t) .Nl)) _ F33 ZR rfl r)
def asJ:∃a:E×zA->zA×Int,aJ Z prog 33 Aw (λx=>[x.1,D x.2]) (λx=>cj (a x))/\∀x,a x=(x.2,0)\/a x=(zT,11):=by
 classical
 let⟨c,b⟩:=aaC;refine⟨λx=>if∀h,bP Z prog (zU (za 33) #[] #[]) [x.1,D x.2] h U (.r (cj (x.2,0)) h U)then(x.2,0)else(zT,11),λx d h=>?_,λx=>?_⟩
 .rcases ai3 x d c b with r|r
  .show bP _ _ _ _ _ _ (.r (cj (if _ then _ else _)) h U)
   rw[if_pos r];exact r h
  .by_cases q:∀h,bP Z prog (zU (za 33) #[] #[]) [x.1,D x.2] h U (.r (cj (x.2,0)) h U)
   .show bP _ _ _ _ _ _ (.r (cj (if _ then _ else _)) h U)
    rw[if_pos q];exact q h
   .show bP _ _ _ _ _ _ (.r (cj (if _ then _ else _)) h U)
    rw[if_neg q];exact r h
 .dsimp only;split
  .exact zq rfl
  .exact zt rfl
def LI(x:List zB×ByteArray):Prop:=nA x.1/\∃e,fM x.2 0 x.1=O e/\e.params=0/\aI Wn e.type
def nk(x:List zB×ByteArray):zA:=match fM x.2 0 x.1 with|some e=>e.type|none=>zT
def F117:Z.f 117=O f117:=by kernel_rfl
end Go.Proofs.YtpeialehpoilbaaGreat
namespace Go.Am.Eu
abbrev bR:ByteArray:=⟨#[116,104,101,46,108,97,115,116,46,105,110,115,116,97,110,99,101]⟩
def eR:zA:=.mk 3 0 bR [] []
end Go.Am.Eu
namespace Go.Proofs.YtpeialehpoilbaaGreat
section
def T1:ag->Bool
 |.r (zL U 0 0) _ U=>Y
 |_=>G
def ale{a:ag}(h:T1 a=Y):∃m,a=.r (zL U 0 0) m U:=by
 unfold T1 at h;split at h
 .exact⟨_,rfl⟩
 .cases h
def T2:ag->Bool
 |.r (.agg ⟨[.int zx 3,.int zx 0,zN s,zU (.via 0 p 0 G) ⟨[]⟩ ⟨[]⟩,zU (.via 0 q 0 G) ⟨[]⟩ ⟨[]⟩]⟩) _ U=>yF (s=bR)&&p.isEmpty&&q.isEmpty
 |_=>G
def alf{a:ag}(h:T2 a=Y):∃m,a=.r (D eR) m U:=by
 unfold T2 at h;split at h
 .rename_i s p q m;simp only[zX,decide_eq_true_eq,Array.isEmpty_iff]at h;let⟨⟨h1,b⟩,c⟩:=h;subst h1;subst b;subst c;exact⟨m,by rw[eR,By];rfl⟩
 .cases h
def aqp:aJ Z prog 101 (λ_:Unit=>True) (λ_=>[al [],D eR]) (λ_=>D eR):=by intro _ _ a;let⟨m,e⟩:=alf (show T2 (cB Z (af Z cg 400) 101 [al [],D eR] H.e U (Z.f 101))=Y by kernel_rfl);exact CK tok cg aW (.Cs (fb _) (.Cs (bg _) .Nl)) _ e (.Pu (bg _)) a
end
section
def F188:Z.f 188=O f188:=by kernel_rfl
def F187:Z.f 187=O f187:=by kernel_rfl
def Tp:ag->Bool
 |.r (zP Y) _ U=>Y
 |_=>G
def ai4{a:ag}(h:Tp a=Y):∃m,a=.r (zP Y) m U:=by
 unfold Tp at h;split at h
 .exact⟨_,rfl⟩
 .cases h
def alg:aJ Z prog 221 (λ_:Unit=>True) (λ_=>[fq [],fq []]) (λ_=>zP Y):=by intro _ _ a;let⟨m,e⟩:=ai4 (show Tp (cB Z (af Z cg 400) 221 [fq [],fq []] H.e U (Z.f 221))=Y by kernel_rfl);exact CK tok cg aW (.Cs (.data _ _ _ _ .Nl) (.Cs (.data _ _ _ _ .Nl) .Nl)) _ e eI a
def alh:aJ Z prog 188 (λl:aB=>l.v=[]) (λl=>[aT l,aT l]) (λ_=>zP Y):=by rintro⟨c,d⟩ b e;have b:d=[]:=b;subst b;obtain⟨C,f,k⟩:∃C,aR Z prog C/\Has C 221 (λ_:Unit=>True) (λ_=>[fq [],fq []]) (λ_=>zP Y):=⟨_,aZ aW alg,Has.Ad λ_ _ _=>rfl⟩;have a:∀n m,af Z C n (aj 221 [fq [],fq []] m)=.r (zP Y) m U:=λn m=>k.ev (T:=Z) n (x:=()) trivial m;refine jf tok C f (.Cs (kR _) (.Cs (kR _) .Nl)) 1 F188 rfl rfl ?_ e;show ay (bG Z [yx 4] _ (.ret (zP Y))) (bG Z [yx 4] _ (.ret (zP Y))) _ _ _;simp[a];exact bG.Pu bJ (by simp)
def HP:yG:=z f187 pF2
def HQ:yG:=ak [Y,G,G] HP
def ai5:f187.body=O (zS (z f187 pF0) (zS (z f187 pF1) (zS (zS (ak [G] HP) (zv 0 (yb HQ))) (z f187 pT3)))):=rfl
structure K1(l:List aB)(i:Nat)(tm:Tr E)(h:H):Prop where
 b:h.b=0
 t1:aa tm 1 (aO l)
 t2:aa tm 2 (zU (za 188) #[] #[])
 t15:aa tm 15 (aO l)
 t16:aa tm 16 (J (I l:Nat))
 t17:aa tm 17 (J (i:Nat))
def ali{l:List aB}(e:K1 l i r h)(c:i<I l)(g:I l<ao)(a:∀m,V (aj 188 [aT l[i],aT l[i]] m)=.r (zP Y) m U):
 ay (bB λr h=>K1 l (i+1) r h) ca ap ap (aF Z V 187 HQ r h):=by
 let⟨b,t1,t2,t15,t16,t17⟩:=e;have d:=dA (n:=i+1) (by omega);simp at d;have f:=λ(h:H)=>aan (h:=h) (l:=l) (k:=zx) c;simp[HQ,HP,z,f187,t1,t2,t15,t16,t17,c,f,a,d,b,an];exact .mk ⟨by simp[b],by simp[t1],by simp[t2],by simp[t15],by simp[t16],by simp⟩
def an1{l:List aB}(a:K1 l i r h)(c:¬i<I l):
 ay ca ca (λj s=>j=0/\bB (λ_ h=>h.b=0) s) ap (aF Z V 187 HQ r h):=by
 let⟨b,t1,t2,t15,t16,t17⟩:=a;simp[HQ,HP,z,f187,t16,t17,c,an];exact .mk b
def asK{l:List aB}(o:I l<ao)(d:∀n m x,x∈l->af Z C n (aj 188 [aT x,aT x] m)=.r (zP Y) m U)(n:Nat)(t:I l<=n):
 ay (bG Z [yx 6] (λh=>h.g) (.ret (zP Y))) (bG Z [yx 6] (λh=>h.g) (.ret (zP Y))) ap ap (aF Z (af Z C (n+1)) 187 (zS (z f187 pF0) (zS (z f187 pF1) (zS (zS (ak [G] HP) (zv 0 (yb HQ))) (z f187 pT3)))) (bF [aO l,aO l,zU (za 188) #[] #[]] 0 .Nl) H.e):=by
 refine ax (Q0:=λa h=>h.b=0/\aa a 0 (aO l)/\aa a 1 (aO l)/\aa a 2 (zU (za 188) #[] #[])) ?_ λa h⟨b,e,f,k⟩=>?_
 .simp[z,f187];exact .mk ⟨by simp,by simp,by simp,by simp⟩
 refine ax (Q0:=λa h=>h.b=0/\aa a 0 (aO l)/\aa a 1 (aO l)/\aa a 2 (zU (za 188) #[] #[])) ?_ λa h⟨b,e,f,k⟩=>?_
 .simp[z,f187,e,f,an];exact .mk ⟨b,by simp[e],by simp[f],by simp[k]⟩
 refine ax (Q0:=λa h=>h.b=0) ?_ λa h b=>?_
 .refine ax (Q0:=λa h=>K1 l 0 a h) ?_ λa h g=>?_
  .simp[HP,z,f187,e];exact .mk ⟨b,by simp[f],by simp[k],by simp,by simp,by simp⟩
  .refine pE 0 (λj s=>∃i:Nat,j=I l-i/\i<=I l/\bB (K1 l i) s) (I l) ⟨0,by omega,by omega,.mk g⟩ (by omega) ?_;rintro j s m ⟨i,rfl,u,p⟩ _;obtain⟨a,h,rfl,g⟩:=p.elim;by_cases c:i<I l
   .exact(ali g c o (λr=>d m r _ (zW c))).Mo (λs q=>⟨I l-(i+1),by omega,i+1,rfl,c,q⟩) dN aP aP
   .exact(an1 g c).Mo dN dN bT aP
 .simp[z,f187];exact bG.Pu bJ (by simp)
def alj:aJ Z prog 187 (λl:List aB=>I l<ao/\∀x∈l,x.v=[]) (λl=>[aO l,aO l,zU (za 188) #[] #[]]) (λ_=>zP Y):=by rintro l ⟨a,b⟩ c;obtain⟨C,d,k⟩:∃C,aR Z prog C/\Has C 188 (λl:aB=>l.v=[]) (λl=>[aT l,aT l]) (λ_=>zP Y):=⟨_,aZ aW alh,Has.Ad λ_ _ _=>rfl⟩;refine jf tok C d (.Cs (jM l) (.Cs (jM l) (.Cs (bH.func 188 .Nl .Nl) .Nl))) (I l) F187 ai5 rfl ?_ c;exact asK a (λn m x e=>k.ev (T:=Z) n (x:=x) (b x e) m) _ (zR _)
def HR:yG:=z f160 pF2
def HS:yG:=ak [Y,G,G] HR
def ai6:f160.body=O (zS (z f160 pF0) (zS (z f160 pF1) (zS (zS (ak [G] HR) (zv 0 (yb HS))) (z f160 pT3)))):=rfl
structure K2(l:List zA)(i:Nat)(tm:Tr E)(h:H):Prop where
 b:h.b=0
 t1:aa tm 1 (al l)
 t2:aa tm 2 (zU (za 161) #[] #[])
 t15:aa tm 15 (al l)
 t16:aa tm 16 (J (I l:Nat))
 t17:aa tm 17 (J (i:Nat))
def alk{l:List zA}(e:K2 l i r h)(c:i<I l)(g:I l<ao)(a:∀m,V (aj 161 [D l[i],D l[i]] m)=.r (zP Y) m U):
 ay (bB λr h=>K2 l (i+1) r h) ca ap ap (aF Z V 160 HS r h):=by
 let⟨b,t1,t2,t15,t16,t17⟩:=e;have d:=dA (n:=i+1) (by omega);simp at d;have f:=λ(h:H)=>nu (h:=h) (l:=l) (k:=zx) c;simp[HS,HR,z,f160,t1,t2,t15,t16,t17,c,f,a,d,b,an];exact .mk ⟨by simp[b],by simp[t1],by simp[t2],by simp[t15],by simp[t16],by simp⟩
def an2(a:K2 y i r h)(c:¬i<I y):
 ay ca ca (λj s=>j=0/\bB (λ_ h=>h.b=0) s) ap (aF Z V 160 HS r h):=by
 let⟨b,t1,t2,t15,t16,t17⟩:=a;simp[HS,HR,z,f160,t16,t17,c,an];exact .mk b
def asL(o:I y<ao)(d:∀n m x,x∈y->af Z C n (aj 161 [D x,D x] m)=.r (zP Y) m U)(n:Nat)(t:I y<=n):
 ay (bG Z [yx 6] (λh=>h.g) (.ret (zP Y))) (bG Z [yx 6] (λh=>h.g) (.ret (zP Y))) ap ap (aF Z (af Z C (n+1)) 160 (zS (z f160 pF0) (zS (z f160 pF1) (zS (zS (ak [G] HR) (zv 0 (yb HS))) (z f160 pT3)))) (bF [al y,al y,zU (za 161) #[] #[]] 0 .Nl) H.e):=by
 refine ax (Q0:=λa h=>h.b=0/\aa a 0 (al y)/\aa a 1 (al y)/\aa a 2 (zU (za 161) #[] #[])) ?_ λa h⟨b,e,f,k⟩=>?_
 .simp[z,f160];exact .mk ⟨by simp,by simp,by simp,by simp⟩
 refine ax (Q0:=λa h=>h.b=0/\aa a 0 (al y)/\aa a 1 (al y)/\aa a 2 (zU (za 161) #[] #[])) ?_ λa h⟨b,e,f,k⟩=>?_
 .simp[z,f160,e,f,an];exact .mk ⟨b,by simp[e],by simp[f],by simp[k]⟩
 refine ax (Q0:=λa h=>h.b=0) ?_ λa h b=>?_
 .refine ax (Q0:=λa h=>K2 y 0 a h) ?_ λa h g=>?_
  .simp[HR,z,f160,e];exact .mk ⟨b,by simp[f],by simp[k],by simp,by simp,by simp⟩
  .refine pE 0 (λj s=>∃i:Nat,j=I y-i/\i<=I y/\bB (K2 y i) s) (I y) ⟨0,by omega,by omega,.mk g⟩ (by omega) ?_;rintro j s m ⟨i,rfl,u,p⟩ _;obtain⟨a,h,rfl,g⟩:=p.elim;by_cases c:i<I y
   .exact(alk g c o (λr=>d m r _ (zW c))).Mo (λs q=>⟨I y-(i+1),by omega,i+1,rfl,c,q⟩) dN aP aP
   .exact(an2 g c).Mo dN dN bT aP
 .simp[z,f160];exact bG.Pu bJ (by simp)
end
end Go.Proofs.YtpeialehpoilbaaGreat
