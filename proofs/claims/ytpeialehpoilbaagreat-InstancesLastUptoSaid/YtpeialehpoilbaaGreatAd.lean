/- A part of the proof of InstancesLastUptoSaid: see the last text. -/
import Derived.Test.YtpeialehpoilbaaGreatAc
set_option linter.all false
noncomputable section
set_option maxRecDepth 100000
open Bool renaming false->G,true->Y,and_eq_true->zX
open Classical renaming choose->yE,choose_spec->zk
open Go.Am.ai renaming cells->K
open Go renaming Code->yG,Func->xZ,FuncId->zZ,Program->zo,Value->E,TypeId->zQ,World->zu,Deferred->zc,PanicEntry->zO,ResultVar->yR
open Go.Code renaming seq->zS
open Go.Fn renaming func->za,yield->yc
open Go.Value renaming func->zU,agg->yu,pointer->zM,slice->zL
open List renaming length->I,getElem?_eq_getElem->zm,getElem_mem->zW,length_append->yD,mem_iff_getElem->yk,mem_cons->zp,append_nil->ye,drop_zero->yY,length_cons->yo,length_nil->sW,mem_map->xp,nil_append->xB,take_append->sH,take_of_length_le->yI,mem_of_mem_take->vV,take_append_drop->xO
open Option renaming none->U,some->O
open Or renaming inl->zq,inr->zt
open Go.Obj renaming cells->yP
open Nat renaming le_refl->zR,not_lt_zero->x9,add_zero->xP,le_trans->yd,zero_mul->u4,add_assoc->yp,le_of_not_lt->sU,add->zl,add_sub_cancel->tn,beq->zV,ble->ze,ble_eq_true_of_le->zb,le_of_ble_eq_true->wb,mul->z7,succ_mul->xS,zero_add->xF,lor->zi
open Array renaming getElem?_eq_some_iff->zd
open Go.Deferred renaming ofValue->yr
open Go.Target renaming collected->xV
open Go
variable{n k m i j:Nat}
variable{h g:Go.Am.H}
variable{r q:Go.Am.Tr Go.Value}
variable{A:Type}
variable{f:Go.FuncId}
variable{C:Go.Am.aV}
variable{x:Go.Code}
variable{R:A->List Go.Value}
variable{l p:List Go.Value}
variable{v N:Go.Value}
variable{t s:Go.TypeId}
variable{V:Go.Am.zC->Go.Am.ag}
variable{W:Go.World}
variable{L:A->Prop}
variable{b:Bool}
variable{B:Nat->Option Go.Am.ai}
variable{o:Option (List Go.PanicEntry)}
variable{X:List Go.Deferred}
namespace Go.Am
section
variable{T:au}{P:zo}
def aD(N R:Tr E->H->Prop)(X:Nat->Tr E->H->Prop):ag->Prop
 |.c .Nr ⟨a,[],h,U⟩=>N a h
 |.c .ret ⟨a,[],h,U⟩=>R a h
 |.c (.exit i) ⟨a,[],h,U⟩=>X i a h
 |_=>False
namespace Sym
@[simp] theorem aBK(N R:Tr E->H->Prop)(X:Nat->Tr E->H->Prop):aD N R X (.c .Nr ⟨r,[],h,U⟩)=N r h:=rfl
@[simp] theorem al2(N R:Tr E->H->Prop)(X:Nat->Tr E->H->Prop):aD N R X (.c .ret ⟨r,[],h,U⟩)=R r h:=rfl
@[simp] theorem aCZ(N R:Tr E->H->Prop)(X:Nat->Tr E->H->Prop):aD N R X (.c (.exit i) ⟨r,[],h,U⟩)=X i r h:=rfl
end Sym
def aD.cases{N R:Tr E->H->Prop}{X:Nat->Tr E->H->Prop}{a:ag}(h:aD N R X a):
 (∃tm m,a=.c .Nr ⟨tm,[],m,U⟩/\N tm m)\/(∃tm m,a=.c .ret ⟨tm,[],m,U⟩/\R tm m)\/∃i tm m,a=.c (.exit i) ⟨tm,[],m,U⟩/\X i tm m:=by
 unfold aD at h;split at h
 .exact zq ⟨_,_,rfl,h⟩
 .exact zt (zq ⟨_,_,rfl,h⟩)
 .exact zt (zt ⟨_,_,_,rfl,h⟩)
 .cases h
def aD.Mo{N R N' b:Tr E->H->Prop}{X c:Nat->Tr E->H->Prop}{a:ag}(h:aD N R X a)(d:∀tm m,N tm m->N' tm m)(e:∀tm m,R tm m->b tm m)(f:∀i tm m,X i tm m->c i tm m):aD N' b c a:=by
 rcases h.cases with⟨tm,m,rfl,q⟩|⟨tm,m,rfl,q⟩|⟨i,tm,m,rfl,q⟩
 .exact d _ _ q
 .exact e _ _ q
 .exact f _ _ _ q
def RY{fr:Fr}{B:yG}(k:Nat)(a:Nat->Tr E->H->Prop)(R:Tr E->H->Prop)(X:Nat->Tr E->H->Prop)
 (c:∀j d h m,a j d h->k<=m->aD (λb f=>∃g,g<j/\a g b f) R X (aw T (af T C m) fr B ⟨d,[],h,U⟩)):
 ∀m j d h,a j d h->j+k<=m->aD ap R X (aw T (af T C m) fr (.loop B) ⟨d,[],h,U⟩):=by
 intro m;induction m with
 |zero=>
  intro j d h l n;rcases(c j d h 0 l (by omega)).cases with⟨b,f,e,g,o,_⟩|⟨b,f,e,q⟩|⟨i,b,f,e,q⟩
  .omega
  .rw[Sym.fJ,e];exact q
  .rw[Sym.fJ,e];exact q
 |succ m p=>
  intro j d h l n;rcases(c j d h (m+1) l (by omega)).cases with⟨b,f,e,g,o,r⟩|⟨b,f,e,q⟩|⟨i,b,f,e,q⟩
  .rw[Sym.fJ,e,Sym.MB,NC];exact p g b f r (by omega)
  .rw[Sym.fJ,e];exact q
  .rw[Sym.fJ,e];exact q
def Sx{N c R:Tr E->H->Prop}{X:Nat->Tr E->H->Prop}{k:S->ag}{a:ag}(d:aD c R X a)(e:∀b h,c b h->aD N R X (k ⟨b,[],h,U⟩)):aD N R X (jm k a):=by
 rcases d.cases with⟨b,m,rfl,q⟩|⟨b,m,rfl,q⟩|⟨i,b,m,rfl,q⟩
 .exact e _ _ q
 .exact q
 .exact q
def D8{N R:Tr E->H->Prop}{X:Nat->Tr E->H->Prop}{a:ag}(h:aD N R (λi tm m=>(i=n->N tm m)/\(i≠n->X i tm m)) a):aD N R X (lq n a):=by
 rcases h.cases with⟨tm,m,rfl,q⟩|⟨tm,m,rfl,q⟩|⟨i,tm,m,rfl,q⟩
 .exact q
 .exact q
 .rw[Sym.Jg];by_cases e:i=n
  .rw[ek e];exact q.1 e
  .rw[jh e];exact q.2 e
def fU{d:Fr}{N R:Tr E->H->Prop}{X:Nat->Tr E->H->Prop}(k:Nat)(a:Nat->Tr E->H->Prop)(j:Nat)(g:a j r h)(l:j+k<=m)
 (b:∀j r h m,a j r h->k<=m->aD (λc o=>∃f,f<j/\a f c o) R (λi r m=>i=n/\N r m) (aw T (af T C m) d x ⟨r,[],h,U⟩)):
 aD N R X (aw T (af T C m) d (.block n (.loop x)) ⟨r,[],h,U⟩):=by
 rw[Sym.hU];exact D8 ((RY k a R (λi r m=>i=n/\N r m) b m j r h g l).Mo aP bT (λi r m q=>⟨λ_=>q.2,λe=>absurd q.1 e⟩))
def aS{ev:zC->ag}{a:Fr}{y:yG}{s:S}{N N' R:Tr E->H->Prop}{X:Nat->Tr E->H->Prop}(b:aD N' R X (aw T ev a x s))(c:∀tm h,N' tm h->aD N R X (aw T ev a y ⟨tm,[],h,U⟩)):
 aD N R X (aw T ev a (zS x y) s):=by
 rw[Sym.run_seq];exact Sx b c
def Ru{b c:S->ag}{a:ag}:jm c (jm b a)=jm (λs=>jm c (b s)) a:=by
 cases a with
 |c e s=>cases e<;>rfl
 |_=>rfl
def Ni{ev:zC->ag}{b:Fr}{y a:yG}{s:S}{N N' R:Tr E->H->Prop}{X:Nat->Tr E->H->Prop}(c:aD N' R X (aw T ev b (zS x y) s))(d:∀tm h,N' tm h->aD N R X (aw T ev b a ⟨tm,[],h,U⟩)):
 aD N R X (aw T ev b (zS x (zS y a)) s):=by
 have:aw T ev b (zS x (zS y a)) s=jm (aw T ev b a) (aw T ev b (zS x y) s):=by rw[Sym.run_seq,Sym.run_seq,Ru];rfl
 rw[this];exact Sx c d
def CE(d:bM T P){j:xZ}{args:List E}{r:A->E}(C:aV)(o:aR T P C)(p:bX args)(s:∀n,bH (r n))(n:Nat)(u:T.f f=O j)(w:j.body=O x)
 (l:j.results.toList=[.tmp k])(a:aD (λb _=>∃v,b.g k=O (r v)) (λb _=>∃v,b.g k=O (r v)) (λ_ _ _=>False) (aw T (af T C (n+1)) ⟨f,U⟩ x ⟨bF args 0 .Nl,[],H.e,U⟩)):
 ∃v,∀h,bP T P (zU (za f) #[] #[]) args h U (.r (r v) h U):=by
 refine ark d C o p s n u w l ?_;rcases a.cases with⟨b,m,e,v,q⟩|⟨b,m,e,v,q⟩|⟨i,b,m,e,q⟩
 .rw[e];exact⟨v,m,by simp[q]⟩
 .rw[e];exact⟨v,m,by simp[q]⟩
 .cases q
def iC{c:Type}[Inhabited c]{g:zZ}{pre:A->Prop}(r:c->E)(Q:A->c->Prop)(d:∀x,pre x->∃n,Q x n/\∀h,bP T P (zU (za g) #[] #[]) (R x) h U (.r (r n) h U)):
 ∃a:A->c,aJ T P g pre R (λx=>r (a x))/\∀x,pre x->Q x (a x):=by
 classical
 refine⟨λx=>if b:pre x then yE (d x b)else default,λx b h=>?_,λx b=>?_⟩
 .have:=(zk (d x b)).2 h;simpa[dif_pos b]using this
 .have:=(zk (d x b)).1;simpa[dif_pos b]using this
def JV(d:bM T P){l:xZ}{args:List E}{r:A->E}{Q:A->Prop}(C:aV)(p:aR T P C)(s:bX args)(u:∀n,bH (r n))(n:Nat)(w:T.f f=O l)(y:l.body=O x)
 (j:l.results.toList=[.tmp k])(a:aD (λb _=>∃v,b.g k=O (r v)/\Q v) (λb _=>∃v,b.g k=O (r v)/\Q v) (λ_ _ _=>False) (aw T (af T C (n+1)) ⟨f,U⟩ x ⟨bF args 0 .Nl,[],H.e,U⟩)):
 ∃v,Q v/\∀h,bP T P (zU (za f) #[] #[]) args h U (.r (r v) h U):=by
 rcases a.cases with⟨b,m,e,v,q,o⟩|⟨b,m,e,v,q,o⟩|⟨i,b,m,e,q⟩
 .exact⟨v,o,λh=>ox d C p s (n+1) (dx w y j (vs:=[r v]) (h2:=m) (by rw[e];simp[q])) (.Pu (u v)) h⟩
 .exact⟨v,o,λh=>ox d C p s (n+1) (dx w y j (vs:=[r v]) (h2:=m) (by rw[e];simp[q])) (.Pu (u v)) h⟩
 .cases q
end
section
variable{T:au}{P:zo}
def kJ(w:zu):M:=⟨λ_=>U,λc=>match w.heap[c]? with|some (yP l _ _)=>O l.toList|_=>U⟩
def arl{l:Array E}{f:Nat×Nat}(h:W.heap[n]?=O (yP l t f)):(kJ W).im n=O l.toList:=by
 show(match W.heap[n]? with|some (yP l _ _)=>O l.toList|_=>U)=_
 rw[h]
def arm(h:(kJ W).im n=O l):∃e f,W.heap[n]?=O (yP ⟨l⟩ e f):=by
 have h:(match W.heap[n]? with|some (yP l _ _)=>O l.toList|_=>U)=O l:=h
 split at h
 .rename_i a e f b;cases h;exact⟨e,f,b⟩
 .cases h
def al3(N:Nat)(w:zu):Inv T ⟨w,kJ w,λ_=>U,0,N,λ_=>True,λ_=>True,λc=>c<w.heap.size⟩ (kJ w) (λ_=>U) H.e w where
 obj:=λ_ _ h=>by cases h
 inj:=λ_ _ _ _ h=>absurd rfl h
 cD:=λ_ _=>rfl
 ez:=λ_ h=>h
 size:=zR _
 eC:=λ_ _ h=>absurd rfl h
 same:=.refl _
 fy:=λ_ h=>absurd h (x9 _)
 dy:=λ_ _ h=>by cases h
 fresh:=λ_ _ _=>⟨rfl,rfl⟩
 fY:=zR _
 gj:=.refl _
 gm:=λ_ _=>rfl
 gv:=zR _
 ie:=λ_ _=>rfl
 de:=λc l h=>⟨arm h,λ_ _ h=>absurd rfl h⟩
 fD:=λ_ _=>rfl
def ah2(b:bM T P)(d:iB T P V){args :List E}(u:gg v=Y)
 (a:cB T V f args H.e U (T.f f)=.r v h U)(w:zu)(x:LR (kJ w) args l):Calls P f ⟨l⟩ w λe i=>e=.returned v/\Kept w i:=by
 intro y;cases j:T.f f with
 |none=>rw[j]at a;cases a
 |some k=>
  rw[j]at a;have a:pK T V f args H.e U k k.body=.r v h U:=a;cases m:k.body with
  |none=>rw[m]at a;cases a
  |some c=>
   rw[m]at a;obtain⟨_,A⟩:=D7 b d j m h U (by rw[a];rfl)
   obtain⟨W,B,r,i,X,n,k1,o,k3,k4,s,C,F⟩:=A ⟨w,kJ w,λ_=>U,0,h.n,λ_=>True,λ_=>True,λc=>c<w.heap.size⟩ _ _ (.plain y) l U w
    ⟨zR _,λ_ _=>⟨trivial,trivial⟩,λ_ _=>trivial,λ_ _=>trivial,λ_ _=>trivial⟩ (al3 _ w) x .none rfl
   rw[a]at s;cases s with
   |@ret _ L _ _ p=>
    have:=p.gg u;subst this;obtain⟨t,M,N,Q,q,R,S⟩:=F;exact⟨.returned L,i,n,⟨rfl,o.cD,o.size,o.same⟩,C,t,M,N,Q,q,by rw[t];exact R,S⟩
end
section
variable{T:au}{P:zo}
section
variable{Γ:gy}{m m2:M}{hD:Nat->Option ai}{h:H}{w:zu}{g:Nat->Option ai}
mutual
theorem VR.Bx(Ii:Inv T Γ m hD h w)(ht:∀b o,g b=O o->ae h b o/\Γ.cX b)(hi:∀c l,m.im c=O l->m2.im c=O l)
 (eH:∀b pl c e f,h.g b≠U->m b=O pl->w.heap[pl.aH]?=O (yP c e f)->m2.im pl.aH=O c.toList):∀{v v' d:E},ej g v d->VR m v v'->VR m2 d v'
 |_,_,_,.Pu hp,hv=>hv.carry hi hp
 |_,_,_,.agg hd,hv=>by cases hv with|agg h=>exact .agg (LR.Bx Ii ht hi eH hd h)
 |_,_,_,.tuple hd,hv=>by cases hv with|tuple h=>exact .tuple (LR.Bx Ii ht hi eH hd h)
 |_,_,_,.iface t hd,hv=>by cases hv with|iface _ h=>exact .iface t (VR.Bx Ii ht hi eH hd h)
 |_,_,_,.cP,hv=>by cases hv;exact .gi (λ_=>rfl) (zq rfl)
 |_,_,_,.slice (b:=b) (off:=off) (sz:=sz) (pre:=pre) (es:=es) (post:=post) (ds:=ds) (len:=len) hg ho hs hl hc hd,hv=>by
  have Mc:=hd.length;let⟨hg,B9⟩:=ht _ _ hg;rcases hv.lk with⟨pl,cd,hm,nO,rfl⟩|⟨h4,h5,pl,a,hm,rfl⟩
  .let⟨c',m9,rX,e',R⟩:=Ii.row hm hg B9;obtain⟨p',r',rfl,k1,k2⟩:=R.rel.split;obtain⟨f',q',rfl,k3,k4⟩:=k2.split;obtain⟨eS,rfl,k5⟩:=k3.Ki
   have pk:=eH _ pl _ _ _ (by rw[hg];simp) hm R.heap
   have xc:∀x∈eS,I x.cells.toList=sz:=λx hx=>by
    let⟨i,hi,FQ⟩:=yk.1 hx;have cA:i<I es:=by rw[<-k5.length];exact hi
    let⟨x2,e2,FR⟩:=k5.get (i:=i) (zm cA);have:x2=x:=by rw[zm hi,FQ]at e2;injection e2 with e2;exact e2.symm
    subst this;rw[FR.cells.length];exact hs _ (zW cA)
   have key:=VR.data (m:=m2) (es:=ds) (eS:=eS) (fG:=[]) (pre:=m9++p') (post:=q'++rX) (off:=0) (len:=len) (cd:=cd) (c:=pl.aH) (p:= #[]) (by rw[pk];simp) (LR.Bx Ii ht hi eH hd k5) xc
    (by omega) (yd hc (nO.le R.pos)) (zq rfl)
   have pn:I (m9++p')+0*sz=pl.sh+off:=by rw[yD,R.pre,k1.length,u4,xP,<-ho]
   rw[pn]at key;exact key
  .subst h4;exact .gi (λh=>by cases h) (zq rfl)
theorem LR.Bx(Ii:Inv T Γ m hD h w)(ht:∀b o,g b=O o->ae h b o/\Γ.cX b)(hi:∀c l,m.im c=O l->m2.im c=O l)
 (eH:∀b pl c e f,h.g b≠U->m b=O pl->w.heap[pl.aH]?=O (yP c e f)->m2.im pl.aH=O c.toList):∀{l l' d:List E},eV g l d->LR m l l'->LR m2 d l'
 |_,_,_,.Nl,hv=>by cases hv;exact .Nl
 |_,_,_,.Cs hd hl,hv=>by cases hv with|Cs h1 h2=>exact .Cs (VR.Bx Ii ht hi eH hd h1) (LR.Bx Ii ht hi eH hl h2)
end
end
def po(w:zu):M:=⟨λ_=>U,λc=>match w.heap[c]? with|some (yP a _ _)=>O a.toList|_=>U⟩
def aah{w:zu}(h:(po w).im n=O l):∃e f,w.heap[n]?=O (yP ⟨l⟩ e f):=by
 have h:(match w.heap[n]? with|some (yP a _ _)=>O a.toList|_=>U)=O l:=h
 split at h
 .rename_i a e f b;cases h;exact⟨e,f,b⟩
 .cases h
def Hr{w:zu}{a:Array E}{f:Nat×Nat}(h:w.heap[n]?=O (yP a t f)):(po w).im n=O a.toList:=by
 show(match w.heap[n]? with|some (yP a _ _)=>O a.toList|_=>U)=_
 rw[h]
def lI(h:H)(b:Nat):Option ai:=if h.b<=b then h.g b else U
def abZ(N:Nat)(w:zu):Inv T ⟨w,po w,λ_=>U,0,N,λ_=>True,λ_=>True,λc=>c<w.heap.size⟩ (po w) (λ_=>U) H.e w where
 obj:=λ_ _ h=>by cases h
 inj:=λ_ _ _ _ h=>absurd rfl h
 cD:=λ_ _=>rfl
 ez:=λ_ h=>h
 size:=zR _
 eC:=λ_ _ h=>absurd rfl h
 same:=.refl _
 fy:=λ_ h=>absurd h (x9 _)
 dy:=λ_ _ h=>by cases h
 fresh:=λ_ _ _=>⟨rfl,rfl⟩
 fY:=zR _
 gj:=.refl _
 gm:=λ_ _=>rfl
 gv:=zR _
 ie:=λ_ _=>rfl
 de:=λc l hc=>⟨aah hc,λ_ _ h=>absurd rfl h⟩
 fD:=λ_ _=>rfl
def ajx{g:zZ}{h:H}(u:bP T P (zU (za g) #[] #[]) p H.e U (.r v H.e U))(R:ground v=Y)(X:eV (lI h) l p):
 bP T P (zU (za g) #[] #[]) l h U (.r v h U):=by
 intro h' pj s;injection s with s;cases s;let⟨_,u⟩:=u H.e U rfl;refine⟨.refl _,λΓ m hD n f' t A w hK F i hv hl B hk=>?_⟩
 have C:LR (po w) p t:=LR.Bx i (λb o x=>by
  unfold lI at x;split at x
  .rename_i q;exact⟨x,(F.hi b q).1⟩
  .cases x) (λc j u=>by
  let⟨⟨e,f,k⟩,_⟩:=i.de c j u;exact Hr k) (λb S c e f _ _ hw=>Hr hw) X hl
 have L:f'=zU (za g) #[] #[]:=by
  cases hv with
  |func _ a b=>cases a;cases b;rfl
 subst L
 let⟨nx,M,k1,k2,m',dW,y,V,cr,k3,N,k5,k6,k7,k8⟩:=u ⟨w,po w,λ_=>U,0,0,λ_=>True,λ_=>True,λc=>c<w.heap.size⟩ (po w) (λ_=>U) n _ t A w hK
  ⟨zR _,λ_ _=>⟨trivial,trivial⟩,λ_ _=>trivial,λ_ _=>trivial,λ_ _=>trivial⟩ (abZ 0 w) (.func g .Nl .Nl) C (by cases B;exact .none) hk
 have hold:∀c,c<w.heap.size->V.heap[c]?=w.heap[c]?:=N.cD;refine⟨nx,M,k1,k2,m,hD,y,V,cr,.refl _,?_,(by cases k5;exact .none),k6,?_,k8⟩
 .exact
  {obj:=λb o x=>by let⟨S,o',q1,W,q3⟩:=i.obj b o x;exact⟨S,o',q1,by rw[hold _ (zd.1 W).1];exact W,q3⟩
   inj:=i.inj
   ez:=i.ez
   cD:=λc u=>by have:=i.size;have:=i.ez c u;rw[hold c (by omega)];exact i.cD c u
   size:=yd i.size N.size,eC:=i.eC,same:=i.same.trans N.same,fy:=i.fy,dy:=i.dy,fresh:=i.fresh,fY:=i.fY,gj:=i.gj,gm:=i.gm,gv:=i.gv,ie:=i.ie
   de:=λc j u=>by let⟨⟨e,f,k⟩,q⟩:=i.de c j u;exact⟨⟨e,f,by rw[hold _ (zd.1 k).1];exact k⟩,q⟩
   fD:=i.fD}
 .cases k7 with
  |ret Q=>
   have:=Q.ground R;subst this;exact .ret (VR.I0 R λ_ _ _=>trivial)
open Classical in
def Pn{c:Type}(a:A->Prop)(b:A->List E)(r:c->E)(f:A->c)(args:List E)(h:H):Option ag:=
 if d:∃x,a x/\eV (lI h) args (b x)then O (.r (r (f (yE d))) h U)else U
def Bb{b:Type}{g:zZ}{r:b->E}{f:A->b}(d:aR T P C)(i:∀n,ground (r n)=Y)(j:aJ T P g L R (λx=>r (f x))):aR T P (bY g (Pn L R r f) C):=by
 intro k args h a e;by_cases c:k=g
 .subst c;rw[gC]at e;unfold Pn at e;split at e
  .rename_i l;cases e;let⟨m,o⟩:=zk l;exact ajx (j _ m H.e) (i _) o
  .cases e
 .rw[jk c]at e;exact d _ _ _ _ e
def iA(C:aV){c:Type}(g:zZ)(a:A->Prop)(b:A->List E)(r:c->E):Prop:=∀x,a x->∀args h,eV (lI h) args (b x)->∃y,C g args h=O (.r (r y) h U)
def iA.add{a:Type}{g:zZ}{r:a->E}{f:A->a}:iA (bY g (Pn L R r f) C) g L R r:=by intro x b args h c;rw[gC];unfold Pn;have d:∃x,L x/\eV (lI h) args (R x):=⟨x,b,c⟩;rw[dif_pos d];exact⟨_,rfl⟩
def iA.skip{a:Type}{g :zZ}{r:a->E}{c:List E->H->Option ag}(b:g≠f)(h:iA C g L R r):iA (bY f c C) g L R r:=
 λx d args m e=>by rw[jk b];exact h x d args m e
def iA.ev{a:Type}{g:zZ}{pre:A->Prop}{r:a->E}(h:iA C g pre R r){x:A}(b:pre x){args:List E}{m:H}(c:eV (lI m) args (R x)):
 ∃y,∀n,af T C n (aj g args m)=.r (r y) m U:=by
 let⟨y,d⟩:=h x b args m c;exact⟨y,λn=>ji n d⟩
def iA.data{b c:Type}{g:zZ}{pre:b->Prop}{a:b->List E}{r:c->E}{C:aV}(h:iA C g pre a r){x:b}(d:pre x)(e:bX (a x)):
 ∃y:H->c,∀n m,af T C n (aj g (a x) m)=.r (r (y m)) m U:=by
 have:∀m:H,∃y,∀n,af T C n (aj g (a x) m)=.r (r y) m U:=λm=>h.ev d (eV.pure e);exact⟨λm=>yE (this m),λn m=>zk (this m) n⟩
end
section
variable{T:au}{P:zo}
mutual
inductive DV(g:Nat->Option ai):E->E->Prop
 |Pu {v:E} (h:bH v):DV g v v
 |agg {l d:List E} (h:DL g l d):DV g (yu ⟨l⟩) (yu ⟨d⟩)
 |Tt {l d:List E} (h:DL g l d):DV g (.tuple ⟨l⟩) (.tuple ⟨d⟩)
 |iface (t:zQ) {v d:E} (h:DV g v d):DV g (.iface t v) (.iface t d)
 |cP:DV g (zL U 0 0) (cp [] 0 0 [])
 |slice {b off len cap sz:Nat} {pre es post ds:List E} {e:zQ} {gr:Bool} (hg:g b=O (K (pre++(es.flatMap ah++post)) e gr)) (ho:off=I pre) (hs:∀x∈es,I (ah x)=sz)
   (hl:len=I es) (hc:len<=cap) (h:DL g es ds):DV g (zL (O ⟨b,off,U⟩) len cap) (cp ds 0 len [])
 |ptr {b off f:Nat} {pre post:List E} {x d:E} {e:zQ} {gr:Bool} (hg:g b=O (K (pre++(ah x++post)) e gr)) (ho:off=I pre+f) (h:DV g x d):
   DV g (zM (O ⟨b,off,U⟩)) (ar d f)
 |func (f:zZ) {l d c c2:List E} (h:DL g l d) (hc:DL g c c2):DV g (zU (za f) ⟨l⟩ ⟨c⟩) (zU (za f) ⟨d⟩ ⟨c2⟩)
inductive DL(g:Nat->Option ai):List E->List E->Prop
 |Nl:DL g [] []
 |Cs {v d:E} {l r:List E} (h:DV g v d) (hl:DL g l r):DL g (v::l) (d::r)
end
def eI{g:Nat->Option ai}(h:ground v=Y:=by rfl):DV g v v:=.Pu (.Gd h)
def ka{g:Nat->Option ai}(h:ground v=Y:=by rfl):DL g [v] [v]:=.Cs (.Pu (.Gd h)) .Nl
def adF{g:Nat->Option ai}{w:E}(h:ground v=Y:=by rfl)(k:ground w=Y:=by rfl):DL g [v,w] [v,w]:=.Cs (.Pu (.Gd h)) (.Cs (.Pu (.Gd k)) .Nl)
def DL.length{g:Nat->Option ai}:∀{l d:List E},DL g l d->I d=I l
 |_,_,.Nl=>rfl
 |_,_,.Cs _ a=>by simp[a.length]
def DL.pure{g:Nat->Option ai}:∀{l:List E},bX l->DL g l l
 |_,.Nl=>.Nl
 |_,.Cs h a=>.Cs (.Pu h) (DL.pure a)
mutual
theorem DV.of{g:Nat->Option ai}:∀{v d:E},ej g v d->DV g v d
 |_,_,.Pu h=>.Pu h
 |_,_,.agg h=>.agg (DL.of h)
 |_,_,.tuple h=>.Tt (DL.of h)
 |_,_,.iface t h=>.iface t (DV.of h)
 |_,_,.cP=>.cP
 |_,_,.slice hg ho hs hl hc h=>.slice hg ho hs hl hc (DL.of h)
theorem DL.of{g:Nat->Option ai}:∀{l d:List E},eV g l d->DL g l d
 |_,_,.Nl=>.Nl
 |_,_,.Cs h hl=>.Cs (DV.of h) (DL.of hl)
end
section
variable{Γ:gy}{m m2:M}{hD:Nat->Option ai}{h:H}{w:zu}{g:Nat->Option ai}
mutual
theorem VR.dv(Ii:Inv T Γ m hD h w)(ht:∀b o,g b=O o->ae h b o/\Γ.cX b)(hi:∀c l,m.im c=O l->m2.im c=O l)
 (eH:∀b pl c e f,g b≠U->m b=O pl->w.heap[pl.aH]?=O (yP c e f)->m2.im pl.aH=O c.toList):∀{v v' d:E},DV g v d->VR m v v'->VR m2 d v'
 |_,_,_,.Pu hp,hv=>hv.carry hi hp
 |_,_,_,.agg hd,hv=>by cases hv with|agg h=>exact .agg (LR.dv Ii ht hi eH hd h)
 |_,_,_,.Tt hd,hv=>by cases hv with|tuple h=>exact .tuple (LR.dv Ii ht hi eH hd h)
 |_,_,_,.iface t hd,hv=>by cases hv with|iface _ h=>exact .iface t (VR.dv Ii ht hi eH hd h)
 |_,_,_,.func f hd hc,hv=>by cases hv with|func _ h h2=>exact .func f (LR.dv Ii ht hi eH hd h) (LR.dv Ii ht hi eH hc h2)
 |_,_,_,.cP,hv=>by cases hv;exact .gi (λ_=>rfl) (zq rfl)
 |_,_,_,.slice (b:=b) (off:=off) (sz:=sz) (pre:=pre) (es:=es) (post:=post) (ds:=ds) (len:=len) hg ho hs hl hc hd,hv=>by
  have Mc:=hd.length;have FU:g b≠U:=by rw[hg];simp
  let⟨hg,B9⟩:=ht _ _ hg;rcases hv.lk with⟨pl,cd,hm,nO,rfl⟩|⟨h4,h5,pl,a,hm,rfl⟩
  .let⟨c',m9,rX,e',R⟩:=Ii.row hm hg B9;obtain⟨p',r',rfl,k1,k2⟩:=R.rel.split;obtain⟨f',q',rfl,k3,k4⟩:=k2.split;obtain⟨eS,rfl,k5⟩:=k3.Ki
   have pk:=eH _ pl _ _ _ FU hm R.heap
   have xc:∀x∈eS,I x.cells.toList=sz:=λx hx=>by
    let⟨i,hi,FQ⟩:=yk.1 hx;have cA:i<I es:=by rw[<-k5.length];exact hi
    let⟨x2,e2,FR⟩:=k5.get (i:=i) (zm cA);have:x2=x:=by rw[zm hi,FQ]at e2;injection e2 with e2;exact e2.symm
    subst this;rw[FR.cells.length];exact hs _ (zW cA)
   have key:=VR.data (m:=m2) (es:=ds) (eS:=eS) (fG:=[]) (pre:=m9++p') (post:=q'++rX) (off:=0) (len:=len) (cd:=cd) (c:=pl.aH) (p:= #[]) (by rw[pk];simp) (LR.dv Ii ht hi eH hd k5) xc
    (by omega) (yd hc (nO.le R.pos)) (zq rfl)
   have pn:I (m9++p')+0*sz=pl.sh+off:=by rw[yD,R.pre,k1.length,u4,xP,<-ho]
   rw[pn]at key;exact key
  .subst h4;exact .gi (λh=>by cases h) (zq rfl)
 |_,_,_,.ptr (b:=b) (off:=off) (f:=f) (pre:=pre) (post:=post) (x:=x) (d:=d) hg ho hd,hv=>by
  have FU:g b≠U:=by rw[hg];simp
  let⟨hg,B9⟩:=ht _ _ hg;cases hv with
  |ptr hm=>
   rename_i pl;let⟨c',m9,rX,e',R⟩:=Ii.row hm hg B9;obtain⟨p',r',rfl,k1,k2⟩:=R.rel.split;obtain⟨f',q',rfl,k3,k4⟩:=k2.split;obtain⟨x',rfl,hx⟩:=VR.TH k3;have pk:=eH _ pl _ _ _ FU hm R.heap;have key:=VR.jg (m:=m2) (e:=d) (e':=x') (pre:=m9++p') (post:=q'++rX) (f:=f) (c:=pl.aH) (p:= #[]) (k:=0) (q:= #[]) (by rw[pk];simp) (VR.dv Ii ht hi eH hd hx);have pn:I (m9++p')+f=pl.sh+off:=by rw[yD,R.pre,k1.length,ho,yp]
   rw[pn]at key;exact key
theorem LR.dv(Ii:Inv T Γ m hD h w)(ht:∀b o,g b=O o->ae h b o/\Γ.cX b)(hi:∀c l,m.im c=O l->m2.im c=O l)
 (eH:∀b pl c e f,g b≠U->m b=O pl->w.heap[pl.aH]?=O (yP c e f)->m2.im pl.aH=O c.toList):∀{l l' d:List E},DL g l d->LR m l l'->LR m2 d l'
 |_,_,_,.Nl,hv=>by cases hv;exact .Nl
 |_,_,_,.Cs hd hl,hv=>by cases hv with|Cs h1 h2=>exact .Cs (VR.dv Ii ht hi eH hd h1) (LR.dv Ii ht hi eH hl h2)
end
end
def M.row(m:M)(w:zu)(b:Nat):M:=⟨m.at_,λc=>match m b with
 |some a=>if c=a.aH then(match w.heap[c]? with|some (yP d _ _)=>O d.toList|_=>m.im c)else m.im c
 |none=>m.im c⟩
def Inv.frz{Γ:gy}{m:M}{hD:Nat->Option ai}{h:H}{w:zu}(a:Inv T Γ m hD h w){g:Pl}{o:ai}(F:Fin Γ (h.d n))(t:m n=O g)(P:ae h n o):
 ct m (m.row w n)/\Inv T Γ (m.row w n) (Am.eT hD n U) (h.d n) w/\(∀c e f,w.heap[g.aH]?=O (yP c e f)->(m.row w n).im g.aH=O c.toList):=by
 have Q:=GH h n;have R:Γ.cX n:=Q.elim (λx=>(F.hi n x).1) (λx=>F.rd n x.1);let⟨hd,_⟩:=a.get t P R;have i:hD n≠U:=by rw[hd];simp
 have d:=a.drop F P;have B:∀c l,m.im c=O l->c≠g.aH:=λc l k q=>(a.de c l k).2 n g i t q.symm
 have u:∀c,c≠g.aH->(m.row w n).im c=m.im c:=λc k=>by
  show(match m n with|some g=>_|none=>_)=_
  rw[t];show(if c=g.aH then _ else _)=_;rw[if_neg k]
 have v:ct m (m.row w n):=⟨λ_ _ h=>h,λc l k=>by rw[u c (B c l k)];exact k⟩
 have C:∀l,(m.row w n).im g.aH=O l->∃e f,w.heap[g.aH]?=O (yP ⟨l⟩ e f):=λl r=>by
  have r:(match m n with|some y=>if g.aH=y.aH then(match w.heap[g.aH]? with|some (yP s _ _)=>O s.toList|_=>m.im g.aH)else m.im g.aH|none=>m.im g.aH)=O l:=r
  rw[t]at r;have r:(if g.aH=g.aH then(match w.heap[g.aH]? with|some (yP s _ _)=>O s.toList|_=>m.im g.aH)else m.im g.aH)=O l:=r
  rw[if_pos rfl]at r;split at r
  .rename_i s e f L;injection r with r;exact⟨e,f,by rw[L,<-r]⟩
  .exact absurd rfl (B _ l r)
 refine⟨v,{d with obj:=λj x A=>?_,gj:=d.gj.trans v,de:=λc l k=>?_,fD:=λc k=>?_},λc e f L=>?_⟩
 .let⟨p,S,h1,V,W⟩:=d.obj j x A;exact⟨p,S,h1,V,W.mono v⟩
 .by_cases e:c=g.aH
  .subst e;refine⟨C l k,λj p A X q=>?_⟩;by_cases N:j=n
   .subst N;rw[jz]at A;exact A rfl
   .rw[eo _ _ N]at A;exact N (a.inj j n p g A i X t q)
  .rw[u c e]at k;exact d.de c l k
 .rw[u c (λq=>a.eC n g i t (q▸k))];exact a.fD c k
 .show(match m n with|some y=>if g.aH=y.aH then(match w.heap[g.aH]? with|some (yP s _ _)=>O s.toList|_=>m.im g.aH)else m.im g.aH|none=>m.im g.aH)=_
  rw[t];show(if g.aH=g.aH then(match w.heap[g.aH]? with|some (yP s _ _)=>O s.toList|_=>m.im g.aH)else m.im g.aH)=_
  rw[if_pos rfl,L]
def H.bx(h:H):List Nat->H
 |[]=>h
 |b::l=>(h.d b).bx l
def jC(h:H)(a:List Nat)(b:Nat):Option ai:=if b∈a then h.g b else U
def H.mV(h:H):List Nat->Prop
 |[]=>True
 |b::l=>h.g b≠U/\b∉l/\h.mV l
def Rd{h:H}{b:Nat}:∀{l:List Nat},b∉l->h.mV l->(h.d b).mV l
 |[],_,_=>trivial
 |x::l,a,⟨c,d,f⟩=>⟨by rw[A8 h (λe=>a (by simp[e]))];exact c,d,Rd (λe=>a (by simp[e])) f⟩
def G0:∀(l:List Nat)(h:H),Le h (h.bx l)
 |[],h=>.refl h
 |b::l,h=>(aa4 h b).trans (G0 l _)
def Inv.Po{Γ:gy}{w:zu}:∀(l:List Nat){m:M}{hD:Nat->Option ai}{h:H},Inv T Γ m hD h w->Fin Γ (h.bx l)->h.mV l->
 ∃m2 d,ct m m2/\Inv T Γ m2 d (h.bx l) w/\∀b k c e f,b∈l->m b=O k->w.heap[k.aH]?=O (yP c e f)->m2.im k.aH=O c.toList
 |[],m,hD,h,a,_,_=>⟨m,hD,.refl m,a,λ_ _ _ _ _ B=>by cases B⟩
 |b::l,m,hD,h,a,F,⟨C,v,x⟩=>by
  have y:Fin Γ (h.d b):=F.of_le (G0 l _);cases q:h.g b with
  |none=>exact absurd q C
  |some o=>
   cases r:m b with
   |none=>
    let⟨m2,d,n,s,t⟩:=Inv.Po l (a.drop y q) F (Rd v x);refine⟨m2,d,n,s,λj k c e f g i p=>?_⟩;rcases zp.1 g with rfl|g
    .rw[r]at i;cases i
    .exact t j k c e f g i p
   |some k=>
    let⟨A,L,q3⟩:=a.frz y r q;let⟨m2,d,n,s,t⟩:=Inv.Po l L F (Rd v x);refine⟨m2,d,A.trans n,s,λj u c e f g i p=>?_⟩;rcases zp.1 g with rfl|g
    .rw[r]at i;cases i;exact n.im _ _ (q3 c e f p)
    .exact t j u c e f g (A.to _ _ i) p
def GS{args :List E}{h:H}{bs:List Nat}{a:ag}(y:bP T P v args (h.bx bs) U a)(k:h.mV bs)(V:DL (jC h bs) p args):bP T P v p h U a:=by
 intro W A r;let⟨hle,y⟩:=y W A r;refine⟨(G0 bs h).trans hle,λΓ m hD g X i B w hK F d hv hl C hk=>?_⟩;have R:Fin Γ (h.bx bs):=F.of_le hle
 have s:∀(l:List Nat)(h:H),Fin Γ (h.bx l)->∀b∈l,Γ.cX b:=by
  intro l;induction l with
  |nil=>intro _ _ b k;cases k
  |cons x l ih=>
   intro h F b k;rcases zp.1 k with rfl|k
   .have S:Fin Γ (h.d b):=F.of_le (G0 l _);exact(GH h b).elim (λx=>(S.hi b x).1) (λx=>S.rd b x.1)
   .exact ih _ F b k
 let⟨m2,L,u,k2,k3⟩:=d.Po bs R k
 have M:LR m2 args i:=LR.dv d (λb o j=>by
  unfold jC at j;split at j
  .rename_i q;exact⟨j,s bs h R b q⟩
  .cases j) u.im (λb pl c e v n hm hw=>k3 b pl c e v (by
  unfold jC at n;split at n
  .assumption
  .exact absurd rfl n) hm hw) V hl
 let⟨nx,N,e1,e2,m',Q,t,w',cr,j1,j2⟩:=y Γ m2 L g X i B w hK F k2 (hv.mono u) M (C.mono u) hk;exact⟨nx,N,e1,e2,m',Q,t,w',cr,u.trans j1,j2⟩
end
section
variable{T:au}{P:zo}
mutual
inductive BJ(b:Nat):E->E->Prop
 |pure {v:E} (h:bH v):BJ b v v
 |ptr (off:Nat):BJ b (zM (O ⟨0,off,U⟩)) (zM (O ⟨b,off,U⟩))
 |slice (off n c:Nat):BJ b (zL (O ⟨0,off,U⟩) n c) (zL (O ⟨b,off,U⟩) n c)
 |agg {l l':List E} (h:AM b l l'):BJ b (yu ⟨l⟩) (yu ⟨l'⟩)
 |func (f:zZ) {c c':List E} (h:AM b c c'):BJ b (zU (za f) ⟨[]⟩ ⟨c⟩) (zU (za f) ⟨[]⟩ ⟨c'⟩)
 |ar (f:Nat) {v v':E} (h:BJ b v v'):BJ b (ar v f) (ar v' f)
inductive AM(b:Nat):List E->List E->Prop
 |nil:AM b [] []
 |Cs {v v':E} {l l':List E} (h:BJ b v v') (hl:AM b l l'):AM b (v::l) (v'::l')
end
mutual
theorem VR.sub{m m2:M}{b:Nat}(hi:∀c l,m.im c=O l->m2.im c=O l)(h0:∀pl,m b=O pl->m2 0=O pl):∀{v0 v v':E},BJ b v0 v->VR m v v'->VR m2 v0 v'
 |_,_,_,.pure hp,hv=>hv.carry hi hp
 |_,_,_,.ptr off,hv=>by cases hv with|ptr hm=>exact .ptr (h0 _ hm)
 |_,_,_,.slice off n c,hv=>by
  cases hv with
  |slice hm hc=>exact .slice (h0 _ hm) hc
  |empty hm=>exact .empty (h0 _ hm)
 |_,_,_,.agg h,hv=>by cases hv with|agg hl=>exact .agg (LR.sub hi h0 h hl)
 |_,_,_,.func f h,hv=>by cases hv with|func _ h1 hl=>cases h1;exact .func f .Nl (LR.sub hi h0 h hl)
 |_,_,_,.ar f h,hv=>by cases hv with|jg h1 h2=>exact .jg (hi _ _ h1) (VR.sub hi h0 h h2)
theorem LR.sub{m m2:M}{b:Nat}(hi:∀c l,m.im c=O l->m2.im c=O l)(h0:∀pl,m b=O pl->m2 0=O pl):∀{l0 l l':List E},AM b l0 l->LR m l l'->LR m2 l0 l'
 |_,_,_,.nil,h=>by cases h;exact .Nl
 |_,_,_,.Cs hs hl,h=>by cases h with|Cs hv hr=>exact .Cs (VR.sub hi h0 hs hv) (LR.sub hi h0 hl hr)
end
def mB(h:H)(b:Nat):Option ai:=if b=0 then U else h.g b
inductive KK(g:Nat->Option ai):ag->H->ag->Prop
 |ret {v d:E} {h h1:H} (hd:DV g v d):KK g (.r v h1 U) h (.r d h U)
 |aU {v d:E} {h h1:H} (hd:DV g v d):KK g (.p [⟨v,G,G⟩] h1 U) h (.p [⟨d,G,G⟩] h U)
def Zh(u:bM T P)(L:iB T P V){args:List E}{r d:ag}{B:H}(hp:bX args)(k:cB T V f args H.e U (T.f f)=r)(M:r.fin=O (B,U))
 (t:KK B.g r h d):bP T P (zU (za f) #[] #[]) args h U d:=by
 have N:d.fin=O (h,U):=by cases t<;>rfl
 intro h' pj l;rw[N]at l;injection l with l;cases l;refine⟨.refl _,λΓ m hD i f' j Q w hK F e hv hl R hk=>?_⟩;cases C:T.f f with
 |none=>rw[C]at k;subst k;cases M
 |some s=>
  let⟨S,n⟩:=u.func f s C;rw[C]at k;have v:pK T V f args H.e U s s.body=r:=k;cases x:s.body with
  |none=>rw[x]at v;subst v;cases M
  |some c=>
   rw[x]at v
   have hn:(s.name== "runtime.NumGoroutine")=G:=by unfold rQ at n;rw[x]at n;have n:(!(s.name== "runtime.NumGoroutine")&&ck s.ntmps c)=Y:=n;rw[zX]at n;simpa using n.1
   let⟨_,hx⟩:=D7 u L C x (args:=args) (h:=H.e) (ab:=U) B U (by rw[v];exact M)
   let⟨m',dW,y,w',cr,L9,k1,W,k3,k4,X,k6,k7⟩:=hx ⟨w,⟨λ_=>U,m.im⟩,λ_=>U,0,B.n,λ_=>True,λ_=>True,λc=>c<w.heap.size⟩ ⟨λ_=>U,m.im⟩ (λ_=>U) i j Q w
    ⟨zR _,λ_ _=>⟨trivial,trivial⟩,λ_ _=>trivial,λ_ _=>trivial,λ_ _=>trivial⟩ (Su _ w e) (LR.carry (m:=m) (m2:=⟨λ_=>U,m.im⟩) bT hl hp) (by cases R;exact .none) hk
   rw[v]at X;let⟨q1,q2,q3,q4⟩:=Rs e W
   have qe:f'=zU (za f) #[] #[]:=by
    cases hv with
    |func _ a b=>cases a;cases b;rfl
   subst qe;refine⟨.enter f ⟨j⟩,_,?_,rfl,mh m w w',hD,y,w',cr,q1,q2,(by cases k3;exact .none),k4,?_,GC ?_ k3 k7 k6⟩
   .have:=Gy S hn x (⟨j⟩:Array E) w;simpa[jT,yr,invoke]using this
   .cases t with
    |ret t=>
     cases X with
     |ret p=>exact .ret (VR.dv W (λb o q=>⟨q,trivial⟩) q3 q4 t p)
    |aU t=>
     cases X with
     |aU p=>
      cases p with
      |cons p A=>
       cases A;exact .aU (.cons (VR.dv W (λb o q=>⟨q,trivial⟩) q3 q4 t p) .nil)
   .rcases hK with h|h
    .exact zq h
    .exact zt h.1
def RZ(tok:bM T P)(iq:iB T P V){c0 c1 c2:List E}{R:Bool}{r d:ag}{N:H}(hs:AM n l p)(Lc:∀(m:M)(a':List E),LR m p a'->m n≠U)(L:bX c0)
 (X:cB T V f l (H.e.w (K c0 t R)) U (T.f f)=r)(hf:r.fin=O (N,U))(VP:ae N 0 (K c1 t R))(FJ:DL (mB N) c1 c2)
 (hb:ae h n (K c0 t R))(hd:KK (mB N) r (h.p n (K c2 t R)) d):bP T P (zU (za f) #[] #[]) p h U d:=by
 have FP:d.fin=O (h.p n (K c2 t R),U):=by cases hd<;>rfl
 intro h' pj BI;rw[FP]at BI;injection BI with BI;cases BI;refine⟨oU h n _ hb,λΓ m hD y f' S kH w hK F s hv hl qf hk=>?_⟩;have hn:=qw h n (K c2 t R);have ht:Γ.cX n:=hn.elim (λx=>(F.hi n x).1) (λx=>F.rd n x.1);have VQ:Γ.s8 n:=hn.elim (λx=>(F.hi n x).2) (λx=>F.wr n x.2);cases hT:T.f f with
 |none=>rw[hT]at X;subst X;cases hf
 |some fn=>
  let⟨xb,jF⟩:=tok.func f fn hT;rw[hT]at X;have kI:pK T V f l (H.e.w (K c0 t R)) U fn fn.body=r:=X;cases B:fn.body with
  |none=>rw[B]at kI;subst kI;cases hf
  |some c=>
   rw[B]at kI
   have VS:(fn.name== "runtime.NumGoroutine")=G:=by unfold rQ at jF;rw[B]at jF;have jF:(!(fn.name== "runtime.NumGoroutine")&&ck fn.ntmps c)=Y:=jF;rw[zX]at jF;simpa using jF.1
   cases hm:m n with
   |none=>exact absurd hm (Lc m _ hl)
   |some Q=>
   let⟨VT,o',Md,hO⟩:=s.get hm hb ht;have C:hD n≠U:=by rw[VT];simp
   have avA:Q.aH<w.heap.size:=(zd.1 Md).1;let m1:M:=⟨λj=>if j=0 then O Q else U,m.im⟩
   let W:Nat->Option ai:=λj=>if j=0 then O (K c0 t R)else U
   have Da:∀j,(H.e.w (K c0 t R)).g j=W j:=λj=>by show((Tr.Nl:Tr ai).s 0 (K c0 t R)).g j=_;rw[Tr.Bk];rfl
   have I1:Inv T ⟨w,m1,W,1,N.n,λ_=>True,λ_=>True,λc=>c<w.heap.size/\c≠Q.aH⟩ m1 W (H.e.w (K c0 t R)) w:=by
    have only:∀j,W j≠U->j=0:=λj A=>by
     by_cases q:j=0
     .exact q
     .exact absurd (show W j=U from if_neg q) A
    refine{obj:=λj o A=>?_,inj:=λj k _ _ A hk _ _ _=>by rw[only j A,only k hk],cD:=λ_ _=>rfl,ez:=λ_ h=>h.1,size:=zR _,eC:=λj i A L q=>?_,same:=.refl _,fy:=λj _ _ _=>(Da j).symm,dy:=λj o A=>?_,fresh:=λj A _=>?_,fY:=Nat.zero_le _,gj:=.refl _,gm:=λ_ _=>rfl,gv:=zR _,ie:=λ_ _=>rfl,de:=λc u B=>⟨(s.de c u B).1,λj i A L=>?_⟩,fD:=λ_ _=>rfl}
    .have:=only j (by rw[A];simp);subst this;have A:(O (K c0 t R):Option ai)=O o:=A;cases A;refine⟨Q,o',rfl,Md,?_⟩;cases hO with
     |cells N h2 h3 h4 h5 h6 h7=>exact .cells (LR.carry (m:=m) (m2:=m1) bT N L) h2 h3 h4 h5 h6 h7
    .have:=only j A;subst this;have L:O Q=O i:=L;cases L;exact q.2 rfl
    .rw[Da]at A;have:=only j (by rw[A];simp);subst this;exact Nat.one_pos
    .have A:1<=j:=A;have:j≠0:=by omega
     exact⟨if_neg this,if_neg this⟩
    .have:=only j A;subst this;have L:O Q=O i:=L;cases L;exact(s.de c u B).2 n _ C hm
   let⟨_,hx⟩:=D7 tok iq hT B (args:=l) (h:=H.e.w (K c0 t R)) (ab:=U) N U (by rw[kI];exact hf)
   let⟨m',dW,lH,w',cr,L9,k1,k2,k3,k4,k5,k6,k7⟩:=hx ⟨w,m1,W,1,N.n,λ_=>True,λ_=>True,λc=>c<w.heap.size/\c≠Q.aH⟩ m1 W y S kH w
    ⟨zR _,λ_ _=>⟨trivial,trivial⟩,λ_ _=>trivial,λ_ _=>trivial,λ_ _=>trivial⟩ I1 (LR.sub (m:=m) (m2:=m1) bT (λi L=>by rw[hm]at L;exact L) hs hl) (by cases qf;exact .none) hk
   rw[kI]at k5
   have qe:f'=zU (za f) #[] #[]:=by
    cases hv with
    |func _ p n=>cases p;cases n;rfl
   subst qe;have Me:m' 0=O Q:=k1.to 0 Q rfl;have hold:∀c,c<w.heap.size->c≠Q.aH->w'.heap[c]?=w.heap[c]?:=λc N h2=>k2.cD c ⟨N,h2⟩;let⟨hd0,VU,Mf,B4⟩:=k2.get Me VP trivial;have ab0:dW 0≠U:=by rw[hd0];simp
   have cA:∀j i,hD j≠U->m j=O i->i.aH<w.heap.size:=λj i A L=>by
    cases q:hD j with
    |none=>exact absurd q A
    |some o=>
     let⟨p',o2,q1,q2,_⟩:=s.obj j o q;rw[L]at q1;cases q1;exact(zd.1 q2).1
   have hle:ct m (mh m w w'):=⟨λ_ _ h=>h,λc u B=>by
    let⟨⟨_,_,k⟩,_⟩:=s.de c u B;show(if c<w.heap.size then m.im c else _)=O u
    rw[if_pos (zd.1 k).1];exact B⟩
   have q3:∀c u,m'.im c=O u->(mh m w w').im c=O u:=λc u B=>by
    show(if c<w.heap.size then m.im c else match w'.heap[c]? with|some (yP cs _ _)=>O cs.toList|_=>U)=O u
    by_cases hq:c<w.heap.size
    .rw[if_pos hq];by_cases hqp:c=Q.aH
     .exact absurd hqp.symm ((k2.de c u B).2 0 Q ab0 Me)
     .have:m'.im c=m.im c:=k2.fD c ⟨hq,hqp⟩;rw[<-this];exact B
    .rw[if_neg hq];let⟨⟨_,_,k⟩,_⟩:=k2.de c u B;rw[k]
   have q4:∀j i c t v,mB N j≠U->m' j=O i->w'.heap[i.aH]?=O (yP c t v)->(mh m w w').im i.aH=O c.toList:=λj i c t v A L hw=>by
    unfold mB at A;split at A
    .exact absurd rfl A
    rename_i VV
    have FO:dW j=N.g j:=by
     cases q:N.g j with
     |none=>exact absurd q A
     |some o=>rw[k2.fy j (k2.dy j o q) trivial (by rw[L];simp),q]
    have IB:dW j≠U:=by rw[FO];exact A
    have jE:i.aH≠Q.aH:=λq=>VV (k2.inj j 0 i Q IB ab0 L Me q);have hy:w.heap.size<=i.aH:=sU λq=>k2.eC j i IB L ⟨q,jE⟩;show(if i.aH<w.heap.size then m.im i.aH else match w'.heap[i.aH]? with|some (yP cs _ _)=>O cs.toList|_=>U)=O c.toList
    rw[if_neg (by omega),hw]
   have IC:∀j o,mB N j=O o->ae N j o/\True:=λj o A=>by
    unfold mB at A;split at A
    .cases A
    .exact⟨A,trivial⟩
   have live:∀j,Am.eT hD n ((h.p n (K c2 t R)).g n) j≠U->hD j≠U:=λj A=>by
    by_cases q:j=n
    .subst q;exact C
    .rwa[eo _ _ q]at A
   have I2:Inv T Γ (mh m w w') (Am.eT hD n ((h.p n (K c2 t R)).g n)) (h.p n (K c2 t R)) w':=by
    refine{obj:=λj x A=>?_,inj:=λj k i q A hk=>s.inj j k i q (live j A) (live k hk),cD:=λc B=>?_,ez:=s.ez,size:=yd s.size k2.size,eC:=λj i A=>s.eC j i (live j A),same:=s.same.trans k2.same,fy:=λj A VW FV=>?_,dy:=λj x A=>?_,fresh:=λj A hN=>?_,fY:=by rw[jQ,Bf];exact s.fY,gj:=s.gj.trans hle,gm:=s.gm,gv:=by rw[jQ];exact s.gv,ie:=λj A=>?_,de:=λc u B=>?_,fD:=λc B=>?_}
    .by_cases q:j=n
     .subst q;rw[jz]at A;have:=Ro h A;subst this;refine⟨Q,VU,hm,Mf,?_⟩;cases B4 with
      |cells N h2 h3 h4 h5 h6 h7=>exact .cells (LR.dv k2 IC q3 q4 FJ N) h2 (by rw[FJ.length];exact h3) h4 h5 h6 h7
     .rw[eo _ _ q]at A;let⟨i,x',a1,a2,a3⟩:=s.obj j x A;refine⟨i,x',a1,?_,a3.mono hle⟩;rw[hold _ (cA j i (by rw[A];simp) a1) (λq'=>q (s.inj j n i Q (by rw[A];simp) C a1 hm q'))];exact a2
    .have a1:=s.size;have a2:=s.ez c B;rw[hold c (by omega) (λq=>s.eC n Q C hm (q▸B))];exact s.cD c B
    .by_cases q:j=n
     .subst q;rw[jz]
     .rw[eo _ _ q,rF h _ q];exact s.fy j (by rwa[jQ]at A) VW FV
    .rw[jQ];by_cases q:j=n
     .subst q;exact s.dy j _ hb
     .rw[rF h _ q]at A;exact s.dy j x A
    .rw[jQ]at A;have:=s.dy n _ hb;rw[eo _ _ (by omega:j≠n)];exact s.fresh j A hN
    .by_cases q:j=n
     .subst q;have a1:=s.dy j _ hb;have hN:=F.next;rw[jQ]at hN;rcases A with A|A
      .exact absurd VQ A
      .omega
     .rw[eo _ _ q];exact s.ie j A
    .have B:(if c<w.heap.size then m.im c else match w'.heap[c]? with|some (yP cs _ _)=>O cs.toList|_=>U)=O u:=B
     by_cases hq:c<w.heap.size
     .rw[if_pos hq]at B;let⟨⟨_,_,k⟩,Mg⟩:=s.de c u B;exact⟨⟨_,_,by rw[hold c hq (λq=>Mg n Q C hm q.symm)];exact k⟩,λj i A=>Mg j i (live j A)⟩
     .rw[if_neg hq]at B;split at B
      .rename_i cs _ _ hw;injection B with B;refine⟨⟨_,_,by rw[hw,<-B]⟩,λj i A L=>?_⟩;have:=cA j i (live j A) L;omega
      .cases B
    .have a1:=s.size;have a2:=s.ez c B;show(if c<w.heap.size then m.im c else _)=_
     rw[if_pos (by omega)];exact s.fD c B
   refine⟨.enter f ⟨S⟩,_,?_,rfl,mh m w w',_,lH,w',cr,hle,I2,(by cases k3;exact .none),k4,?_,GC ?_ k3 k7 k6⟩
   .have:=Gy xb VS B (⟨S⟩:Array E) w;simpa[jT,yr,invoke]using this
   .cases hd with
    |ret hd=>
     cases k5 with
     |ret mF=>exact .ret (VR.dv k2 IC q3 q4 hd mF)
    |aU hd=>
     cases k5 with
     |aU mF=>
      cases mF with
      |cons mF AN=>
       cases AN;exact .aU (.cons (VR.dv k2 IC q3 q4 hd mF) .nil)
   .rcases hK with h|h
    .exact zq h
    .exact zt h.1
end
section
variable{T:au}{P:zo}
def abb(m:M)(a:List E)(h:LR m (zM (O ⟨n,k,U⟩)::l) a):m n≠U:=by
 cases h with
 |Cs c _=>cases c with|ptr d=>rw[d];simp
def ajy(m:M)(d:List E)(h:LR m (zL (O ⟨k,i,U⟩) n j::l) d):m k≠U:=by
 cases h with
 |Cs e _=>
  cases e with
  |slice a _=>rw[a];simp
  |empty a=>rw[a];simp
inductive MO where
 |ret (v:E)
 |aU (v:E)
def MO.bi:MO->H->ag
 |.ret v,h=>.r v h U
 |.aU v,h=>.p [⟨v,G,G⟩] h U
def AY(T:au)(P:zo)(g:zZ)(e:zQ)(f:Bool)(a:A->Prop)(c:Nat->A->List E)(i j:A->List E)(d:A->MO):Prop:=
 ∀x,a x->∀h b,ae h b (K (i x) e f)->bP T P (zU (za g) #[] #[]) (c b x) h U ((d x).bi (h.p b (K (j x) e f)))
open Classical in
def qW(e:zQ)(f:Bool)(a:A->Prop)(b:Nat->A->List E)(g i:A->List E)(c:A->MO)(args:List E)(h:H):Option ag:=
 if d:∃y:A×Nat,a y.1/\b y.2 y.1=args/\h.g y.2=O (K (g y.1) e f)then O ((c (yE d).1).bi (h.p (yE d).2 (K (i (yE d).1) e f)))else U
def iv{c:Nat->A->List E}{i:A->List E}{d:A->MO}(k:aR T P C)(l:AY T P f t b L c R i d):
 aR T P (bY f (qW t b L c R i d) C):=by
 intro m args h a q;by_cases j:m=f
 .subst j;rw[gC]at q;unfold qW at q;split at q
  .rename_i n;cases q;let⟨o,p,r⟩:=zk n;have:=l _ o h _ r;rw[p]at this;exact this
  .cases q
 .rw[jk j]at q;exact k _ _ _ _ q
def bQ(C:aV)(g:zZ)(e:zQ)(f:Bool)(a:A->Prop)(c:Nat->A->List E)(i j:A->List E)(d:A->MO):Prop:=
 ∀x,a x->∀h b,ae h b (K (i x) e f)->C g (c b x) h=O ((d x).bi (h.p b (K (j x) e f)))
def bQ.add{g:zZ}{d:Bool}{a:Nat->A->List E}{c2:A->List E}{out:A->MO}
 (m:∀b i x y,a b x=a i y->b=i/\(R x=R y->out x=out y/\c2 x=c2 y)):bQ (bY g (qW t d L a R c2 out) C) g t d L a R c2 out:=by
 intro x n h b j;rw[gC];unfold qW;have f:∃y:A×Nat,L y.1/\a y.2 y.1=a b x/\h.g y.2=O (K (R y.1) t d):=⟨(x,b),n,rfl,j⟩;rw[dif_pos f];let⟨o,k,c⟩:=zk f;generalize yE f=y at o k c;let⟨l,p⟩:=m _ _ _ _ k;rw[l]at c;rw[j]at c;injection c with c;injection c with c;let⟨q,r⟩:=p c.symm;rw[l,q,r]
def bQ.skip{g :zZ}{i:Bool}{a:Nat->A->List E}{c2:A->List E}{d:A->MO}{c:List E->H->Option ag}(j:g≠f)
 (h:bQ C g t i L a R c2 d):bQ (bY f c C) g t i L a R c2 d:=λx k m b l=>by rw[jk j];exact h x k m b l
def bQ.ev{g:zZ}{e:zQ}{gr:Bool}{pre:A->Prop}{a:Nat->A->List E}{c2:A->List E}{out:A->MO}(h:bQ C g e gr pre a R c2 out)(n:Nat){x:A}(c:pre x){m:H}{b:Nat}
 (hb:ae m b (K (R x) e gr)):af T C n (aj g (a b x) m)=(out x).bi (m.p b (K (c2 x) e gr)):=ji n (h x c m b hb)
open Classical in
def Pp(a:List E->H->List Nat)(b:A->Prop)(c:A->List E)(f:A->E)(args:List E)(h:H):Option ag:=
 if d:∃x,b x/\h.mV (a args h)/\DL (jC h (a args h)) args (c x)then O (.r (f (yE d)) (h.bx (a args h)) U)else U
def I8{eM:List E->H->List Nat}{b:A->E}(d:aR T P C)(e:aJ T P f L R b):aR T P (bY f (Pp eM L R b) C):=by
 intro i args h a q;by_cases c:i=f
 .subst c;rw[gC]at q;unfold Pp at q;split at q
  .rename_i j;cases q;let⟨k,l,m⟩:=zk j;exact GS (e _ k _) l m
  .cases q
 .rw[jk c]at q;exact d _ _ _ _ q
def kY(C:aV)(g:zZ)(eM:List E->H->List Nat)(a:A->Prop)(b:A->List E)(f:A->E):Prop:=
 ∀x,a x->∀args h,h.mV (eM args h)->DL (jC h (eM args h)) args (b x)->C g args h=O (.r (f x) (h.bx (eM args h)) U)
def kY.add{g:zZ}{eM:List E->H->List Nat}{a:A->E}(e:∀b args x y,DL b args (R x)->DL b args (R y)->a x=a y):
 kY (bY g (Pp eM L R a) C) g eM L R a:=by
 intro x f args h i c;rw[gC];unfold Pp;have d:∃x,L x/\h.mV (eM args h)/\DL (jC h (eM args h)) args (R x):=⟨x,f,i,c⟩;rw[dif_pos d];let⟨k,l,j⟩:=zk d;rw[e _ _ _ _ j c]
def kY.skip{g a:zZ}{eM:List E->H->List Nat}{f:A->E}{c:List E->H->Option ag}(b:g≠a)(h:kY C g eM L R f):
 kY (bY a c C) g eM L R f:=λx d args m e i=>by rw[jk b];exact h x d args m e i
def kY.ev{g:zZ}{a:List E->H->List Nat}{pre:A->Prop}{f:A->E}(h:kY C g a pre R f)(n:Nat){x:A}(b:pre x){args:List E}{m:H}
 (h1:m.mV (a args m))(h2:DL (jC m (a args m)) args (R x)):af T C n (aj g args m)=.r (f x) (m.bx (a args m)) U:=ji n (h x b args m h1 h2)
def CK(b:bM T P){args:List E}(C:aV)(e:aR T P C)(i:bX args)(n:Nat)
 (c:cB T (af T C n) f args H.e U (T.f f)=.r v h U)(j:DV h.g v N)(a:H):bP T P (zU (za f) #[] #[]) args a U (.r N a U):=
 Zh b (pI b e n) i c rfl (.ret j)
end
section
variable{T:au}{P:zo}
@[simp] theorem aBL{a:Option Addr}:lenOf (zL a n k)=O n:=rfl
@[simp] theorem aC0:lenOf (cp l k n p)=O n:=rfl
def MJ(h:n≠k)(c i j:Nat):Am.apart c ⟨i,bit n,bit n⟩ ⟨j,bit k,0⟩=Y:=by unfold Am.apart;rw[dt h,cO,cR];cases aN c j<;>rfl
def MC(a:Nat)(x y:aG):fe a x [y]=Am.apart a x y:=by rw[x6];show cond (Am.apart a x y) Y G=_;cases Am.apart a x y<;>rfl
namespace Ca
def qm:∀l:List E,da l=Y<->∀v∈l,da [v]=Y
 |[]=>by simp;rfl
 |v::l=>by
  have a:=qm l;have e:da (v::l)=(da [v]&&da l):=by cases v<;>rfl
  rw[e,List.forall_mem_cons,zX,a]
def qH(l r:List E):il l r=l++r:=by
 induction l with
 |nil=>rfl
 |cons x l a=>show x::il l r=_;rw[a];rfl
end Ca
structure El(T:au){α:Type}(e:zQ)(enc:α->E)(sz:Nat):Prop where
 pos:0<sz
 cw:(T.cw.g e).map (λi=>(i.size,ze i.bytes 65536))=O (sz,Y)
 zero:NO (jV T e)=Y
 len:∀x,I (ah (enc x))=sz
 one:∀x,da (ah (enc x))=Y
def zF{α:Type}(enc:α->E)(l:List α):List E:=l.flatMap λx=>ah (enc x)
def eb{α:Type}(enc:α->E)(l:List α):E:=cp (l.map enc) 0 (I l) []
section
variable{α:Type}{e:zQ}{enc:α->E}{sz:Nat}
def rH(x:α)(l:List α):zF enc (x::l)=ah (enc x)++zF enc l:=by simp[zF]
def GD(l m:List α):zF enc (l++m)=zF enc l++zF enc m:=by simp[zF]
def qA(x:α):zF enc [x]=ah (enc x):=by simp[zF]
def qB(l:List α):(l.map enc).flatMap ah=zF enc l:=by simp[zF,List.flatMap_map]
def El.ia(a:El T e enc sz):∀l:List α,I (zF enc l)=I l*sz
 |[]=>by simp[zF]
 |x::l=>by rw[rH,yD,a.len,a.ia l,yo,xS];omega
def El.qA(a:El T e enc sz)(l:List α):da (zF enc l)=Y:=by rw[Ca.qm];intro v b;let⟨x,_,c⟩:=List.mem_flatMap.1 b;exact(Ca.qm _).1 (a.one x) v c
def El.size(a:El T e enc sz):Am.zI T e=O sz:=by
 have b:=a.cw;cases c:T.cw.g e with
 |none=>rw[c]at b;cases b
 |some i=>rw[c]at b;simp at b;show dM U (λi=>O i.size) (T.cw.g e)=_;rw[c];show O i.size=_;rw[b.1]
def eu(enc:α->E)(e:zQ)(v:E)(h:H)(l:List α):Prop:=
 (l=[]/\v=zL U 0 0)\/∃b,b<h.n/\v=zL (O ⟨b,0,U⟩) (I l) (I l)/\h.g b=O (K (zF enc l) e Y)
def dz(v:E)(j:Nat):Prop:=∀b n c,v=zL (O ⟨b,0,U⟩) n c->j≠b
def eu.nil(h:H):eu enc e (zL U 0 0) h ([]:List α):=zq ⟨rfl,rfl⟩
def eu.mono{h':H}{l:List α}(a:eu enc e v h l)(k:h.n<=h'.n)(c:∀j,j<h.n->¬dz v j->h'.g j=h.g j):eu enc e v h' l:=by
 rcases a with⟨d,f⟩|⟨b,g,rfl,i⟩
 .exact zq ⟨d,f⟩
 .exact zt ⟨b,by omega,rfl,by rw[c b g (λq=>q b _ _ rfl rfl)];exact i⟩
def eu.OS{l:List α}(a:eu enc e v h l)(b:h.n<=g.n)(c:∀j,j<h.n->g.g j=h.g j):eu enc e v g l:=a.mono b λj d _=>c j d
def dz.of_lt{l:List α}(a:eu enc e v h l)(d:h.n<=j):dz v j:=by
 rcases a with⟨_,rfl⟩|⟨b,f,rfl,_⟩
 .intro _ _ _ q;cases q
 .intro g n c q;injection q with q;injection q with q;injection q with q;omega
def eu.dv(c:El T e enc sz){l:List α}(a:eu enc e v h l)(d:∀j,j<h.n->¬dz v j->B j=h.g j)(f:∀x∈l,bH (enc x)):DV B v (eb enc l):=by
 rcases a with⟨rfl,rfl⟩|⟨b,i,rfl,k⟩
 .exact .cP
 .refine .slice (pre:=[]) (post:=[]) (es:=l.map enc) (sz:=sz) (e:=e) (gr:=Y) (by rw[d b i (λq=>q b _ _ rfl rfl),k,qB];simp) rfl (λx m=>?_) (by simp) (zR _) (DL.pure (bX.of λv n=>?_))
  .obtain⟨y,_,rfl⟩:=xp.1 m;exact c.len y
  .obtain⟨y,o,rfl⟩:=xp.1 n;exact f y o
def eu.lZ(c:El T e enc sz){l:List α}(a:eu enc e v h l)(d:∀x∈l,bH (enc x)):ej h.g v (eb enc l):=by
 rcases a with⟨rfl,rfl⟩|⟨b,k,rfl,f⟩
 .exact .cP
 .refine .slice (pre:=[]) (post:=[]) (es:=l.map enc) (sz:=sz) (e:=e) (gr:=Y) (by rw[f,qB];simp) rfl (λx g=>?_) (by simp) (zR _) (eV.pure (bX.of λv i=>?_))
  .obtain⟨y,_,rfl⟩:=xp.1 g;exact c.len y
  .obtain⟨y,j,rfl⟩:=xp.1 i;exact d y j
def eu.oK(d:El T e enc sz){x:E}{l m:List α}{e2:zQ}(a:eu enc e v h l)(s:h.b=0)(M:I l+I m<=1073741824)
 (N:zH h (I m) sz x=O (zF enc m)):
 ∃o k,jO T h x (O (.slice e)) (O (.slice e2)) v (O (I m))=.v o k/\eu enc e o k (l++m)/\k.b=0/\h.n<=k.n/\k.n<=h.n+1/\(∀j,j<h.n->dz v j->k.g j=h.g j)/\∀j,j<h.n->dz v j->dz o j:=by
 have p:=d.cw;have C:∀b,h.az b=h:=λb=>Ae s
 have g:∀y,cu h y=h:=λy=>by
  cases y with
  |slice a _ _=>cases a with|none=>rfl|some a=>exact C _
  |_=>rfl
 cases B:T.cw.g e with
 |none=>rw[B]at p;cases p
 |some i=>
  rw[B]at p;simp at p;have t:∀f:H,ae (f.w (K (zF enc (l++m)) e Y)) f.n (K (zF enc (l++m)) e Y):=λf=>by rw[ib];show(f.m.s f.n _).g f.n=_;rw[Tr.Bk,if_pos rfl]
  have u:∀(f:H),f.n=h.n->f.b=0->(∀j,j<h.n->dz v j->f.g j=h.g j)->
   eu enc e (zL (pO f.n) (I l+I m) (I l+I m)) (f.w (K (zF enc (l++m)) e Y)) (l++m)/\(f.w (K (zF enc (l++m)) e Y)).b=0/\
   h.n<=(f.w (K (zF enc (l++m)) e Y)).n/\(f.w (K (zF enc (l++m)) e Y)).n<=h.n+1/\(∀j,j<h.n->dz v j->(f.w (K (zF enc (l++m)) e Y)).g j=h.g j)/\∀j,j<h.n->dz v j->dz (zL (pO f.n) (I l+I m) (I l+I m)) j:=λf k1 R S=>by
   refine⟨zt ⟨f.n,by rw[jR];omega,by rw[yD],t f⟩,by rw[ib];exact R,by rw[jR];omega,by rw[jR];omega,λj P F=>?_,λj P _ b n c q=>?_⟩
   .rw[D3 f _ (by omega)];exact S j P F
   .injection q with q;injection q with q;injection q with q;omega
  have w:zV i.size 0=G:=jh (by have:=d.pos;omega);have A:ze i.bytes 65536=Y:=zb p.2;have Q:zV (dh (zF enc m)) (z7 (I m) sz)=Y:=by rw[fX];exact ek (d.ia m)
  rcases a with⟨rfl,rfl⟩|⟨b,V,rfl,L⟩
  .show∃o k,jy T h e (zL U 0 0) x U 0 0 (I m) (T.cw.g e)=_/\_;rw[B];unfold jy;dsimp only;have r:ze (zl 0 (I m)) 1073741824=Y:=zb (by show 0+I m<=_;simpa using M);rw[w,A,r,d.zero,p.1,N];have W:zV (dh ([]:List E)) (z7 0 sz)=Y:=ek (by show 0=0*sz;simp);show∃o k,cond (cond (zV (dh (zF enc m)) (z7 (I m) sz)) (cond (zV (dh ([]:List E)) (z7 0 sz)) (da (zF enc m)) G) G) (bN (kO (cu (cu h (zL U 0 0)) x) e (I m) (zF enc m)) (.v (zL U 0 0) (cu (cu h (zL U 0 0)) x)) (zV (I m) 0)) .f=_/\_;rw[Q,W,d.qA,g,g];show∃o k,bN (kO h e (I m) (zF enc m)) (.v (zL U 0 0) h) (zV (I m) 0)=_/\_;cases m with
   |nil=>exact⟨_,_,rfl,zq ⟨rfl,rfl⟩,s,zR _,by omega,λ_ _ _=>rfl,λ_ _ h=>h⟩
   |cons y m=>
    have:=u h rfl s (λ_ _ _=>rfl);simp only[sW,xF,xB]at this;exact⟨_,_,rfl,this⟩
  .show∃o k,jy T h e (zL (pO b) (I l) (I l)) x (pO b) (I l) (I l) (I m) (T.cw.g e)=_/\_;rw[B];unfold jy;dsimp only;have r:ze (zl (I l) (I m)) 1073741824=Y:=zb M;have X:zV (dh (zF enc l)) (z7 (I l) sz)=Y:=by rw[fX];exact ek (d.ia l)
   have h4:zH h (I l) sz (zL (pO b) (I l) (I l))=O (zF enc l):=by show rK 0 (z7 (I l) sz) (rD (h.g b))=_;rw[L];show cut (zF enc l) 0 (I l*sz)=_;rw[Sym.nw (by rw[d.ia];omega),yY,yI (by rw[d.ia];omega)]
   rw[w,A,r,d.zero,p.1,N,h4];show∃o k,cond (cond (zV (dh (zF enc m)) (z7 (I m) sz)) (cond (zV (dh (zF enc l)) (z7 (I l) sz)) (da (zF enc m)) G) G) (kq T (cu (cu h (zL (pO b) (I l) (I l))) x) b 0 e sz (I l) (I l) (I m) (zF enc l) (zF enc m) ((cu (cu h (zL (pO b) (I l) (I l))) x).g b)) .f=_/\_;rw[Q,X,d.qA,g,g,L];show∃o k,kq T h b 0 e sz (I l) (I l) (I m) (zF enc l) (zF enc m) (O (K (zF enc l) e Y))=_/\_;cases m with
   |nil=>
    refine⟨zL (pO b) (I l) (I l),h,?_,zt ⟨b,V,by simp,by rw[ye];exact L⟩,s,zR _,by omega,λ_ _ _=>rfl,λ_ _ h=>h⟩;unfold kq;have:ze (zl (I l) (I ([]:List α))) (I l)=Y:=zb (by show I l+0<=_;omega);show bN _ (bN _ _ (zV (I ([]:List α)) 0)) (ze (zl (I l) (I ([]:List α))) (I l))=_;rw[this];rfl
   |cons y m=>
    have h5:ze (zl (I l) (I (y::m))) (I l)=G:=by
     cases q:ze (zl (I l) (I (y::m))) (I l) with
     |false=>rfl
     |true=>have:I l+I (y::m)<=I l:=wb q;rw[yo]at this;omega
    have:=u (h.d b) (mR h b) (by rw[Nc];exact s) (λj _ F=>A8 h (F b _ _ rfl));refine⟨_,_,?_,this⟩;unfold kq;show bN (mP T h b e sz (zl (I l) (I (y::m))) (zl 0 (z7 (I l) sz)) (il (zF enc l) (zF enc (y::m))) (zF enc l) e Y) _ (ze (zl (I l) (I (y::m))) (I l))=_;rw[h5];show mP T h b e sz (zl (I l) (I (y::m))) (zl 0 (z7 (I l) sz)) (il (zF enc l) (zF enc (y::m))) (zF enc l) e Y=_;unfold mP;rw[d.size,fX,ek (show zl 0 (z7 (I l) sz)=I (zF enc l) by rw[d.ia];exact xF _),Ca.qH,<-GD];show cond (zV sz sz) _ _=_;rw[Nat.beq_refl];rfl
def El.Ea(a:El T e enc sz):∀(l:List α)(i:Nat),(zF enc l).drop (i*sz)=zF enc (l.drop i)
 |[],i=>by simp[zF]
 |x::l,0=>by simp
 |x::l,i+1=>by rw[rH,List.drop_append,a.len,List.drop_eq_nil_of_le (by rw[a.len,xS];omega),xB,xS,tn,a.Ea l i,List.drop_succ_cons]
def El.JF(a:El T e enc sz):∀(l:List α)(i:Nat),(zF enc l).take (i*sz)=zF enc (l.take i)
 |[],i=>by simp[zF]
 |x::l,0=>by simp[zF]
 |x::l,i+1=>by rw[rH,sH,a.len,yI (by rw[a.len,xS];omega),xS,tn,a.JF l i,List.take_succ_cons,rH]
def El.aoT(a:El T e enc sz){l:List α}(b:i<I l):((zF enc l).drop (i*sz)).take sz=ah (enc l[i]):=by rw[a.Ea,List.drop_eq_getElem_cons b,rH,sH,a.len,Nat.sub_self,List.take_zero,ye,yI (by rw[a.len];omega)]
def El.aai(a:El T e enc sz){l:List α}(b:i<I l)(x:α):(zF enc l).take (i*sz)++(ah (enc x)++(zF enc l).drop (i*sz+sz))=zF enc (l.set i x):=by rw[show i*sz+sz=(i+1)*sz from by rw[xS],a.JF,a.Ea,List.set_eq_take_append_cons_drop,if_pos b,GD,rH]
def El.G1(c:El T e enc sz)(d:∀a b,ah (enc a)=ah (enc b)->a=b):∀{l m:List α},zF enc l=zF enc m->l=m
 |[],[],_=>rfl
 |[],y::m,h=>by have:=congrArg I h;rw[c.ia,c.ia,yo,xS]at this;have:=c.pos;simp at*;omega
 |x::l,[],h=>by have:=congrArg I h;rw[c.ia,c.ia,yo,xS]at this;have:=c.pos;simp at*;omega
 |x::l,y::m,h=>by rw[rH,rH]at h;let⟨h1,f⟩:=List.append_inj h (by rw[c.len,c.len]);rw[d _ _ h1,c.G1 d f]
def El.R0(a:El T e enc sz){x:α}{e':zQ}{g:Bool}(b:ae h n (K (ah (enc x)) e' g)):zH h (I [x]) sz (zL (pO n) 1 k)=O (zF enc [x]):=by show rK 0 (z7 1 sz) (rD (h.g n))=_;rw[b];show cut (ah (enc x)) 0 (1*sz)=_;rw[Sym.nw (by rw[a.len];omega),yY,yI (by rw[a.len];omega),Am.qA]
def Ju{l:List α}{off:Nat}{fG:List E}{p:Array FieldStep}:zH h k sz (zU (.via off p (I l) G) ⟨l.map enc⟩ ⟨fG⟩)=O (zF enc ((l.drop off).take k)):=by show O ((((l.map enc).drop off).take k).flatMap ah)=_;rw[<-List.map_drop,<-List.map_take,qB]
end
end
section
variable{T:au}{P:zo}{C:aV}
def Zi{args:List E}:af T C (n+1) (.call (zU (yc k) #[] #[]) args h U)=Nb T (af T C n) k args h (h.g k):=
 GJ (T:=T) (C:=pP C) (t:=.call (zU (yc k) #[] #[]) args h U) rfl n
def FX:yG->yG
 |.rangeFunc _ _ a _=>a
 |_=>.skip
def nZ:yG->yG
 |.rangeFunc _ _ _ b=>b
 |_=>.skip
def Re(a:xZ){s:S}:af T C (n+1) (.unwind a s o)=JY T (af T C n) a o s:=GJ (T:=T) (C:=pP C) (t:=.unwind a s o) rfl n
def eJ(a:List Nat):List zc:=a.map λb=>{target:=xV b,args:= #[]}
def iR(h:H):List Nat->H
 |[]=>h
 |b::a=>iR (h.p b (.Df U)) a
def Cv:∀(a:List Nat)(h:H)(j:Nat),j∉a->(iR h a).g j=h.g j
 |[],_,_,_=>rfl
 |b::a,h,j,c=>by show(iR (h.p b (.Df U)) a).g j=_;rw[Cv a _ j (λq=>c (by simp[q])),rF h _ (λq=>c (by simp[q]))]
def I9:∀(a:List Nat)(h:H),(iR h a).b=h.b
 |[],_=>rfl
 |b::a,h=>by show(iR (h.p b (.Df U)) a).b=_;rw[I9 a,Bf]
def Q2:∀(a:List Nat)(h:H),(iR h a).n=h.n
 |[],_=>rfl
 |b::a,h=>by show(iR (h.p b (.Df U)) a).n=_;rw[Q2 a,jQ]
def MV{e:xZ}:∀(a:List Nat)(n:Nat)(c:Tr E)(h:H)(d:Option (List zO)),a.Nodup->(∀b∈a,h.g b=O (.Df (O [])))->
 af T C (n+I a+1) (.unwind e ⟨c,eJ a,h,d⟩ U)=fw d (zJ T c e.results.toList (iR h a))
 |[],n,c,h,d,_,_=>oi (T:=T) (C:=C) n e c h d
 |b::a,n,c,h,d,f,g=>by rw[Re];show Jq (af T C (n+I (b::a))) e (eJ a) c h d U b (h.g b)=_;rw[g b (by simp)];show af T C (n+(I a+1)) (.unwind e ⟨c,eJ a,h.p b (.Df U),d⟩ U)=_;have i:=(List.nodup_cons.1 f);rw[<-yp,MV a n c _ d i.2 (λj k=>by rw[rF h _ (λq=>by subst q;exact i.1 k)];exact g j (by simp[k]))];rfl
def jW(N R:S->Prop)(X:Nat->S->Prop):ag->Prop
 |.c .Nr s=>N s
 |.c .ret s=>R s
 |.c (.exit i) s=>X i s
 |_=>False
def jW.cases{N R:S->Prop}{X:Nat->S->Prop}{a:ag}(h:jW N R X a):(∃s,a=.c .Nr s/\N s)\/(∃s,a=.c .ret s/\R s)\/∃i s,a=.c (.exit i) s/\X i s:=by
 unfold jW at h;split at h
 .exact zq ⟨_,rfl,h⟩
 .exact zt (zq ⟨_,rfl,h⟩)
 .exact zt (zt ⟨_,_,rfl,h⟩)
 .cases h
def jW.mono{N R N' b:S->Prop}{X c:Nat->S->Prop}{a:ag}(h:jW N R X a)(d:∀s,N s->N' s)(e:∀s,R s->b s)(f:∀i s,X i s->c i s):jW N' b c a:=by
 rcases h.cases with⟨s,rfl,q⟩|⟨s,rfl,q⟩|⟨i,s,rfl,q⟩
 .exact d _ q
 .exact e _ q
 .exact f _ _ q
namespace Sym
@[simp] theorem aBi{N R:S->Prop}(X:Nat->S->Prop){s:S}:jW N R X (.c .Nr s)=N s:=rfl
@[simp] theorem aC1{N R:S->Prop}(X:Nat->S->Prop){s:S}:jW N R X (.c .ret s)=R s:=rfl
@[simp] theorem aCc{N R:S->Prop}(X:Nat->S->Prop){s:S}:jW N R X (.c (.exit i) s)=X i s:=rfl
end Sym
def ajz{N b R:S->Prop}{X:Nat->S->Prop}{k:S->ag}{a:ag}(c:jW b R X a)(d:∀s,b s->jW N R X (k s)):jW N R X (jm k a):=by
 rcases c.cases with⟨s,rfl,q⟩|⟨s,rfl,q⟩|⟨i,s,rfl,q⟩
 .exact d _ q
 .exact q
 .exact q
def Rv{a:Fr}{y:yG}{s:S}{N N' R:S->Prop}{X:Nat->S->Prop}(b:jW N' R X (aw T V a x s))(c:∀s,N' s->jW N R X (aw T V a y s)):jW N R X (aw T V a (zS x y) s):=by rw[Sym.run_seq];exact ajz b c
def agZ{N R:S->Prop}{X:Nat->S->Prop}{a:ag}(h:jW N R (λi s=>(i=n->N s)/\(i≠n->X i s)) a):jW N R X (lq n a):=by
 rcases h.cases with⟨s,rfl,q⟩|⟨s,rfl,q⟩|⟨i,s,rfl,q⟩
 .exact q
 .exact q
 .rw[Sym.Jg];by_cases e:i=n
  .rw[ek e];exact q.1 e
  .rw[jh e];exact q.2 e
def atu{g:Fr}(k:Nat)(a:Nat->S->Prop)(R:S->Prop)(X:Nat->S->Prop)
 (b:∀j s m,a j s->k<=m->jW (λc=>∃d,d<j/\a d c) R X (aw T (af T C m) g x s)):∀m j s,a j s->j+k<=m->jW ca R X (aw T (af T C m) g (.loop x) s):=by
 intro m;induction m with
 |zero=>
  intro j s f h;rcases(b j s 0 f (by omega)).cases with⟨c,e,d,l,_⟩|⟨c,e,q⟩|⟨i,c,e,q⟩
  .omega
  .rw[Sym.fJ,e];exact q
  .rw[Sym.fJ,e];exact q
 |succ m n=>
  intro j s f h;rcases(b j s (m+1) f (by omega)).cases with⟨c,e,d,l,o⟩|⟨c,e,q⟩|⟨i,c,e,q⟩
  .rw[Sym.fJ,e,Sym.MB,NC];exact n d c o (by omega)
  .rw[Sym.fJ,e];exact q
  .rw[Sym.fJ,e];exact q
def ah3{c:Fr}{s:S}{N R:S->Prop}{X:Nat->S->Prop}(k:Nat)(a:Nat->S->Prop)(j:Nat)(f:a j s)(g:j+k<=m)
 (b:∀j s m,a j s->k<=m->jW (λh=>∃d,d<j/\a d h) R (λi s=>i=n/\N s) (aw T (af T C m) c x s)):jW N R X (aw T (af T C m) c (.block n (.loop x)) s):=by
 rw[Sym.hU];exact agZ ((atu k a R (λi s=>i=n/\N s) b m j s f g).mono dN fP (λi s q=>⟨λ_=>q.2,λe=>absurd q.1 e⟩))
def Hs{g:zZ}{f:Operand}{ps:Array Tmp}{a b:yG}{tm:Tr E}{df:List zc}{c:H}{r:kz}(e:aA tm f=O N)
 (i:af T C (n+1) (.call N [zU (yc (h.n+1)) #[] #[]] ((h.w (.Df (O []))).w (.Lo {state:=.ready,pending:=U,fn:=g,tmps:=tm,params:=ps,assign:=a,body:=b,defers:=h.n})) U)=.r v c o)
 (j:ae c (h.n+1) (.Lo r))(k:(r.state=.ready/\r.pending=U)\/(r.state=.done/\r.pending=O .ret)):
 aw T (af T C (n+1)) ⟨g,U⟩ (.rangeFunc f ps a b) ⟨tm,df,h,U⟩=.c (match r.pending with|none=>.Nr|some _=>.ret) ⟨tm,{target:=xV h.n,args:= #[]}::df,c.p (h.n+1) (.Lo {r with state:=.exhausted}),U⟩:=by
 rw[Sym.Xx];show Jo (af T C (n+1)) ⟨g,U⟩ ps a b ⟨tm,df,h,U⟩ (aA tm f)=_;rw[e];have l:(h.w (.Df (O []))).n=h.n+1:=jR _ _;show NP (af T C (n+1)) ⟨g,U⟩ ⟨tm,{target:=xV h.n,args:= #[]}::df,h.w (.Df (O [])),U⟩ (h.w (.Df (O []))).n (af T C (n+1) (.call N [zU (yc (h.w (.Df (O []))).n) #[] #[]] ((h.w (.Df (O []))).w (.Lo {state:=.ready,pending:=U,fn:=g,tmps:=tm,params:=ps,assign:=a,body:=b,defers:=h.n})) U))=_;rw[l,i];show Sn (af T C (n+1)) ⟨g,U⟩ ⟨tm,{target:=xV h.n,args:= #[]}::df,h.w (.Df (O [])),U⟩ (h.n+1) c (c.g (h.n+1))=_;rw[j];show JQ (af T C (n+1)) ⟨g,U⟩ ⟨tm,{target:=xV h.n,args:= #[]}::df,h.w (.Df (O [])),U⟩ (h.n+1) c r=_;unfold JQ;rcases k with⟨d,c⟩|⟨d,c⟩
 .rw[d,c]
 .rw[d,c];rfl
def avB:Ex->Bool
 |.Nr=>Y
 |_=>G
def qX(r:kz):Ex->kz
 |.Nr=>r
 |_=>{r with state:=.done,pending:=O .ret}
def Kj{g:zZ}{fn:xZ}{ps:Array Tmp}{a b:yG}{tm:Tr E}{args:List E}{r:kz}(p:r={state:=.ready,pending:=U,fn:=g,tmps:=q,params:=ps,assign:=a,body:=b,defers:=m})
 (s:ae h k (.Lo r))(t:h.b=0)(u:T.f g=O fn)(v:oT ps.toList args q=O tm)(f:(ck fn.ntmps a&&ck fn.ntmps b)=Y){fQ:Tr E}{h1:H}(w:aw T (af T C n) ⟨g,O k⟩ a ⟨tm,[],h,U⟩=.c .Nr ⟨fQ,[],h1,U⟩)
 (i:ae h1 k (.Lo r)){c:Tr E}{d:H}{e:Ex}(x:e=.Nr\/e=.ret)(j:aw T (af T C n) ⟨g,O k⟩ b ⟨fQ,[],h1.p k (.Lo {r with state:=.busy}),U⟩=.c e ⟨c,[],d,U⟩)
 (o:ae d k (.Lo {r with state:=.busy})):
 af T C (n+1) (.call (zU (yc k) #[] #[]) args h U)=.r (.bool (avB e)) (d.p k (.Lo (qX r e))) U:=by
 subst p;rw[Zi,s];show JT T (af T C n) k h _ (oT ps.toList args q) (T.f g)=_;rw[v,u];show cond (ck fn.ntmps a&&ck fn.ntmps b) (JD T (af T C n) k _ (aw T (af T C n) ⟨g,O k⟩ a ⟨tm,[],h.az k,U⟩)) .f=_;rw[f,cond_true,Ae t,w];show Jp T (af T C n) ⟨fQ,[],h1,U⟩ k _ (h1.g k)=_;rw[i];show JS k (aw T (af T C n) ⟨g,O k⟩ b ⟨fQ,[],h1.p k (.Lo {state:=.busy,pending:=U,fn:=g,tmps:=q,params:=ps,assign:=a,body:=b,defers:=m}),U⟩)=_;rw[j];show JC ⟨c,[],d,U⟩ k e (d.g k)=_;rw[o];rcases x with rfl|rfl<;>rfl
structure Iter(T:au)(C:aV)(yv:E){β:Type}(enc:β->List E)(l:List β)(N c:Nat)(W:Nat->H->Prop)(Zz:H->Prop):Prop where
 base:∀k h,W k h->h.b=0
 ge:∀k h,W k h->N<=h.n
 AO:∀k h h',W k h->h'.b=0->h.n<=h'.n->(∀j,j<N->h'.g j=h.g j)->W k h'
 step:∀k(hk:k<I l) h n,W k h->c<=n->∃b h',af T C n (.call yv (enc l[k]) h U)=.r (.bool b) h' U/\h'.b=0/\h.n<=h'.n/\(∀j,N<=j->j<h.n->h'.g j=h.g j)/\(b=Y->W (k+1) h')/\(b=G->Zz h')
def acY(T:au)(C:aV)(f:E)(b:A->List E)(l:List A)(g:Nat):Prop:=
 ∀(e N c:Nat)(W:Nat->H->Prop)(a:H->Prop),Iter T C (zU (yc e) #[] #[]) b l N c W a->∀h n,W 0 h->c+g<=n->∃d v,af T C n (.call f [zU (yc e) #[] #[]] h U)=.r v d U/\(W (I l) d\/a d)
def Rw{j:xZ}{args:List E}{d h2:H}{bs:List Nat}{vs:List E}{e:Ex}(o:T.f f=O j)(p:j.body=O x){k:List yR}(l:j.results.toList=k)
 (q:e=.Nr\/e=.ret)(a:aw T (af T C (n+I bs+1)) ⟨f,U⟩ x ⟨bF args 0 .Nl,[],h,U⟩=.c e ⟨r,eJ bs,d,U⟩)(i:bs.Nodup)(m:∀b∈bs,d.g b=O (.Df (O [])))
 (o0:Am.zJ T r k (iR d bs)=.ok vs h2):cB T (af T C (n+I bs+1)) f args h U (T.f f)=fw U (.ok vs h2):=by
 rw[o,Sym.rC,p,Sym.rB,a];rcases q with rfl|rfl
 .rw[Sym.xv,MV bs n r d U i m,l,o0]
 .rw[Sym.zg,MV bs n r d U i m,l,o0]
end
section
variable{T:au}{P:zo}
def kg(T:au)(P:zo)(g:zZ)(a:A->Prop)(b:A->List E)(c:A->MO):Prop:=∀x,a x->∀h,bP T P (zU (za g) #[] #[]) (b x) h U ((c x).bi h)
def kg.UW{g:zZ}{pre :A->Prop}{a:A->List E}{b:A->MO}(h:kg T P g pre a b)(c:∀x,L x->pre x):kg T P g L a b:=λx d=>h x (c x d)
open Classical in
def Fi(a:A->Prop)(b:A->List E)(c:A->MO)(args:List E)(h:H):Option ag:=
 if d:∃x,a x/\b x=args then O ((c (yE d)).bi h)else U
def jL{g:zZ}{b:A->List E}{out:A->MO}{C:aV}(d:aR T P C)(f:kg T P g L b out):aR T P (bY g (Fi L b out) C):=by
 intro i args h a e;by_cases c:i=g
 .subst c;rw[gC]at e;unfold Fi at e;split at e
  .rename_i j;cases e;let⟨k,l⟩:=zk j;have:=f _ k h;rw[l]at this;exact this
  .cases e
 .rw[jk c]at e;exact d _ _ _ _ e
def bS(C:aV)(g:zZ)(a:A->Prop)(b:A->List E)(out:A->MO):Prop:=∀x,a x->∀h,C g (b x) h=O ((out x).bi h)
def bS.add{g:zZ}{a:A->List E}{out:A->MO}{C:aV}(d:∀x y,L x->L y->a x=a y->out x=out y):bS (bY g (Fi L a out) C) g L a out:=by intro x c h;rw[gC];unfold Fi;have b:∃y,L y/\a y=a x:=⟨x,c,rfl⟩;rw[dif_pos b,d _ _ (zk b).1 c (zk b).2]
def bS.skip{g :zZ}{a:A->List E}{b:A->MO}{C:aV}{c:List E->H->Option ag}(d:g≠f)(h:bS C g L a b):bS (bY f c C) g L a b:=
 λx e m=>by rw[jk d];exact h x e m
def bS.ev{g:zZ}{pre:A->Prop}{a:A->List E}{out:A->MO}{C:aV}(h:bS C g pre a out)(n:Nat){x:A}(b:pre x)(m:H):af T C n (aj g (a x) m)=(out x).bi m:=ji n (h x b m)
def bS.FY{a:A->List E}{b:A->MO}{C:aV}(h:bS C f L a b)(n:Nat){x:A}(c:L x){args :List E}(d:a x=args++l)(m:H):
 af T C n (.call (zU (za f) ⟨[]⟩ ⟨l⟩) args m U)=(b x).bi m:=GZ n (by rw[xB,<-d];exact h x c m)
def Has.FY{b:A->List E}{a:A->E}{C:aV}(h:Has C f L b a)(n:Nat){x:A}(c:L x){args :List E}(d:b x=args++l)(m:H):
 af T C n (.call (zU (za f) ⟨[]⟩ ⟨l⟩) args m U)=.r (a x) m U:=GZ n (by rw[xB,<-d];exact h x c m)
open Classical in
def Pq(a:List E->H->List Nat)(b:A->Prop)(c:A->List E)(d:A->MO)(args:List E)(h:H):Option ag:=
 if e:∃x,b x/\h.mV (a args h)/\DL (jC h (a args h)) args (c x)then O ((d (yE e)).bi (h.bx (a args h)))else U
def QT{g:zZ}{eM:List E->H->List Nat}{b:A->List E}{c:A->MO}{C:aV}(e:aR T P C)(f:kg T P g L b c):aR T P (bY g (Pq eM L b c) C):=by
 intro i args h a q;by_cases d:i=g
 .subst d;rw[gC]at q;unfold Pq at q;split at q
  .rename_i j;cases q;let⟨k,l,m⟩:=zk j;exact GS (f _ k _) l m
  .cases q
 .rw[jk d]at q;exact e _ _ _ _ q
def oZ(C:aV)(g:zZ)(eM:List E->H->List Nat)(a:A->Prop)(b:A->List E)(c:A->MO):Prop:=
 ∀x,a x->∀args h,h.mV (eM args h)->DL (jC h (eM args h)) args (b x)->C g args h=O ((c x).bi (h.bx (eM args h)))
def oZ.add{g:zZ}{eM:List E->H->List Nat}{a:A->List E}{out:A->MO}{C:aV}(f:∀b args x y,L x->L y->DL b args (a x)->DL b args (a y)->out x=out y):
 oZ (bY g (Pq eM L a out) C) g eM L a out:=by
 intro x c args h i d;rw[gC];unfold Pq;have e:∃x,L x/\h.mV (eM args h)/\DL (jC h (eM args h)) args (a x):=⟨x,c,i,d⟩;rw[dif_pos e];let⟨j,l,k⟩:=zk e;rw[f _ _ _ _ j c k d]
def oZ.skip{g :zZ}{eM:List E->H->List Nat}{a:A->List E}{b:A->MO}{C:aV}{c:List E->H->Option ag}(d:g≠f)(h:oZ C g eM L a b):
 oZ (bY f c C) g eM L a b:=λx e args m i j=>by rw[jk d];exact h x e args m i j
def oZ.ev{g:zZ}{a:List E->H->List Nat}{pre:A->Prop}{b:A->List E}{out:A->MO}{C:aV}(h:oZ C g a pre b out)(n:Nat){x:A}(c:pre x){args:List E}{m:H}
 (h1:m.mV (a args m))(h2:DL (jC m (a args m)) args (b x)):af T C n (aj g args m)=(out x).bi (m.bx (a args m)):=ji n (h x c args m h1 h2)
def aoU{a:A->List E}{b:A->MO}(c:A->Nat)(step:∀x,L x->kg T P f (λy=>c y<c x/\L y) a b->∀h,bP T P (zU (za f) #[] #[]) (a x) h U ((b x).bi h)):
 kg T P f L a b:=by
 have d:∀n x,c x<n->L x->∀h,bP T P (zU (za f) #[] #[]) (a x) h U ((b x).bi h):=by
  intro n;induction n with
  |zero=>intro x i;omega
  |succ n j=>intro x i e;exact step x e λy k=>j y (by omega) k.2
 exact λx e=>d _ x (Nat.lt_succ_self _) e
def ay(N R:S->Prop)(X:Nat->S->Prop)(Q:List zO->S->Prop):ag->Prop
 |.c .Nr s=>N s
 |.c .ret s=>R s
 |.c (.exit i) s=>X i s
 |.c (.panic c) s=>Q c s
 |_=>False
namespace Sym
variable{N R:S->Prop}{X:Nat->S->Prop}{Q:List zO->S->Prop}
@[simp] theorem Gz{s:S}:ay N R X Q (.c .Nr s)=N s:=rfl
@[simp] theorem Zj{s:S}:ay N R X Q (.c .ret s)=R s:=rfl
@[simp] theorem aCd{s:S}:ay N R X Q (.c (.exit i) s)=X i s:=rfl
@[simp] theorem ag0{s:S}{c:List zO}:ay N R X Q (.c (.panic c) s)=Q c s:=rfl
end Sym
section
variable{N R N' R':S->Prop}{X X':Nat->S->Prop}{Q Q':List zO->S->Prop}{a:ag}{C:aV}
def ay.cases(h:ay N R X Q a):(∃s,a=.c .Nr s/\N s)\/(∃s,a=.c .ret s/\R s)\/(∃i s,a=.c (.exit i) s/\X i s)\/∃c s,a=.c (.panic c) s/\Q c s:=by
 unfold ay at h;split at h
 .exact zq ⟨_,rfl,h⟩
 .exact zt (zq ⟨_,rfl,h⟩)
 .exact zt (zt (zq ⟨_,_,rfl,h⟩))
 .exact zt (zt (zt ⟨_,_,rfl,h⟩))
 .cases h
def ay.Mo(h:ay N R X Q a)(b:∀s,N s->N' s)(d:∀s,R s->R' s)(e:∀i s,X i s->X' i s)(f:∀c s,Q c s->Q' c s):ay N' R' X' Q' a:=by
 rcases h.cases with⟨s,rfl,q⟩|⟨s,rfl,q⟩|⟨i,s,rfl,q⟩|⟨c,s,rfl,q⟩
 .exact b _ q
 .exact d _ q
 .exact e _ _ q
 .exact f _ _ q
def aD.toQ{c d:Tr E->H->Prop}{e:Nat->Tr E->H->Prop}(h:aD c d e a)(f:∀b m,c b m->N ⟨b,[],m,U⟩)(g:∀b m,d b m->R ⟨b,[],m,U⟩)(j:∀i b m,e i b m->X i ⟨b,[],m,U⟩):ay N R X Q a:=by
 rcases h.cases with⟨b,m,rfl,q⟩|⟨b,m,rfl,q⟩|⟨i,b,m,rfl,q⟩
 .exact f _ _ q
 .exact g _ _ q
 .exact j _ _ _ q
def ajA{k:S->ag}(b:ay N' R X Q a)(d:∀s,N' s->ay N R X Q (k s)):ay N R X Q (jm k a):=by
 rcases b.cases with⟨s,rfl,q⟩|⟨s,rfl,q⟩|⟨i,s,rfl,q⟩|⟨c,s,rfl,q⟩
 .exact d _ q
 .exact q
 .exact q
 .exact q
def iw{ev:zC->ag}{a:Fr}{y:yG}{s:S}(b:ay N' R X Q (aw T ev a x s))(c:∀s,N' s->ay N R X Q (aw T ev a y s)):ay N R X Q (aw T ev a (zS x y) s):=by rw[Sym.run_seq];exact ajA b c
def mM(h:ay N R (λi s=>(i=n->N s)/\(i≠n->X i s)) Q a):ay N R X Q (lq n a):=by
 rcases h.cases with⟨s,rfl,q⟩|⟨s,rfl,q⟩|⟨i,s,rfl,q⟩|⟨c,s,rfl,q⟩
 .exact q
 .exact q
 .rw[Sym.Jg];by_cases e:i=n
  .rw[ek e];exact q.1 e
  .rw[jh e];exact q.2 e
 .exact q
def atv{h:Fr}(k:Nat)(a:Nat->S->Prop)
 (b:∀j s m,a j s->k<=m->ay (λd=>∃f,f<j/\a f d) R X Q (aw T (af T C m) h x s)):∀m j s,a j s->j+k<=m->ay ca R X Q (aw T (af T C m) h (.loop x) s):=by
 intro m;induction m with
 |zero=>
  intro j s g l;rcases(b j s 0 g (by omega)).cases with⟨d,e,f,n,_⟩|⟨d,e,q⟩|⟨i,d,e,q⟩|⟨c,d,e,q⟩
  .omega
  .rw[Sym.fJ,e];exact q
  .rw[Sym.fJ,e];exact q
  .rw[Sym.fJ,e];exact q
 |succ m o=>
  intro j s g l;rcases(b j s (m+1) g (by omega)).cases with⟨d,e,f,n,p⟩|⟨d,e,q⟩|⟨i,d,e,q⟩|⟨c,d,e,q⟩
  .rw[Sym.fJ,e,Sym.MB,NC];exact o f d p (by omega)
  .rw[Sym.fJ,e];exact q
  .rw[Sym.fJ,e];exact q
  .rw[Sym.fJ,e];exact q
def pE{c:Fr}{s:S}(k:Nat)(a:Nat->S->Prop)(j:Nat)(f:a j s)(g:j+k<=m)
 (b:∀j s m,a j s->k<=m->ay (λh=>∃d,d<j/\a d h) R (λi s=>i=n/\N s) Q (aw T (af T C m) c x s)):ay N R X Q (aw T (af T C m) c (.block n (.loop x)) s):=by
 rw[Sym.hU];exact mM ((atv k a b m j s f g).Mo dN fP (λi s q=>⟨λ_=>q.2,λe=>absurd q.1 e⟩) bT)
end
def bG(T:au)(b:List yR)(g:H->Nat->Option ai)(out:MO)(s:S):Prop:=s.df=[]/\s.ab=U/\∃v d a,out=.ret d/\fw U (zJ T s.tm b s.h)=.r v a U/\DV (g a) v d
def iX(g:H->Nat->Option ai)(a:MO)(c:List zO)(s:S):Prop:=s.df=[]/\s.ab=U/\∃v d,a=.aU d/\c=[⟨v,G,G⟩]/\DV (g s.h) v d
inductive Db(g:H->Nat->Option ai):ag->MO->Prop
 |ret {v d:E} {h1:H} (hd:DV (g h1) v d):Db g (.r v h1 U) (.ret d)
 |aU {v d:E} {h1:H} (hd:DV (g h1) v d):Db g (.p [⟨v,G,G⟩] h1 U) (.aU d)
def aoV{C:aV}{s:H->Nat->Option ai}{w:xZ}{args:List E}{i:MO}(B:T.f f=O w)(F:w.body=O x){l:List yR}(A:w.results.toList=l)
 (k:ay (bG T l s i) (bG T l s i) (λ_ _=>False) (iX s i) (aw T (af T C (n+1)) ⟨f,U⟩ x ⟨bF args 0 .Nl,[],h,U⟩)):
 Db s (cB T (af T C (n+1)) f args h U (T.f f)) i:=by
 rw[B,Sym.rC,F,Sym.rB];rcases k.cases with⟨⟨t,m,u,o⟩,e,a,b,v,d,y,p,j,r⟩|⟨⟨t,m,u,o⟩,e,a,b,v,d,y,p,j,r⟩|⟨_,_,_,q⟩|⟨L,⟨t,m,u,o⟩,e,a,b,v,d,p,j,r⟩
 .rw[e,Sym.xv];have a:m=[]:=a;have b:o=U:=b;subst a;subst b;subst p;rw[oi,A];have j:fw U (zJ T t l u)=.r v y U:=j;rw[j];exact .ret r
 .rw[e,Sym.zg];have a:m=[]:=a;have b:o=U:=b;subst a;subst b;subst p;rw[oi,A];have j:fw U (zJ T t l u)=.r v y U:=j;rw[j];exact .ret r
 .cases q
 .rw[e,Sym.DW];have a:m=[]:=a;have b:o=U:=b;subst a;subst b;subst p;subst j;rw[Ra];exact .aU r
def Db.toA2{d:H->Nat->Option ai}{a:ag}{b:MO}(h:Db d a b)(e:H):∃h1,a.fin=O (h1,U)/\KK (d h1) a e (b.bi e):=by
 cases h with
 |ret c=>exact⟨_,rfl,.ret c⟩
 |aU c=>exact⟨_,rfl,.aU c⟩
def TI(a:bM T P){args:List E}{out:MO}(C:aV)(c:aR T P C)(d:bX args)(n:Nat)(b:Db (λh=>h.g) (cB T (af T C n) f args H.e U (T.f f)) out)(h:H):
 bP T P (zU (za f) #[] #[]) args h U (out.bi h):=by
 let⟨h1,e,i⟩:=b.toA2 h;exact Zh a (pI a c n) d rfl e i
def mi(b:bM T P){d:xZ}{args:List E}{out:MO}(C:aV)(i:aR T P C)(j:bX args)(n:Nat)(k:T.f f=O d)(l:d.body=O x){e:List yR}(m:d.results.toList=e)
 (a:ay (bG T e (λh=>h.g) out) (bG T e (λh=>h.g) out) ap (iX (λh=>h.g) out) (aw T (af T C (n+1)) ⟨f,U⟩ x ⟨bF args 0 .Nl,[],H.e,U⟩)):
 ∀h,bP T P (zU (za f) #[] #[]) args h U (out.bi h):=TI b C i j (n+1) (aoV k l m a)
namespace Sym
variable{ev:zC->ag}
@[simp] theorem aC2{a:Option Tmp}{k:S->ag}{b:List zc}:qQ ev U a k r b h o .pT=GO U a k r b h o:=rfl
@[simp] theorem aBj{a:Option Tmp}{k:S->ag}{b:List zc}:GO U a k r b h U=k ⟨eG r .nilIface a,b,h,U⟩:=rfl
@[simp] theorem aBk{b:Option Tmp}{k:S->ag}{c:List zc}{a:List zO}:
   GO U b k r c h (O (⟨v,G,G⟩::a))=k ⟨eG r v b,c,h,O (⟨v,Y,G⟩::a)⟩:=rfl
@[simp] theorem aF3{a:Option Tmp}{k:S->ag}{b:List zc}{args:List E}:
   qQ ev U a k r b h o (.rj (zU (za f) ⟨p⟩ ⟨l⟩) args)=k ⟨eG r undef a,{target:=.fn (za f) ⟨l⟩,args:=⟨p++args⟩}::b,h,o⟩:=rfl
@[simp] theorem aC3{a:Array zQ}:execOp T r t h (.call ⟨.builtin .recover,#[],a⟩)=.pT:=rfl
@[simp] theorem aF4{a:Operand}{b:Array zQ}:execOp T r t h (.defer ⟨.value a,#[],b⟩)=Bj [] (aA r a):=rfl
@[simp] theorem aBl{args:List E}:Bj args (O v)=.rj v args:=rfl
end Sym
def G2{C:aV}{args:List E}{c:List zO}:af T C (n+1) (.call (zU (za f) ⟨[]⟩ ⟨l⟩) args h (O c))=cB T (af T C n) f (args++l) h (O c) (T.f f):=by have:=GJ (T:=T) (C:=pP C) (t:=.call (zU (za f) ⟨[]⟩ ⟨l⟩) args h (O c)) rfl n;rw[show af T C (n+1) (.call (zU (za f) ⟨[]⟩ ⟨l⟩) args h (O c))=_ from this];show cB T (af T C n) f ([]++args++l) h (O c) (T.f f)=_;rw[xB]
def oy{C:aV}(n:Nat){args:List E}(a:C f (args++l) h=U):af T C (n+1) (.call (zU (za f) ⟨[]⟩ ⟨l⟩) args h U)=cB T (af T C n) f (args++l) h U (T.f f):=by have:=GJ (T:=T) (C:=pP C) (t:=.call (zU (za f) ⟨[]⟩ ⟨l⟩) args h U) (by rw[ah0,xB];exact a) n;rw[show af T C (n+1) (.call (zU (za f) ⟨[]⟩ ⟨l⟩) args h U)=_ from this];show cB T (af T C n) f ([]++args++l) h U (T.f f)=_;rw[xB]
def GF{C:aV}(a:xZ):
 af T C (n+1) (.unwind a ⟨r,[{target:=.fn (za f) ⟨l⟩,args:=⟨[]⟩}],h,U⟩ o)=GQ (af T C n) a [] r U (af T C n (.call (zU (za f) ⟨[]⟩ ⟨l⟩) [] h o)):=rfl
def Gv{ev:zC->ag}(a:xZ):GQ ev a [] r U (.r v h o)=ev (.unwind a ⟨r,[],h,U⟩ (settled o)):=rfl
end
section
variable{T:au}{P:zo}
def H.mY(h a:H):H:=⟨a.m,a.n,h.b,h.rd,h.wr⟩
def nG(i rd wr:Nat)(l:List aG):List aG:=cond (cond (zV rd 0) (zV wr 0) G) l (⟨i,rd,wr⟩::l)
def lJ(a:Nat)(l:List aG):Bool:=l.all λx=>aN a x.i
def YA{a:Nat}{x:aG}:∀{l:List aG},lJ a l=Y->fe a x l=Y
 |[],_=>rfl
 |y::l,h=>by
  have h:(aN a y.i&&lJ a l)=Y:=h;rw[zX]at h;rw[x6];have:Am.apart a x y=Y:=by unfold Am.apart;rw[h.1];rfl
  rw[this];exact YA h.2
namespace Sym
@[simp] theorem al4:lJ n []=Y:=rfl
@[simp] theorem ajB{x:aG}{l:List aG}:lJ n (x::l)=(aN n x.i&&lJ n l):=rfl
def MW{rd wr:Nat}{l:List aG}(h:aN n i=Y)(a:lJ n l=Y):lJ n (nG i rd wr l)=Y:=by
 unfold nG;cases cond (zV rd 0) (zV wr 0) G with
 |true=>exact a
 |false=>simp[h,a]
@[simp] theorem aC4:(h.mY g).g n=g.g n:=rfl
@[simp] theorem aCe:(h.mY g).n=g.n:=rfl
@[simp] theorem aCf:(h.mY g).b=h.b:=rfl
def EQ{bs:Tr Nat}{l:List aG}{tm:Tr E}{df:List zc}{h1:H}{ab:Option (List zO)}{k:List aG->S->ag}(d:h.b=0)(j:lJ (aE bs i) l=Y):
 gG k bs l i tm df h ab h1=k (nG i h1.rd (di h h1) l) ⟨tm,df,h.mY h1,ab⟩:=by
 let⟨e,a,b1,c,b⟩:=h1;let⟨m,n,o,f,g⟩:=h;have d:o=0:=d;subst d;show kw (λp=>mf k 0 f g bs l i tm df ab e a c b p) (zi b (dr n a))=_;rw[kr];unfold mf;have q:di ⟨m,n,0,f,g⟩ ⟨e,a,b1,c,b⟩=zi b (dr n a):=rfl;show _=k (nG i c (di ⟨m,n,0,f,g⟩ ⟨e,a,b1,c,b⟩) l) _;rw[q];unfold nG;cases r:cond (zV c 0) (zV (zi b (dr n a)) 0) G with
 |true=>rfl
 |false=>rw[cond_false,cond_false,YA j];rfl
end Sym
def eu.adG{f:A->E}(d:El T t f k){x:E}{l m:List A}{e2:zQ}(a:eu f t v h l)(X:I l+I m<=1073741824)
 (hx:zH h (I m) k x=O (zF f m)):
 ∃s o,jO T h x (O (.slice t)) (O (.slice e2)) v (O (I m))=.v s o/\eu f t s o (l++m)/\h.n<=o.n/\o.n<=h.n+1/\(∀j,j<h.n->dz v j->o.g j=h.g j)/\∀j,j<h.n->dz v j->dz s j:=by
 have u:=d.cw
 have p:∀(h:H) y,(cu h y).m=h.m/\(cu h y).n=h.n:=λh y=>by
  have ht:∀b,(h.az b).m=h.m/\(h.az b).n=h.n:=λb=>⟨by rw[nv];split<;>rfl,Sym.XN h b⟩;cases y with
  |slice a _ _=>cases a with
   |none=>exact⟨rfl,rfl⟩
   |some a=>exact ht _
  |_=>exact⟨rfl,rfl⟩
 cases P:T.cw.g t with
 |none=>rw[P]at u;cases u
 |some i=>
  rw[P]at u;simp at u;have C:∀g:H,ae (g.w (K (zF f (l++m)) t Y)) g.n (K (zF f (l++m)) t Y):=λg=>by rw[ib];show(g.m.s g.n _).g g.n=_;rw[Tr.Bk,if_pos rfl]
  have F:∀(g:H),g.n=h.n->(∀j,j<h.n->dz v j->g.g j=h.g j)->
   eu f t (zL (pO g.n) (I l+I m) (I l+I m)) (g.w (K (zF f (l++m)) t Y)) (l++m)/\
   h.n<=(g.w (K (zF f (l++m)) t Y)).n/\(g.w (K (zF f (l++m)) t Y)).n<=h.n+1/\(∀j,j<h.n->dz v j->(g.w (K (zF f (l++m)) t Y)).g j=h.g j)/\∀j,j<h.n->dz v j->dz (zL (pO g.n) (I l+I m) (I l+I m)) j:=λg k1 k3=>by
   refine⟨zt ⟨g.n,by rw[jR];omega,by rw[yD],C g⟩,by rw[jR];omega,by rw[jR];omega,λj hj Q=>?_,λj hj _ b n c q=>?_⟩
   .rw[D3 g _ (by omega)];exact k3 j hj Q
   .injection q with q;injection q with q;injection q with q;omega
  have L:zV i.size 0=G:=jh (by have:=d.pos;omega);have M:ze i.bytes 65536=Y:=zb u.2;have c1:zV (dh (zF f m)) (z7 (I m) k)=Y:=by rw[fX];exact ek (d.ia m)
  rcases a with⟨rfl,rfl⟩|⟨b,hb,rfl,R⟩
  .show∃s o,jy T h t (zL U 0 0) x U 0 0 (I m) (T.cw.g t)=_/\_;rw[P];unfold jy;dsimp only;have w:ze (zl 0 (I m)) 1073741824=Y:=zb (by show 0+I m<=_;simpa using X);rw[L,M,w,d.zero,u.1,hx];have c0:zV (dh ([]:List E)) (z7 0 k)=Y:=ek (by show 0=0*k;simp);let⟨S,N⟩:=p h x;show∃s o,cond (cond (zV (dh (zF f m)) (z7 (I m) k)) (cond (zV (dh ([]:List E)) (z7 0 k)) (da (zF f m)) G) G) (bN (kO (cu h x) t (I m) (zF f m)) (.v (zL U 0 0) (cu h x)) (zV (I m) 0)) .f=_/\_;rw[c1,c0,d.qA];show∃s o,bN (kO (cu h x) t (I m) (zF f m)) (.v (zL U 0 0) (cu h x)) (zV (I m) 0)=_/\_;have B:∀j,(cu h x).g j=h.g j:=λj=>by show(cu h x).m.g j=_;rw[S];rfl
   cases m with
   |nil=>exact⟨_,_,rfl,zq ⟨rfl,rfl⟩,by rw[N];exact zR _,by rw[N];omega,λj _ _=>B j,λ_ _ h=>h⟩
   |cons y m=>
    have:=F (cu h x) N (λj _ _=>B j);simp only[sW,xF,xB]at this;exact⟨_,_,rfl,this⟩
  .show∃s o,jy T h t (zL (pO b) (I l) (I l)) x (pO b) (I l) (I l) (I m) (T.cw.g t)=_/\_;rw[P];unfold jy;dsimp only;have w:ze (zl (I l) (I m)) 1073741824=Y:=zb X;have c2:zV (dh (zF f l)) (z7 (I l) k)=Y:=by rw[fX];exact ek (d.ia l)
   have h4:zH h (I l) k (zL (pO b) (I l) (I l))=O (zF f l):=by show rK 0 (z7 (I l) k) (rD (h.g b))=_;rw[R];show cut (zF f l) 0 (I l*k)=_;rw[Sym.nw (by rw[d.ia];omega),yY,yI (by rw[d.ia];omega)]
   rw[L,M,w,d.zero,u.1,hx,h4];let⟨S,N⟩:=p h (zL (pO b) (I l) (I l));let⟨V,W⟩:=p (cu h (zL (pO b) (I l) (I l))) x;rw[S]at V;rw[N]at W;generalize hq:cu (cu h (zL (pO b) (I l) (I l))) x=r at V W;have B:∀j,r.g j=h.g j:=λj=>by show r.m.g j=_;rw[V];rfl
   show∃s o,cond (cond (zV (dh (zF f m)) (z7 (I m) k)) (cond (zV (dh (zF f l)) (z7 (I l) k)) (da (zF f m)) G) G) (kq T r b 0 t k (I l) (I l) (I m) (zF f l) (zF f m) (r.g b)) .f=_/\_;rw[c1,c2,d.qA,B b,R];show∃s o,kq T r b 0 t k (I l) (I l) (I m) (zF f l) (zF f m) (O (K (zF f l) t Y))=_/\_;cases m with
   |nil=>
    refine⟨zL (pO b) (I l) (I l),r,?_,zt ⟨b,by omega,by simp,by rw[ye,B];exact R⟩,by omega,by omega,λj _ _=>B j,λ_ _ h=>h⟩;unfold kq;have:ze (zl (I l) (I ([]:List A))) (I l)=Y:=zb (by show I l+0<=_;omega);show bN _ (bN _ _ (zV (I ([]:List A)) 0)) (ze (zl (I l) (I ([]:List A))) (I l))=_;rw[this];rfl
   |cons y m=>
    have h5:ze (zl (I l) (I (y::m))) (I l)=G:=by
     cases q:ze (zl (I l) (I (y::m))) (I l) with
     |false=>rfl
     |true=>have:I l+I (y::m)<=I l:=wb q;rw[yo]at this;omega
    have:=F (r.d b) (by rw[mR];exact W) (λj _ Q=>by rw[A8 r (Q b _ _ rfl)];exact B j);refine⟨_,_,?_,this⟩;unfold kq;show bN (mP T r b t k (zl (I l) (I (y::m))) (zl 0 (z7 (I l) k)) (il (zF f l) (zF f (y::m))) (zF f l) t Y) _ (ze (zl (I l) (I (y::m))) (I l))=_;rw[h5];show mP T r b t k (zl (I l) (I (y::m))) (zl 0 (z7 (I l) k)) (il (zF f l) (zF f (y::m))) (zF f l) t Y=_;unfold mP;rw[d.size,fX,ek (show zl 0 (z7 (I l) k)=I (zF f l) by rw[d.ia];exact xF _),Ca.qH,<-GD];show cond (zV k k) _ _=_;rw[Nat.beq_refl];rfl
def eu.form{b:A->E}{l:List A}(a:eu b t v h l):∃a n m,v=zL a n m:=by rcases a with⟨_,rfl⟩|⟨_,_,rfl,_⟩<;>exact⟨_,_,_,rfl⟩
end
end Go.Am
namespace Go.Am.Sym
open Go
def Zk(e:h.b=0)(b:Nat)(o:ai):h.mY (h.f.p b o)=h.p b o:=by
 have a:h.mark b=h:=by rw[kV,if_pos (by omega)]
 have c:(h.f.mark b).m=h.m:=by rw[kV];split<;>(rw[fm])
 have d:(h.f.mark b).n=h.n:=by rw[kV];split<;>(rw[fm])
 rw[H.p,nz,H.p,nz,a];unfold H.mY;simp only[c,d]
@[simp] theorem aBM:gh n k []=Y:=rfl
@[simp] theorem aAY{l:List aG}:gh n k (⟨i,m,0⟩::l)=gh n k l:=by
  show cond (calm n k ⟨i,m,0⟩) (gh n k l) G=_
  have:calm n k ⟨i,m,0⟩=Y:=by unfold calm;cases zV i n<;>cases aN k i<;>rfl
  rw[this];rfl
def qo{p bp:Nat}(x:aG)(l:List aG)(h:x.i=p\/aN bp x.i=Y):gh p bp (x::l)=gh p bp l:=by
 show cond (calm p bp x) (gh p bp l) G=_
 have:calm p bp x=Y:=by
  unfold calm;rcases h with h|h
  .rw[ek h];rfl
  .rw[h];cases zV x.i p<;>rfl
 rw[this];rfl
end Go.Am.Sym
namespace Go.Am
def bB(Q:Tr E->H->Prop)(s:S):Prop:=s.df=[]/\s.ab=U/\Q s.tm s.h
def bB.mk{Q:Tr E->H->Prop}(q:Q r h):bB Q ⟨r,[],h,U⟩:=⟨rfl,rfl,q⟩
def bB.elim{Q:Tr E->H->Prop}{s:S}(a:bB Q s):∃tm h,s=⟨tm,[],h,U⟩/\Q tm h:=by let⟨tm,df,h,ab⟩:=s;let⟨b,c,d⟩:=a;have b:df=[]:=b;have c:ab=U:=c;subst b;subst c;exact⟨tm,h,rfl,d⟩
def ax{T:au}{b:Fr}{y:yG}{s:S}{N R:S->Prop}{X:Nat->S->Prop}{Q:List zO->S->Prop}{Q0:Tr E->H->Prop}(c:ay (bB Q0) R X Q (aw T V b x s))
 (d:∀a h,Q0 a h->ay N R X Q (aw T V b y ⟨a,[],h,U⟩)):ay N R X Q (aw T V b (zS x y) s):=
 iw c λs e=>by obtain⟨a,h,rfl,q⟩:=e.elim;exact d a h q
def acZ(d:E)(a:ag):Prop:=∃h,a=.r d h U
@[simp] theorem Sym.aC5:acZ N (.r v h U)=(v=N):=by apply propext;exact⟨λ⟨a,e⟩=>by injection e,λe=>⟨h,by rw[e]⟩⟩
def bG.Pu{T:au}{a:List yR}{c:H->Nat->Option ai}{d:E}{b:Tr E}{h:H}(f:bH d)(g:acZ d (fw U (zJ T b a h))):bG T a c (.ret d) ⟨b,[],h,U⟩:=by let⟨i,e⟩:=g;exact⟨rfl,rfl,d,d,i,rfl,e,.Pu f⟩
def iX.pure{a:H->Nat->Option ai}{d:E}{b:Tr E}{h:H}(c:bH d):iX a (.aU d) [⟨d,G,G⟩] ⟨b,[],h,U⟩:=⟨rfl,rfl,d,d,rfl,rfl,.Pu c⟩
def bitsOf(l:List Nat):Nat:=l.foldl (λa b=>zi a (bit b)) 0
def X4(h:H):∀(l:List Nat)(m:Tr ai)(r:Nat),(∀b∈l,b<h.n)->
 (⟨m,h.n,h.n,r,r⟩:H).bx l=⟨((⟨m,h.n,h.b,h.rd,h.wr⟩:H).bx l).m,h.n,h.n,l.foldl (λa b=>zi a (bit b)) r,l.foldl (λa b=>zi a (bit b)) r⟩
 |[],_,_,_=>rfl
 |b::l,m,r,i=>by
  have q:b<h.n:=i b (by simp)
  have k:(⟨m,h.n,h.n,r,r⟩:H).d b=⟨m.del b,h.n,h.n,zi r (bit b),zi r (bit b)⟩:=by rw[H.d,pM,kV,if_neg (by show¬h.n<=b;omega)]
  have n:∀c:List Nat,(((⟨m,h.n,h.b,h.rd,h.wr⟩:H).d b).bx c).m=((⟨m.del b,h.n,h.b,h.rd,h.wr⟩:H).bx c).m:=λc=>by
   have g:∀(c:List Nat)(d f:H),d.m=f.m->(d.bx c).m=(f.bx c).m:=by
    intro c;induction c with
    |nil=>intro d f e;exact e
    |cons x c o=>
     intro d f e;refine o _ _ ?_
     have j:∀h:H,(h.d x).m=h.m.del x:=λh=>by
      rw[H.d,pM];have:(h.mark x).m=h.m:=by rw[kV];split<;>rfl
      show(h.mark x).m.del x=_;rw[this]
     rw[j,j,e]
   refine g c _ _ ?_;rw[H.d,pM];have:((⟨m,h.n,h.b,h.rd,h.wr⟩:H).mark b).m=m:=by rw[kV];split<;>rfl
   show(((⟨m,h.n,h.b,h.rd,h.wr⟩:H).mark b).m).del b=m.del b;rw[this]
  show((⟨m,h.n,h.n,r,r⟩:H).d b).bx l=⟨(((⟨m,h.n,h.b,h.rd,h.wr⟩:H).d b).bx l).m,_,_,_,_⟩;rw[k,X4 h l (m.del b) (zi r (bit b)) (λx p=>i x (by simp[p])),n l];rfl
def rI{h:H}(hb:h.b=0):∀(l:List Nat),(h.bx l).n=h.n/\(h.bx l).b=0/\(h.bx l).rd=h.rd/\(h.bx l).wr=h.wr
 |[]=>⟨rfl,hb,rfl,rfl⟩
 |b::l=>by
  have e:(h.d b)=⟨h.m.del b,h.n,h.b,h.rd,h.wr⟩:=by rw[H.d,pM,kV,if_pos (by omega)]
  have a:=rI (h:=h.d b) (by rw[e];exact hb) l;rw[e]at a
  have c:h.bx (b::l)=(⟨h.m.del b,h.n,h.b,h.rd,h.wr⟩:H).bx l:=by show(h.d b).bx l=_;rw[e]
  rw[c];exact a
def kQ{h:H}:∀{l:List Nat}{j:Nat},j∉l->(h.bx l).g j=h.g j
 |[],_,_=>rfl
 |b::l,j,a=>by show((h.d b).bx l).g j=_;rw[kQ (λq=>a (by simp[q])),A8 h (λq=>a (by simp[q]))]
def ajC{l:List Nat}:zV (bitsOf (n::l)) 0=G:=by
 have c:∀(l:List Nat)(r x:Nat),r.testBit x=Y->(l.foldl (λa n=>zi a (bit n)) r).testBit x=Y:=by
  intro l;induction l with
  |nil=>intro r x h;exact h
  |cons n l d=>intro r x h;exact d _ _ (rA h)
 refine jh λe=>?_;have:=c l (zi 0 (bit n)) n (DT (D1 n));have e:(l.foldl (λa n=>zi a (bit n)) (zi 0 (bit n)))=0:=e;rw[e]at this;simp at this
namespace Sym
def YB{d:Tr Nat}{l:List aG}{k:List aG->S->ag}{a:List Nat}(hb:h.b=0)(c:∀x∈n::a,x<h.n)
 (ha:fe (aE d i) ⟨i,bitsOf (n::a),bitsOf (n::a)⟩ l=Y):gG k d l i r X h o (h.f.bx (n::a))=k (⟨i,bitsOf (n::a),bitsOf (n::a)⟩::l) ⟨r,X,h.bx (n::a),o⟩:=by
 have e:h.f.bx (n::a)=⟨(h.bx (n::a)).m,h.n,h.n,bitsOf (n::a),bitsOf (n::a)⟩:=by rw[fm];have:=X4 h (n::a) h.m 0 c;rw[this];rfl
 let⟨f,g,j,m⟩:=rI hb (n::a);rw[e,Cz (rd:=bitsOf (n::a)) (wr:=bitsOf (n::a)) (hb:=hb) (hr:=rfl) (hw:=by show zi _ (dr h.n h.n)=_;rw[DX,Sw]) (hz:=by rw[ajC];rfl) (ha:=ha)]
 have:h.bx (n::a)=⟨(h.bx (n::a)).m,h.n,h.b,h.rd,h.wr⟩:=by rw[<-f,<-j,<-m,hb];rw[<-g]
 rw[<-this]
def A9{a:Tr Nat}{l:List aG}{k:List aG->S->ag}(hb:h.b=0)(c:n<h.n)
 (ha:fe (aE a i) ⟨i,bit n,0⟩ l=Y):gG k a l i r X h o (h.f.az n)=k (⟨i,bit n,0⟩::l) ⟨r,X,h,o⟩:=by
 have e:h.f.az n=⟨h.m,h.n,h.n,bit n,0⟩:=by rw[nv,if_neg (by rw[GK];omega),fm];show(⟨_,_,_,zi 0 (bit n),_⟩:H)=_;rw[qz]
 rw[e,Cz (rd:=bit n) (wr:=0) (hb:=hb) (hr:=rfl) (hw:=by show zi 0 (dr h.n h.n)=0;rw[DX];rfl) (hz:=by rw[CJ];rfl) (ha:=ha)]
def ajD{c:Tr Nat}{k:List aG->S->ag}{a:ai}(hb:h.b=0)(cA:n<h.n):
 gG k c [] i r X h o (h.f.p n a)=k [⟨i,bit n,bit n⟩] ⟨r,X,h.p n a,o⟩:=cV (hb:=hb) (cA:=cA) (ha:=rfl) ..
end Sym
def avC:E->Option Nat
 |.pointer (O a)=>O a.block
 |_=>U
def UX:List E->H->List Nat:=λargs _=>match args with
 |.func _ _ a::_=>a.toList.filterMap avC
 |_=>[]
def ny{l:List Nat}{o:ai}(a:n∈l)(c:ae h n o):jC h l n=O o:=by unfold jC;rw[if_pos a];exact c
def DV.box{x d:E}{e:zQ}{gr:Bool}{c:List E}(a:B n=O (K c e gr))(i:c=ah x)(h:DV B x d):DV B (pB n) (ar d 0):=
 .ptr (pre:=[]) (post:=[]) (x:=x) (f:=0) (e:=e) (gr:=gr) (by rw[a,i];simp) rfl h
section
variable{T:au}{P:zo}
mutual
inductive BV(g:Nat->Option ai)(b:Nat):E->E->Prop
 |pure {v:E} (h:bH v):BV g b v v
 |AK (off:Nat):BV g b (zM (O ⟨0,off,U⟩)) (zM (O ⟨b,off,U⟩))
 |agg {l l':List E} (h:BL g b l l'):BV g b (yu ⟨l⟩) (yu ⟨l'⟩)
 |func (f:zZ) {c c':List E} (h:BL g b c c'):BV g b (zU (za f) ⟨[]⟩ ⟨c⟩) (zU (za f) ⟨[]⟩ ⟨c'⟩)
 |ar (f:Nat) {v v':E} (h:BV g b v v'):BV g b (ar v f) (ar v' f)
 |box {b' off f:Nat} {pre post:List E} {x d:E} {e:zQ} {gr:Bool} (hg:g b'=O (K (pre++(ah x++post)) e gr)) (ho:off=I pre+f) (h:BV g b d x):BV g b (ar d f) (zM (O ⟨b',off,U⟩))
 |slice {b' off len cap sz:Nat} {pre es post ds:List E} {e:zQ} {gr:Bool} (hg:g b'=O (K (pre++(es.flatMap ah++post)) e gr)) (ho:off=I pre) (hs:∀x∈es,I (ah x)=sz)
   (hl:len=I es) (hc:len<=cap) (h:BL g b ds es):BV g b (cp ds 0 len []) (zL (O ⟨b',off,U⟩) len cap)
 |cP:BV g b (cp [] 0 0 []) (zL U 0 0)
inductive BL(g:Nat->Option ai)(b:Nat):List E->List E->Prop
 |nil:BL g b [] []
 |cons {v v':E} {l l':List E} (h:BV g b v v') (hl:BL g b l l'):BL g b (v::l) (v'::l')
end
def BL.length{g:Nat->Option ai}{b:Nat}:∀{l a:List E},BL g b l a->I l=I a
 |_,_,.nil=>rfl
 |_,_,.cons _ c=>by simp[c.length]
def BL.pure{g:Nat->Option ai}{b:Nat}:∀{l:List E},bX l->BL g b l l
 |_,.Nl=>.nil
 |_,.Cs h a=>.cons (.pure h) (BL.pure a)
section
variable{Γ:gy}{m m2:M}{hD:Nat->Option ai}{h:H}{w:zu}{g:Nat->Option ai}{b:Nat}
mutual
theorem VR.bv(Ii:Inv T Γ m hD h w)(ht:∀b o,g b=O o->ae h b o/\Γ.cX b)(hi:∀c l,m.im c=O l->m2.im c=O l)(h0:∀pl,m b=O pl->m2 0=O pl)
 (eH:∀b pl c e f,g b≠U->m b=O pl->w.heap[pl.aH]?=O (yP c e f)->m2.im pl.aH=O c.toList):∀{v v' d:E},BV g b d v->VR m v v'->VR m2 d v'
 |_,_,_,.pure hp,hv=>hv.carry hi hp
 |_,_,_,.AK off,hv=>by cases hv with|ptr hm=>exact .ptr (h0 _ hm)
 |_,_,_,.agg hd,hv=>by cases hv with|agg h=>exact .agg (LR.bv Ii ht hi h0 eH hd h)
 |_,_,_,.func f hd,hv=>by cases hv with|func _ h h2=>cases h;exact .func f .Nl (LR.bv Ii ht hi h0 eH hd h2)
 |_,_,_,.ar f hd,hv=>by cases hv with|jg h1 h2=>exact .jg (hi _ _ h1) (VR.bv Ii ht hi h0 eH hd h2)
 |_,_,_,.cP,hv=>by cases hv;exact .gi (λ_=>rfl) (zq rfl)
 |_,_,_,.slice (b':=b') (off:=off) (sz:=sz) (pre:=pre) (es:=es) (post:=post) (ds:=ds) (len:=len) hg ho hs hl hc hd,hv=>by
  have Mc:=hd.length;have FU:g b'≠U:=by rw[hg];simp
  let⟨hg,B9⟩:=ht _ _ hg;rcases hv.lk with⟨pl,cd,hm,nO,rfl⟩|⟨h4,h5,pl,a,hm,rfl⟩
  .let⟨c',m9,rX,e',R⟩:=Ii.row hm hg B9;obtain⟨p',r',rfl,k1,k2⟩:=R.rel.split;obtain⟨f',q',rfl,k3,k4⟩:=k2.split;obtain⟨eS,rfl,k5⟩:=k3.Ki
   have pk:=eH _ pl _ _ _ FU hm R.heap
   have xc:∀x∈eS,I x.cells.toList=sz:=λx hx=>by
    let⟨i,hi,FQ⟩:=yk.1 hx;have cA:i<I es:=by rw[<-k5.length];exact hi
    let⟨x2,e2,FR⟩:=k5.get (i:=i) (zm cA);have:x2=x:=by rw[zm hi,FQ]at e2;injection e2 with e2;exact e2.symm
    subst this;rw[FR.cells.length];exact hs _ (zW cA)
   have key:=VR.data (m:=m2) (es:=ds) (eS:=eS) (fG:=[]) (pre:=m9++p') (post:=q'++rX) (off:=0) (len:=len) (cd:=cd) (c:=pl.aH) (p:= #[]) (by rw[pk];simp) (LR.bv Ii ht hi h0 eH hd k5) xc
    (by omega) (yd hc (nO.le R.pos)) (zq rfl)
   have pn:I (m9++p')+0*sz=pl.sh+off:=by rw[yD,R.pre,k1.length,u4,xP,<-ho]
   rw[pn]at key;exact key
  .subst h4;exact .gi (λh=>by cases h) (zq rfl)
 |_,_,_,.box (b':=b') (off:=off) (f:=f) (pre:=pre) (post:=post) (x:=x) (d:=d) hg ho hd,hv=>by
  have FU:g b'≠U:=by rw[hg];simp
  let⟨hg,B9⟩:=ht _ _ hg;cases hv with
  |ptr hm=>
   rename_i pl;let⟨c',m9,rX,e',R⟩:=Ii.row hm hg B9;obtain⟨p',r',rfl,k1,k2⟩:=R.rel.split;obtain⟨f',q',rfl,k3,k4⟩:=k2.split;obtain⟨x',rfl,hx⟩:=VR.TH k3;have pk:=eH _ pl _ _ _ FU hm R.heap;have key:=VR.jg (m:=m2) (e:=d) (e':=x') (pre:=m9++p') (post:=q'++rX) (f:=f) (c:=pl.aH) (p:= #[]) (k:=0) (q:= #[]) (by rw[pk];simp) (VR.bv Ii ht hi h0 eH hd hx);have pn:I (m9++p')+f=pl.sh+off:=by rw[yD,R.pre,k1.length,ho,yp]
   rw[pn]at key;exact key
theorem LR.bv(Ii:Inv T Γ m hD h w)(ht:∀b o,g b=O o->ae h b o/\Γ.cX b)(hi:∀c l,m.im c=O l->m2.im c=O l)(h0:∀pl,m b=O pl->m2 0=O pl)
 (eH:∀b pl c e f,g b≠U->m b=O pl->w.heap[pl.aH]?=O (yP c e f)->m2.im pl.aH=O c.toList):∀{l l' d:List E},BL g b d l->LR m l l'->LR m2 d l'
 |_,_,_,.nil,hv=>by cases hv;exact .Nl
 |_,_,_,.cons hd hl,hv=>by cases hv with|Cs h1 h2=>exact .Cs (VR.bv Ii ht hi h0 eH hd h1) (LR.bv Ii ht hi h0 eH hl h2)
end
end
inductive DC:E->Prop
 |ground {v:E} (h:ground v=Y):DC v
 |iface (t:zQ) {v:E} (h:DC v):DC (.iface t v)
def VR.gr{m m2:M}:∀{v b:E},DC v->VR m v b->VR m2 v b
 |_,_,.ground h,a=>by have:=a.ground h;subst this;exact VR.I0 h λ_ _ _=>trivial
 |_,_,.iface t h,a=>by
  cases a with
  |iface _ a=>exact .iface t (VR.gr h a)
inductive UY:ag->H->ag->Prop
 |ret {v:E} {h h1:H}:UY (.r v h1 U) h (.any h U)
 |aU {v:E} {h h1:H} (hg:DC v):UY (.p [⟨v,G,G⟩] h1 U) h (.p [⟨v,G,G⟩] h U)
def na(h:H)(b j:Nat):Option ai:=if j=b then U else lI h j
inductive pp(g:Nat->Option ai)(b:Nat):E->Prop
 |ptr (off:Nat):pp g b (zM (O ⟨b,off,U⟩))
 |agg {l:List E} {v:E} (h:v∈l) (hm:pp g b v):pp g b (yu ⟨l⟩)
 |cap (f:zZ) {c:List E} {v:E} (h:v∈c) (hm:pp g b v):pp g b (zU (za f) ⟨[]⟩ ⟨c⟩)
 |box {b' off:Nat} {c:List E} {e:zQ} {gr:Bool} {v:E} (hg:g b'=O (K c e gr)) (h:v∈c) (hm:pp g b v):pp g b (zM (O ⟨b',off,U⟩))
def LR.mem{m:M}(h:LR m l p)(b:v∈l):∃a,VR m v a:=by let⟨i,hi,c⟩:=yk.1 b;let⟨a,_,k⟩:=h.get (i:=i) (v:=v) (by rw[zm hi,c]);exact⟨a,k⟩
def pp.some{Γ:gy}{m:M}{hD:Nat->Option ai}{h:H}{w:zu}{g:Nat->Option ai}{b:Nat}(a:Inv T Γ m hD h w)(q:∀b o,g b=O o->ae h b o/\Γ.cX b){v:E}(c:pp g b v):∀{v':E},VR m v v'->m b≠U:=by
 induction c with
 |ptr r=>intro v' h;cases h with|ptr e=>rw[e];simp
 |agg h _ d=>intro v' c;cases c with|agg i=>let⟨_,k⟩:=i.mem h;exact d k
 |cap f h _ d=>intro v' c;cases c with|func _ _ i=>let⟨_,k⟩:=i.mem h;exact d k
 |box j h _ d=>
  intro v' c;let⟨j,l⟩:=q _ _ j;cases c with
  |ptr e=>
   let⟨s,p,n,t,R⟩:=a.row e j l;let⟨_,k⟩:=R.rel.mem h;exact d k
def Zl(tok:bM T P)(iq:iB T P V){g:zZ}{c0 c1:List E}{b:Nat}{Q:Bool}{r d:ag}{h h1:H}(hs:BL (na h b) b l p)(Lc:∃v∈p,pp (na h b) b v)(N:bX c0)
 (S:cB T V g l (H.e.w (K c0 t Q)) U (T.f g)=r)(hf:r.fin=O (h1,U))(VP:ae h1 0 (K c1 t Q))(B3:nq c1=Y)
 (hb:ae h b (K c0 t Q))(hd:UY r (h.p b (K c1 t Q)) d):bP T P (zU (za g) #[] #[]) p h U d:=by
 have FP:d.fin=O (h.p b (K c1 t Q),U):=by cases hd<;>rfl
 intro h' pj W;rw[FP]at W;injection W with W;cases W;refine⟨oU h b _ hb,λΓ m hD u f' L kH w hK F i hv hl qf hk=>?_⟩;have hn:=qw h b (K c1 t Q);have ht:Γ.cX b:=hn.elim (λx=>(F.hi b x).1) (λx=>F.rd b x.1);have VQ:Γ.s8 b:=hn.elim (λx=>(F.hi b x).2) (λx=>F.wr b x.2);cases hT:T.f g with
 |none=>rw[hT]at S;subst S;cases hf
 |some fn=>
  let⟨xb,X⟩:=tok.func g fn hT;rw[hT]at S;have kI:pK T V g l (H.e.w (K c0 t Q)) U fn fn.body=r:=S;cases C:fn.body with
  |none=>rw[C]at kI;subst kI;cases hf
  |some c=>
   rw[C]at kI
   have VS:(fn.name== "runtime.NumGoroutine")=G:=by unfold rQ at X;rw[C]at X;have X:(!(fn.name== "runtime.NumGoroutine")&&ck fn.ntmps c)=Y:=X;rw[zX]at X;simpa using X.1
   cases hm:m b with
   |none=>
    let⟨v,hv,hmv⟩:=Lc;let⟨v',mF⟩:=hl.mem hv
    exact absurd hm (hmv.some i (λj o y=>by
     unfold na at y;split at y
     .cases y
     .unfold lI at y;split at y
      .rename_i q;exact⟨y,(F.hi j (by rw[Bf];exact q)).1⟩
      .cases y) mF)
   |some B=>
   let⟨VT,o',Md,hO⟩:=i.get hm hb ht;have A:hD b≠U:=by rw[VT];simp
   have avA:B.aH<w.heap.size:=(zd.1 Md).1;let m1:M:=⟨λj=>if j=0 then O B else U,λc=>if c=B.aH then U else(po w).im c⟩
   let R:Nat->Option ai:=λj=>if j=0 then O (K c0 t Q)else U
   have pk:∀c s,m.im c=O s->m1.im c=O s:=λc s C=>by
    let⟨⟨_,_,k⟩,k2⟩:=i.de c s C;show(if c=B.aH then U else(po w).im c)=_
    rw[if_neg (λq=>k2 b B A hm q.symm)];exact Hr k
   have Da:∀j,(H.e.w (K c0 t Q)).g j=R j:=λj=>by show((Tr.Nl:Tr ai).s 0 (K c0 t Q)).g j=_;rw[Tr.Bk];rfl
   have I1:Inv T ⟨w,m1,R,1,h1.n,λ_=>True,λ_=>True,λc=>c<w.heap.size/\c≠B.aH⟩ m1 R (H.e.w (K c0 t Q)) w:=by
    have only:∀j,R j≠U->j=0:=λj y=>by
     by_cases q:j=0
     .exact q
     .exact absurd (show R j=U from if_neg q) y
    refine{obj:=λj o y=>?_,inj:=λj k _ _ y hk _ _ _=>by rw[only j y,only k hk],cD:=λ_ _=>rfl,ez:=λ_ h=>h.1,size:=zR _,eC:=λj n y N q=>?_,same:=.refl _,fy:=λj _ _ _=>(Da j).symm,dy:=λj o y=>?_,fresh:=λj y _=>?_,fY:=Nat.zero_le _,gj:=.refl _,gm:=λ_ _=>rfl,gv:=zR _,ie:=λ_ _=>rfl,de:=λc s C=>?_,fD:=λ_ _=>rfl}
    .have:=only j (by rw[y];simp);subst this;have y:(O (K c0 t Q):Option ai)=O o:=y;cases y;refine⟨B,o',rfl,Md,?_⟩;cases hO with
     |cells h1 h2 h3 h4 h5 h6 h7=>exact .cells (LR.carry (m:=m) (m2:=m1) pk h1 N) h2 h3 h4 h5 h6 h7
    .have:=only j y;subst this;have N:O B=O n:=N;cases N;exact q.2 rfl
    .rw[Da]at y;have:=only j (by rw[y];simp);subst this;exact Nat.one_pos
    .have y:1<=j:=y;have:j≠0:=by omega
     exact⟨if_neg this,if_neg this⟩
    .have C:(if c=B.aH then U else(po w).im c)=O s:=C
     by_cases q:c=B.aH
     .rw[if_pos q]at C;cases C
     .rw[if_neg q]at C;refine⟨aah C,λj n y N=>?_⟩;have:=only j y;subst this;have N:O B=O n:=N;cases N;exact λq'=>q q'.symm
   let⟨_,hx⟩:=D7 tok iq hT C (args:=l) (h:=H.e.w (K c0 t Q)) (ab:=U) h1 U (by rw[kI];exact hf)
   have Up:LR m1 l L:=LR.bv i (λj o y=>by
    unfold na at y;split at y
    .cases y
    .unfold lI at y;split at y
     .rename_i q;exact⟨y,(F.hi j (by rw[Bf];exact q)).1⟩
     .cases y) pk (λn N=>by rw[hm]at N;exact N) (λj n c t f y N hw=>by
    have hjb:j≠b:=λq=>by subst q;unfold na at y;rw[if_pos rfl]at y;exact y rfl
    have hgj:h.g j≠U/\Γ.cX j:=by
     unfold na at y;rw[if_neg hjb]at y;unfold lI at y;split at y
     .rename_i q;exact⟨y,(F.hi j (by rw[Bf];exact q)).1⟩
     .exact absurd rfl y
    have IB:hD j≠U:=by
     cases q:h.g j with
     |none=>exact absurd q hgj.1
     |some o=>rw[(i.get N q hgj.2).1];simp
    show(if n.aH=B.aH then U else(po w).im n.aH)=_
    rw[if_neg (λq=>hjb (i.inj j b n B IB A N hm q))];exact Hr hw) hs hl
   let⟨m',dW,lH,w',cr,L9,k1,k2,k3,k4,k5,k6,k7⟩:=hx ⟨w,m1,R,1,h1.n,λ_=>True,λ_=>True,λc=>c<w.heap.size/\c≠B.aH⟩ m1 R u L kH w
    ⟨zR _,λ_ _=>⟨trivial,trivial⟩,λ_ _=>trivial,λ_ _=>trivial,λ_ _=>trivial⟩ I1 Up (by cases qf;exact .none) hk
   rw[kI]at k5
   have qe:f'=zU (za g) #[] #[]:=by
    cases hv with
    |func _ p b=>cases p;cases b;rfl
   subst qe;have Me:m' 0=O B:=k1.to 0 B rfl;have hold:∀c,c<w.heap.size->c≠B.aH->w'.heap[c]?=w.heap[c]?:=λc h1 h2=>k2.cD c ⟨h1,h2⟩;let⟨hd0,VU,Mf,B4⟩:=k2.get Me VP trivial
   have cA:∀j n,hD j≠U->m j=O n->n.aH<w.heap.size:=λj n y N=>by
    cases q:hD j with
    |none=>exact absurd q y
    |some o=>
     let⟨p',o2,q1,q2,_⟩:=i.obj j o q;rw[N]at q1;cases q1;exact(zd.1 q2).1
   have live:∀j,Am.eT hD b ((h.p b (K c1 t Q)).g b) j≠U->hD j≠U:=λj y=>by
    by_cases q:j=b
    .subst q;exact A
    .rwa[eo _ _ q]at y
   have I2:Inv T Γ m (Am.eT hD b ((h.p b (K c1 t Q)).g b)) (h.p b (K c1 t Q)) w':=by
    refine{obj:=λj x y=>?_,inj:=λj k n q y hk=>i.inj j k n q (live j y) (live k hk),cD:=λc C=>?_,ez:=i.ez,size:=yd i.size k2.size,eC:=λj n y=>i.eC j n (live j y),same:=i.same.trans k2.same,fy:=λj y VW FV=>?_,dy:=λj x y=>?_,fresh:=λj y hN=>?_,fY:=by rw[jQ,Bf];exact i.fY,gj:=i.gj,gm:=i.gm,gv:=by rw[jQ];exact i.gv,ie:=λj y=>?_,de:=λc s C=>?_,fD:=i.fD}
    .by_cases q:j=b
     .subst q;rw[jz]at y;have:=Ro h y;subst this;refine⟨B,VU,hm,Mf,?_⟩;cases B4 with
      |cells h1 h2 h3 h4 h5 h6 h7=>
       have hg:=LR.ground h1 B3;subst hg;exact .cells (LR.aag m B3) h2 h3 h4 h5 h6 h7
     .rw[eo _ _ q]at y;let⟨n,x',a1,a2,a3⟩:=i.obj j x y;refine⟨n,x',a1,?_,a3⟩;rw[hold _ (cA j n (by rw[y];simp) a1) (λq'=>q (i.inj j b n B (by rw[y];simp) A a1 hm q'))];exact a2
    .have a1:=i.size;have a2:=i.ez c C;rw[hold c (by omega) (λq=>i.eC b B A hm (q▸C))];exact i.cD c C
    .by_cases q:j=b
     .subst q;rw[jz]
     .rw[eo _ _ q,rF h _ q];exact i.fy j (by rwa[jQ]at y) VW FV
    .rw[jQ];by_cases q:j=b
     .subst q;exact i.dy j _ hb
     .rw[rF h _ q]at y;exact i.dy j x y
    .rw[jQ]at y;have:=i.dy b _ hb;rw[eo _ _ (by omega:j≠b)];exact i.fresh j y hN
    .by_cases q:j=b
     .subst q;have a1:=i.dy j _ hb;have hN:=F.next;rw[jQ]at hN;rcases y with y|y
      .exact absurd VQ y
      .omega
     .rw[eo _ _ q];exact i.ie j y
    .let⟨⟨e',f',k⟩,Mg⟩:=i.de c s C;exact⟨⟨e',f',by rw[hold c (zd.1 k).1 (λq=>Mg b B A hm q.symm)];exact k⟩,λj n y=>Mg j n (live j y)⟩
   refine⟨.enter g ⟨L⟩,_,?_,rfl,m,_,lH,w',cr,.refl _,I2,(by cases k3;exact .none),k4,?_,GC ?_ k3 k7 k6⟩
   .have:=Gy xb VS C (⟨L⟩:Array E) w;simpa[jT,yr,invoke]using this
   .cases hd with
    |ret=>
     cases k5 with
     |ret mF=>exact .any
    |aU hd=>
     cases k5 with
     |aU mF=>
      cases mF with
      |cons mF AN=>
       cases AN;exact .aU (.cons (VR.gr hd mF) .nil)
   .rcases hK with h|h
    .exact zq h
    .exact zt h.1
end
section
variable{T:au}{P:zo}
def cn(T:au)(c:List yR)(e:zQ)(f:Bool)(a:MO)(g:List E)(s:S):Prop:=
 s.df=[]/\s.ab=U/\∃v d b,a=.ret d/\fw U (zJ T s.tm c s.h)=.r v b U/\DV (mB b) v d/\ae b 0 (K g e f)
def dD(e:zQ)(b:Bool)(a:MO)(f:List E)(c:List zO)(s:S):Prop:=s.df=[]/\s.ab=U/\∃v d,a=.aU d/\c=[⟨v,G,G⟩]/\DV (mB s.h) v d/\s.h.g 0=O (K f e b)
def cn.pure{a:List yR}{e:zQ}{gr:Bool}{d:E}{c2:List E}{b:Tr E}{h:H}(c:bH d)(f:∃h2,fw U (zJ T b a h)=.r d h2 U/\ae h2 0 (K c2 e gr)):cn T a e gr (.ret d) c2 ⟨b,[],h,U⟩:=by let⟨h2,q,g⟩:=f;exact⟨rfl,rfl,d,d,h2,rfl,q,.Pu c,g⟩
def dD.pure{e:zQ}{gr:Bool}{d:E}{c2:List E}{a:Tr E}{h:H}(b:bH d)(c:ae h 0 (K c2 e gr)):dD e gr (.aU d) c2 [⟨d,G,G⟩] ⟨a,[],h,U⟩:=⟨rfl,rfl,d,d,rfl,rfl,.Pu b,c⟩
inductive gJ(e:zQ)(gr:Bool)(c2:List E):ag->MO->Prop
 |ret {v d:E} {h1:H} (hd:DV (mB h1) v d) (hg:ae h1 0 (K c2 e gr)):gJ e gr c2 (.r v h1 U) (.ret d)
 |aU {v d:E} {h1:H} (hd:DV (mB h1) v d) (hg:ae h1 0 (K c2 e gr)):gJ e gr c2 (.p [⟨v,G,G⟩] h1 U) (.aU d)
def lm{u:Bool}{g:zZ}{A:xZ}{args:List E}{h:H}{f:MO}(L:T.f g=O A)(M:A.body=O x){k:List yR}(F:A.results.toList=k)
 (j:ay (cn T k t u f l) (cn T k t u f l) ap (dD t u f l) (aw T (af T C (n+1)) ⟨g,U⟩ x ⟨bF args 0 .Nl,[],h,U⟩)):
 gJ t u l (cB T (af T C (n+1)) g args h U (T.f g)) f:=by
 rw[L,Sym.rC,M,Sym.rB];rcases j.cases with⟨⟨w,m,y,o⟩,q,a,b,v,d,B,p,i,r,s⟩|⟨⟨w,m,y,o⟩,q,a,b,v,d,B,p,i,r,s⟩|⟨_,_,_,q⟩|⟨N,⟨w,m,y,o⟩,q,a,b,v,d,p,i,r,s⟩
 .rw[q,Sym.xv];have a:m=[]:=a;have b:o=U:=b;subst a;subst b;subst p;rw[oi,F];have i:fw U (zJ T w k y)=.r v B U:=i;rw[i];exact .ret r s
 .rw[q,Sym.zg];have a:m=[]:=a;have b:o=U:=b;subst a;subst b;subst p;rw[oi,F];have i:fw U (zJ T w k y)=.r v B U:=i;rw[i];exact .ret r s
 .cases q
 .rw[q,Sym.DW];have a:m=[]:=a;have b:o=U:=b;subst a;subst b;subst p;subst i;rw[Ra];exact .aU r s
def MO.Ld:MO->H->ag
 |.ret _,h=>.any h U
 |.aU v,h=>.p [⟨v,G,G⟩] h U
def gJ.toM(c:bM T P)(q:aR T P C){g:zZ}{f:Bool}{a0 c0 c2:List E}{b:Nat}{i:MO}{h:H}(o:gJ t f c2 (cB T (af T C n) g a0 (H.e.w (K c0 t f)) U (T.f g)) i)
 (s:AM b a0 l)(d:∀(m:M)(x:List E),LR m l x->m b≠U)(u:bX c0)(j:bX c2)(v:ae h b (K c0 t f)):bP T P (zU (za g) #[] #[]) l h U (i.bi (h.p b (K c2 t f))):=by
 generalize w:cB T (af T C n) g a0 (H.e.w (K c0 t f)) U (T.f g)=r at o;cases o with
 |ret k p=>exact RZ c (pI c q n) s d u w rfl p (DL.pure j) v (.ret k)
 |aU k p=>exact RZ c (pI c q n) s d u w rfl p (DL.pure j) v (.aU k)
def gJ.toB(f:bM T P)(A:aR T P C){g:zZ}{m:Bool}{u c2:List E}{b:Nat}{j:MO}{h:H}(o:gJ s m c2 (cB T (af T C n) g l (H.e.w (K u s m)) U (T.f g)) j)
 (B:BL (na h b) b l p)(i:∃v∈p,pp (na h b) b v)(F:bX u)(q:nq c2=Y)(x:∀v,j=.aU v->DC v)(L:ae h b (K u s m)):
 bP T P (zU (za g) #[] #[]) p h U (j.Ld (h.p b (K c2 s m))):=by
 generalize M:cB T (af T C n) g l (H.e.w (K u s m)) U (T.f g)=r at o;cases o with
 |ret k c=>exact Zl f (pI f A n) B i F M rfl c q L .ret
 |aU k c=>
  rename_i v d N;have w:=x d rfl
  have:v=d:=by
   have y:∀{v d:E},DC d->DV (mB N) v d->v=d:=by
    intro v d w;induction w generalizing v with
    |ground c=>
     intro k;cases k with
     |Pu _=>rfl
     |agg _=>cases c
     |Tt _=>cases c
     |iface _ _=>cases c
     |cP=>cases c
     |slice _ _ _ _ _ _=>cases c
     |ptr _ _ _=>cases c
     |func _ _ _=>cases c
    |iface t _ Q=>
     intro k;cases k with
     |Pu _=>rfl
     |iface _ h=>rw[Q h]
   exact y w k
  subst this;exact Zl f (pI f A n) B i F M rfl c q L (.aU w)
open Classical in
def Lf(e:zQ)(b:Bool)(c d f:List E)(a:MO)(B:List E->Nat)(args:List E)(h:H):Option ag:=
 if h.g (B args)=O (K d e b)/\BL (na h (B args)) (B args) c args/\(∃v∈args,pp (na h (B args)) (B args) v)then O (a.Ld (h.p (B args) (K f e b)))else U
def agy{g:zZ}{d:Bool}{c2:List E}{c:MO}{B:List E->Nat}(j:aR T P C)
 (k:∀(h:H)(b:Nat)(a:List E),BL (na h b) b l a->(∃v∈a,pp (na h b) b v)->ae h b (K p t d)->bP T P (zU (za g) #[] #[]) a h U (c.Ld (h.p b (K c2 t d)))):
 aR T P (bY g (Lf t d l p c2 c B) C):=by
 intro m args h a q;by_cases i:m=g
 .subst i;rw[gC]at q;unfold Lf at q;split at q
  .rename_i f;cases q;exact k h _ args f.2.1 f.2.2 f.1
  .cases q
 .rw[jk i]at q;exact j _ _ _ _ q
end
def js(a:List zc)(Q:Tr E->H->Prop)(s:S):Prop:=s.df=a/\s.ab=U/\Q s.tm s.h
def js.mk{df:List zc}{Q:Tr E->H->Prop}{h:H}(q:Q r h):js df Q ⟨r,df,h,U⟩:=⟨rfl,rfl,q⟩
def js.elim{df:List zc}{Q:Tr E->H->Prop}{s:S}(a:js df Q s):∃tm h,s=⟨tm,df,h,U⟩/\Q tm h:=by let⟨tm,b,h,ab⟩:=s;let⟨c,d,e⟩:=a;have c:b=df:=c;have d:ab=U:=d;subst c;subst d;exact⟨tm,h,rfl,e⟩
def qq{T:au}{c:Fr}{y:yG}{s:S}{N R:S->Prop}{a:Nat->S->Prop}{Q:List zO->S->Prop}{df:List zc}{Q0:Tr E->H->Prop}(d:ay (js df Q0) R a Q (aw T V c x s))
 (e:∀b h,Q0 b h->ay N R a Q (aw T V c y ⟨b,df,h,U⟩)):ay N R a Q (aw T V c (zS x y) s):=
 iw d λs f=>by obtain⟨b,h,rfl,q⟩:=f.elim;exact e b h q
section
variable{T:au}{P:zo}
abbrev lK(g:zZ)(a:List E):List zc:=[{target:=.fn (za g) ⟨a⟩,args:=⟨[]⟩}]
def o3(T:au)(c:zC->ag)(e:List yR)(g:zZ)(cap:List E)(d:E)(s:S):Prop:=
 s.df=lK g cap/\s.ab=U/\∃u a v b,c (.call (zU (za g) ⟨[]⟩ ⟨cap⟩) [] s.h U)=.r u a U/\fw U (zJ T s.tm e a)=.r v b U/\DV b.g v d
def CU(T:au)(e:zC->ag)(f:List yR)(g:zZ)(cap:List E)(d:E)(c:List zO)(s:S):Prop:=
 s.df=lK g cap/\s.ab=U/\∃u a v b m,e (.call (zU (za g) ⟨[]⟩ ⟨cap⟩) [] s.h (O c))=.r u a m/\settled m=U/\fw U (zJ T s.tm f a)=.r v b U/\DV b.g v d
def aoW{k:zZ}{L:xZ}{args :List E}(M:T.f f=O L)(P:L.body=O x){t:List yR}(Q:L.results.toList=t)
 (r:ay (o3 T (af T C (n+1)) t k l N) (o3 T (af T C (n+1)) t k l N) (λ_ _=>False) (CU T (af T C (n+1)) t k l N) (aw T (af T C (n+2)) ⟨f,U⟩ x ⟨bF args 0 .Nl,[],h,U⟩)):
 Db (λh=>h.g) (cB T (af T C (n+2)) f args h U (T.f f)) (.ret N):=by
 have s:∀(o:Tr E)(i p:H)(v:E),fw U (zJ T o t i)=.r v p U->DV p.g v N->Db (λh=>h.g) (af T C (n+1) (.unwind L ⟨o,[],i,U⟩ U)) (.ret N):=λo i p v a b=>by rw[oi,Q,a];exact .ret b
 rw[M,Sym.rC,P,Sym.rB];rcases r.cases with⟨⟨o,w,y,A⟩,e,a,b,u,i,v,p,j,B,F⟩|⟨⟨o,w,y,A⟩,e,a,b,u,i,v,p,j,B,F⟩|⟨_,_,_,q⟩|⟨R,⟨o,w,y,A⟩,e,a,b,u,i,v,p,m,j,S,B,F⟩
 .rw[e,Sym.xv];have a:w=lK k l:=a;have b:A=U:=b;subst a;subst b;have j:af T C (n+1) (.call (zU (za k) ⟨[]⟩ ⟨l⟩) [] y U)=.r u i U:=j;rw[GF,j,Gv];exact s o i p v B F
 .rw[e,Sym.zg];have a:w=lK k l:=a;have b:A=U:=b;subst a;subst b;have j:af T C (n+1) (.call (zU (za k) ⟨[]⟩ ⟨l⟩) [] y U)=.r u i U:=j;rw[GF,j,Gv];exact s o i p v B F
 .cases q
 .rw[e,Sym.DW];have a:w=lK k l:=a;have b:A=U:=b;subst a;subst b;have j:af T C (n+1) (.call (zU (za k) ⟨[]⟩ ⟨l⟩) [] y (O R))=.r u i m:=j;rw[GF,j,Gv,S];exact s o i p v B F
def GU(e:bM T P){gd:zZ}{i:xZ}{args cap:List E}(C:aV)(j:aR T P C)(k:bX args)(n:Nat)(l:T.f f=O i)(m:i.body=O x){b:List yR}(o:i.results.toList=b)
 (a:ay (o3 T (af T C (n+1)) b gd cap v) (o3 T (af T C (n+1)) b gd cap v) ap (CU T (af T C (n+1)) b gd cap v) (aw T (af T C (n+2)) ⟨f,U⟩ x ⟨bF args 0 .Nl,[],H.e,U⟩)):
 ∀h,bP T P (zU (za f) #[] #[]) args h U (.r v h U):=TI e C j k (n+2) (aoW l m o a)
def jf(b:bM T P){e:xZ}{args:List E}(C:aV)(j:aR T P C)(k:bX args)(n:Nat)(l:T.f f=O e)(m:e.body=O x){i:List yR}(o:e.results.toList=i)
 (a:ay (bG T i (λh=>h.g) (.ret v)) (bG T i (λh=>h.g) (.ret v)) ap ap (aw T (af T C (n+1)) ⟨f,U⟩ x ⟨bF args 0 .Nl,[],H.e,U⟩)):
 ∀h,bP T P (zU (za f) #[] #[]) args h U (.r v h U):=
 mi (out:=.ret v) b C j k n l m o (a.Mo fP fP bT aP)
def Ga(c1 c2:List E->H->Option ag)(args:List E)(h:H):Option ag:=match c1 args h with|some a=>O a|none=>c2 args h
def atw{b c:List E->H->Option ag}{args:List E}{a:ag}(q:b args h=O a):Ga b c args h=O a:=by unfold Ga;rw[q]
def atx{a b:List E->H->Option ag}{args:List E}(q:a args h=U):Ga a b args h=b args h:=by unfold Ga;rw[q]
def ag1{g:zZ}{c1 c2:List E->H->Option ag}(e:aR T P (bY g c1 C))(f:aR T P (bY g c2 C)):aR T P (bY g (Ga c1 c2) C):=by
 intro i args h a q;by_cases c:i=g
 .subst c;rw[gC]at q;unfold Ga at q;cases d:c1 args h with
  |some b=>rw[d]at q;cases q;exact e _ _ _ _ (by rw[gC];exact d)
  |none=>rw[d]at q;exact f _ _ _ _ (by rw[gC];exact q)
 .rw[jk c]at q;exact e _ _ _ _ (by rw[jk c];exact q)
end
end Go.Am
namespace Go.Am.Sym
open Go Go.Am
@[simp] theorem aF5:(r.del k).g j=if j=k then U else r.g j:=by
  by_cases h:j=k
  .subst h;rw[if_pos rfl,Tr.MR]
  .rw[if_neg h,Tr.MQ _ h]
@[simp] theorem aDT{a:Option Tmp}{k:S->ag}{b:Option (List zO)}:EC a k r X o (.any h b)=k ⟨HT r a,X,h,o⟩:=rfl
@[simp] theorem aC6{d:Tmp}:HT r (O d)=r.del d:=rfl
@[simp] theorem aC7:HT r U=r:=rfl
@[simp] theorem aBN:jS [] r=r:=rfl
@[simp] theorem aBm{b:Op}{a:String}{c:Array Edge}{d:Option (Nat×Bool)}{l:List Oper}:jS (⟨U,b,t,a,c,d⟩::l) r=jS l r:=rfl
@[simp] theorem aBn{d:Tmp}{b:Op}{a:String}{c:Array Edge}{e:Option (Nat×Bool)}{l:List Oper}:jS (⟨O d,b,t,a,c,e⟩::l) r=jS l (r.del d):=rfl
end Go.Am.Sym
namespace Go.Am
section
variable{T:au}{P:zo}
def H.fK(h a:H):H:=cond (cond (zV a.rd 0) (zV (di h a) 0) G) ⟨a.m,a.n,h.b,h.rd,h.wr⟩ (Bo a.m a.n h.b h.rd h.wr a.rd a.wr)
def Q3(m:Tr ai)(n base a b r w:Nat):(Bo m n base a b r w).m=m/\(Bo m n base a b r w).n=n/\(Bo m n base a b r w).b=base:=by
 unfold Bo;cases zV base 0 with
 |true=>exact⟨rfl,rfl,rfl⟩
 |false=>rw[cond_false,kr,kr];exact⟨rfl,rfl,rfl⟩
def al5:(h.fK g).m=g.m:=by unfold H.fK;cases cond (zV g.rd 0) (zV (di h g) 0) G with|true=>rfl|false=>exact(Q3 ..).1
def ac0:h.g j=h.m.g j:=by cases h;rfl
namespace Sym
@[simp] theorem aBO:(h.fK g).n=g.n:=by unfold H.fK;cases cond (zV g.rd 0) (zV (di h g) 0) G with|true=>rfl|false=>exact(Q3 ..).2.1
@[simp] theorem aBP:(h.fK g).b=h.b:=by unfold H.fK;cases cond (zV g.rd 0) (zV (di h g) 0) G with|true=>rfl|false=>exact(Q3 ..).2.2
@[simp] theorem aCg:(h.fK g).g j=g.g j:=by rw[ac0,ac0,al5]
def Uq{c:Tr Nat}{l:List aG}{k:List aG->S->ag}(e:fe (aE c i) ⟨i,g.rd,di h g⟩ l=Y):
 gG k c l i r X h o g=k (nG i g.rd (di h g) l) ⟨r,X,h.fK g,o⟩:=by
 let⟨f,a,b1,d,b⟩:=g;let⟨m,n,j,p,q⟩:=h;show kw (λs=>mf k j p q c l i r X o f a d b s) (zi b (dr n a))=_;rw[kr];unfold mf;have t:di ⟨m,n,j,p,q⟩ ⟨f,a,b1,d,b⟩=zi b (dr n a):=rfl;unfold H.fK nG;rw[t]at e⊢;cases u:cond (zV d 0) (zV (zi b (dr n a)) 0) G with
 |true=>rfl
 |false=>
  have e:fe (aE c i) ⟨i,d,zi b (dr n a)⟩ l=Y:=e;show cond (fe (aE c i) ⟨i,d,zi b (dr n a)⟩ l) _ _=_;rw[e];rfl
def afZ(a:n<h.n):h.f.az n=⟨h.m,h.n,h.n,bit n,0⟩:=by rw[nv,if_neg (by rw[GK];omega),fm];show(⟨_,_,_,zi 0 (bit n),_⟩:H)=_;rw[qz]
def MD{o:ai}(a:n<h.n):h.f.p n o=⟨h.m.s n o,h.n,h.n,bit n,bit n⟩:=by rw[H.p,nz,kV,if_neg (by rw[GK];omega),fm];show(⟨_,_,_,zi 0 (bit n),zi 0 (bit n)⟩:H)=_;rw[qz]
def Rg{f:Tr Nat}{l:List aG}{k:List aG->S->ag}{b:Nat}(a:b<h.n)(g:qn l=Y):
 gG k f l i r X h o (h.f.az b)=k (⟨i,bit b,0⟩::l) ⟨r,X,h.fK (h.f.az b),o⟩:=by
 have e:=afZ a;have c:di h (h.f.az b)=0:=by rw[e];show zi 0 (dr h.n h.n)=0;rw[DX];rfl
 have d:(h.f.az b).rd=bit b:=by rw[e]
 rw[Uq (by rw[c,d];exact Rb _ _ _ _ g),c,d];unfold nG;rw[CJ];rfl
def ajE{c:Tr Nat}{l:List aG}{d:Option (List zO)}{k:List aG->S->ag}{b:Nat}{o:ai}(a:b<h.n)(j:fe (aE c i) ⟨i,bit b,bit b⟩ l=Y):
 gG k c l i r X h d (h.f.p b o)=k (⟨i,bit b,bit b⟩::l) ⟨r,X,h.fK (h.f.p b o),d⟩:=by
 have e:=MD (o:=o) a;have f:di h (h.f.p b o)=bit b:=by rw[e];show zi (bit b) (dr h.n h.n)=_;rw[DX,Sw]
 have g:(h.f.p b o).rd=bit b:=by rw[e]
 rw[Uq (by rw[f,g];exact j),f,g];unfold nG;rw[CJ];rfl
def ag2{b:Nat}(a:h.b<=b):h.az b=h:=by rw[nv,if_pos a]
end Sym
end
section
variable{T:au}{P:zo}
def nb(T:au)(b:List yR)(Q:E->H->Prop)(s:S):Prop:=s.df=[]/\s.ab=U/\∃v a,fw U (zJ T s.tm b s.h)=.r v a U/\Q v a
def nb.mk{a:List yR}{Q:E->H->Prop}{h2:H}(e:fw U (zJ T r a h)=.r v h2 U)(q:Q v h2):nb T a Q ⟨r,[],h,U⟩:=⟨rfl,rfl,v,h2,e,q⟩
def abc{i:xZ}{args:List E}{Q:E->H->Prop}(s:T.f f=O i)(t:i.body=O x){rs:List yR}(p:i.results.toList=rs)
 (a:ay (nb T rs Q) (nb T rs Q) (λ_ _=>False) (λ_ _=>False) (aw T (af T C (n+1)) ⟨f,U⟩ x ⟨bF args 0 .Nl,[],h,U⟩)):
 ∃v r,cB T (af T C (n+1)) f args h U (T.f f)=.r v r U/\Q v r:=by
 rw[s,Sym.rC,t,Sym.rB];rcases a.cases with⟨⟨u,j,w,k⟩,e,b,d,v,l,m,o⟩|⟨⟨u,j,w,k⟩,e,b,d,v,l,m,o⟩|⟨_,_,_,q⟩|⟨_,_,_,q⟩
 .rw[e,Sym.xv];have b:j=[]:=b;have d:k=U:=d;subst b;subst d;rw[oi,p];exact⟨v,l,m,o⟩
 .rw[e,Sym.zg];have b:j=[]:=b;have d:k=U:=d;subst b;subst d;rw[oi,p];exact⟨v,l,m,o⟩
 .cases q
 .cases q
def Zm{b:xZ}{args:List E}{Q:E->H->Prop}(e:C f=λ_ _=>U)(i:T.f f=O b)(j:b.body=O x){d:List yR}(k:b.results.toList=d)
 (a:ay (nb T d Q) (nb T d Q) ap ap (aw T (af T C (n+1)) ⟨f,U⟩ x ⟨bF args 0 .Nl,[],h,U⟩)):
 ∃v h1,af T C (n+2) (aj f args h)=.r v h1 U/\Q v h1:=by
 rw[ll _ (by rw[e])];exact abc i j k a
end
section
variable{T:au}{P:zo}
def AP(h:H)(a b:Nat):Option ai:=if b=a then U else h.g b
inductive NV(g:Nat->Option ai)(b0 b:Nat):E->E->Prop
 |dv {v d:E} (h:DV g v d):NV g b0 b v d
 |slice (off n k:Nat):NV g b0 b (zL (O ⟨b0,off,U⟩) n k) (zL (O ⟨b,off,U⟩) n k)
 |adH {x0 x1 x2 x3 x4 y0 y1 y2 y3 y4:E} (h0:NV g b0 b x0 y0) (h1:NV g b0 b x1 y1) (h2:NV g b0 b x2 y2) (h3:NV g b0 b x3 y3) (h4:NV g b0 b x4 y4):NV g b0 b (yu ⟨[x0,x1,x2,x3,x4]⟩) (yu ⟨[y0,y1,y2,y3,y4]⟩)
def Ec(m:M)(w w':zu)(q:Nat):M:=⟨m.at_,λc=>if c=q then U else(mh m w w').im c⟩
def Nj(tok:bM T P)(iq:iB T P V){args c1 c2:List E}{b0:Nat}{e:zQ}{gr:Bool}{C:H}(hp:bX args)(Q:cB T V f args H.e U (T.f f)=.r v C U)
 (Dx:ae C b0 (K c1 e gr))(A:DL (AP C b0) c1 c2)(hv:NV (AP C b0) b0 h.n v N)(Lc:∀(m:M)(l:E),VR m v l->m b0≠U):bP T P (zU (za f) #[] #[]) args h U (.r N (h.w (K c2 e gr)) U):=by
 intro h' pj W;injection W with W;cases W;refine⟨lr h _,λΓ m hD r f' L kH w hK F b qe R qf hk=>?_⟩;cases hT:T.f f with
 |none=>rw[hT]at Q;cases Q
 |some fn=>
  let⟨xb,S⟩:=tok.func f fn hT;rw[hT]at Q;have hb:pK T V f args H.e U fn fn.body=.r v C U:=Q;cases X:fn.body with
  |none=>rw[X]at hb;cases hb
  |some c=>
   rw[X]at hb
   have hn:(fn.name== "runtime.NumGoroutine")=G:=by unfold rQ at S;rw[X]at S;have S:(!(fn.name== "runtime.NumGoroutine")&&ck fn.ntmps c)=Y:=S;rw[zX]at S;simpa using S.1
   let⟨_,hx⟩:=D7 tok iq hT X (args:=args) (h:=H.e) (ab:=U) C U (by rw[hb];rfl)
   let⟨m',dW,lH,w',cr,L9,k1,k2,k3,k4,k5,k6,k7⟩:=hx ⟨w,⟨λ_=>U,m.im⟩,λ_=>U,0,C.n,λ_=>True,λ_=>True,λc=>c<w.heap.size⟩ ⟨λ_=>U,m.im⟩ (λ_=>U) r L kH w
    ⟨zR _,λ_ _=>⟨trivial,trivial⟩,λ_ _=>trivial,λ_ _=>trivial,λ_ _=>trivial⟩ (Su _ w b) (LR.carry (m:=m) (m2:=⟨λ_=>U,m.im⟩) bT R hp) (by cases qf;exact .none) hk
   rw[hb]at k5;let⟨q1,q2,q3,q4⟩:=Rs b k2
   have avD:f'=zU (za f) #[] #[]:=by
    cases qe with
    |func _ a s=>cases a;cases s;rfl
   subst avD;cases B:m' b0 with
   |none=>
    cases k5 with
    |ret mF=>exact absurd B (Lc _ _ mF)
   |some pl=>
   have avE:dW b0=O (K c1 e gr):=(k2.get B Dx trivial).1;let⟨_,o',Mf,hO⟩:=k2.get B Dx trivial;have t:dW b0≠U:=by rw[avE];simp
   have hyq:w.heap.size<=pl.aH:=sU λq=>k2.eC b0 pl t B q
   have hle:ct m (Ec m w w' pl.aH):=⟨λ_ _ h=>h,λc i A=>by
    let⟨⟨_,_,k⟩,_⟩:=b.de c i A;have:=(zd.1 k).1;show(if c=pl.aH then U else(mh m w w').im c)=O i
    rw[if_neg (by omega)];exact q1.im c i A⟩
   have cA:∀j d,hD j≠U->m j=O d->d.aH<w.heap.size:=λj d u hp=>by
    cases q:hD j with
    |none=>exact absurd q u
    |some o=>
     let⟨p',o2,r1,r2,_⟩:=b.obj j o q;rw[hp]at r1;cases r1;exact(zd.1 r2).1
   have I2:Inv T Γ (Ec m w w' pl.aH) hD h w':=by
    refine{obj:=λj o u=>?_,inj:=b.inj,cD:=q2.cD,ez:=b.ez,size:=q2.size,eC:=b.eC,same:=q2.same,fy:=b.fy,dy:=b.dy,fresh:=b.fresh,fY:=b.fY,gj:=b.gj.trans hle,gm:=b.gm,gv:=b.gv,ie:=b.ie,de:=λc i A=>?_,fD:=λc A=>?_}
    .let⟨d,x',a1,a2,a3⟩:=b.obj j o u;let⟨p2,x2,b1,b2,_⟩:=q2.obj j o u;have:p2=d:=by have b1:m j=O p2:=b1;rw[a1]at b1;injection b1 with b1;exact b1.symm
     subst this;have hold:=k2.cD p2.aH (cA j p2 (by rw[u];simp) a1);exact⟨p2,x',a1,by rw[hold];exact a2,a3.mono hle⟩
    .have A:(if c=pl.aH then U else(mh m w w').im c)=O i:=A
     by_cases hq:c=pl.aH
     .rw[if_pos hq]at A;cases A
     .rw[if_neg hq]at A;exact q2.de c i A
    .have a1:=b.size;have a2:=b.ez c A;show(if c=pl.aH then U else(mh m w w').im c)=_
     rw[if_neg (by omega)];exact q2.fD c A
   have hN:¬Γ.gl pl.aH:=λq=>by have a1:=b.size;have a2:=b.ez _ q;omega
   have aHG:m h.n=U:=(b.fresh h.n (zR _) (by have:=F.next;rw[jR]at this;omega)).1
   have r3:∀c i,m'.im c=O i->((Ec m w w' pl.aH).eT h.n (O pl)).im c=O i:=λc i A=>by
    show(if c=pl.aH then U else(mh m w w').im c)=O i
    rw[if_neg λq=>(k2.de c i A).2 b0 pl t B q.symm];exact q3 c i A
   have r4:∀j d c e p,AP C b0 j≠U->m' j=O d->w'.heap[d.aH]?=O (yP c e p)->((Ec m w w' pl.aH).eT h.n (O pl)).im d.aH=O c.toList:=λj d c e p u hp hw=>by
    unfold AP at u;split at u
    .exact absurd rfl u
    rename_i VV
    have FO:dW j=C.g j:=by
     cases q:C.g j with
     |none=>exact absurd q u
     |some o=>rw[k2.fy j (k2.dy j o q) trivial (by rw[hp];simp),q]
    have IB:dW j≠U:=by rw[FO];exact u
    have jE:d.aH≠pl.aH:=λq=>VV (k2.inj j b0 d pl IB t hp B q);show(if d.aH=pl.aH then U else(mh m w w').im d.aH)=O c.toList
    rw[if_neg jE];exact q4 j d c e p u hp hw
   have IC:∀j o,AP C b0 j=O o->ae C j o/\True:=λj o u=>by
    unfold AP at u;split at u
    .cases u
    .exact⟨u,trivial⟩
   have rl:OR T ((Ec m w w' pl.aH).eT h.n (O pl)) pl (K c2 e gr) o':=by
    cases hO with
    |cells C h2 h3 h4 h5 h6 h7=>exact .cells (LR.dv k2 IC r3 r4 A C) h2 (by rw[A.length];exact h3) h4 h5 h6 h7
   let⟨s1,s2⟩:=I2.newAt (pl:=pl) (o:=K c2 e gr) (w':=w') F hN (if_pos rfl) (λj d u hp=>by have:=cA j d u hp;omega) rl Mf (λ_ _ _=>rfl) (zR _) (.refl _);refine⟨.enter f ⟨L⟩,_,?_,rfl,(Ec m w w' pl.aH).eT h.n (O pl),_,lH,w',cr,hle.trans s1,s2,(by cases k3;exact .none),k4,?_,GC ?_ k3 k7 k6⟩
   .have:=Gy xb hn X (⟨L⟩:Array E) w;simpa[jT,yr,invoke]using this
   .cases k5 with
    |ret mF=>
     refine .ret ?_
     have key:∀{x y:E},NV (AP C b0) b0 h.n x y->∀{l:E},VR m' x l->VR ((Ec m w w' pl.aH).eT h.n (O pl)) y l:=by
      intro x y hxy;induction hxy with
      |dv hd=>intro l hz;exact VR.dv k2 IC r3 r4 hd hz
      |slice off n k=>
       intro l hz;rcases hz.lk with⟨AU,cd,hm,nO,rfl⟩|⟨h4,h5,AU,a,hm,rfl⟩
       .rw[B]at hm;cases hm;exact .slice (if_pos rfl) nO
       .subst h4;subst h5;rw[B]at hm;cases hm;exact .empty (if_pos rfl)
      |adH _ _ _ _ _ i0 i1 i2 i3 i4=>
       intro l hz;cases hz with
       |agg R=>
        cases R with
        |Cs z0 R=>cases R with
         |Cs z1 R=>cases R with
          |Cs z2 R=>cases R with
           |Cs z3 R=>cases R with
            |Cs z4 R=>cases R;exact .agg (.Cs (i0 z0) (.Cs (i1 z1) (.Cs (i2 z2) (.Cs (i3 z3) (.Cs (i4 z4) .Nl)))))
     exact key hv mF
   .rcases hK with h|h
    .exact zq h
    .exact zt h.1
def VX(T:au)(P:zo)(g:zZ)(e:zQ)(c:Bool)(a:A->Prop)(b:A->List E)(d:A->List E)(f:Nat->A->E):Prop:=
 ∀x,a x->∀h,bP T P (zU (za g) #[] #[]) (b x) h U (.r (f h.n x) (h.w (K (d x) e c)) U)
open Classical in
def aLf(e:zQ)(gr:Bool)(a:A->Prop)(b:A->List E)(d:A->List E)(f:Nat->A->E)(args:List E)(h:H):Option ag:=
 if c:∃x,a x/\b x=args then O (.r (f h.n (yE c)) (h.w (K (d (yE c)) e gr)) U)else U
def Jv{e:zQ}{gr:Bool}{b:A->List E}{c:Nat->A->E}(j:aR T P C)(k:VX T P f e gr L R b c):aR T P (bY f (aLf e gr L R b c) C):=by
 intro l args h a q;by_cases d:l=f
 .subst d;rw[gC]at q;unfold aLf at q;split at q
  .rename_i i;cases q;have:=k _ (zk i).1 h;rw[(zk i).2]at this;exact this
  .cases q
 .rw[jk d]at q;exact j _ _ _ _ q
def Ta{gr:Bool}{c2:A->List E}{b:Nat->A->E}(a:C f=aLf t gr L R c2 b)(d:∀x y,R x=R y->x=y)(n:Nat){x:A}(i:L x)(h:H):
 af T C n (aj f (R x) h)=.r (b h.n x) (h.w (K (c2 x) t gr)) U:=by
 refine ji n ?_;rw[a];unfold aLf;have c:∃y,L y/\R y=R x:=⟨x,i,rfl⟩;rw[dif_pos c,d _ _ (zk c).2]
end
section
variable{T:au}{P:zo}
def dj:E->E
 |.func (.via b _ a G) ⟨c⟩ ⟨[]⟩=>zU (.via 0 #[] a G) ⟨(c.drop b).take a⟩ ⟨[]⟩
 |.slice U 0 0=>zU (.via 0 #[] 0 G) ⟨[]⟩ ⟨[]⟩
 |v=>v
def VR.norm{m:M}(h:VR m v N):VR m (dj v) N:=by
 unfold dj;split
 .rename_i off p len es;cases h with
  |data i f g s j k=>
   rename_i eS pre post cd c sz;have hlen:=f.length
   have n:eS=eS.take off++((eS.drop off).take len++eS.drop (off+len)):=by rw[<-List.drop_drop,xO,xO]
   have a:=VR.data (m:=m) (es:=(es.drop off).take len) (eS:=(eS.drop off).take len) (fG:=[]) (pre:=pre++(eS.take off).flatMap (·.cells.toList)) (post:=(eS.drop (off+len)).flatMap (·.cells.toList)++post) (off:=0) (len:=len) (cd:=cd) (c:=c) (sz:=sz) (p:= #[])
    (by rw[i];conv=>lhs;rw[n]
        simp[List.flatMap_append,List.append_assoc]) ((f.drop off).take len) (λe b=>g e (List.mem_of_mem_drop (vV b))) (by simp;omega) j (zq rfl)
   have o:∀l:List E,(∀e∈l,I e.cells.toList=sz)->I (l.flatMap (·.cells.toList))=I l*sz:=by
    intro l;induction l with
    |nil=>intro _;simp
    |cons x l q=>intro h;rw[List.flatMap_cons,yD,q λe b=>h e (by simp[b]),h x (by simp),yo,xS,Nat.add_comm]
   have d:I (pre++(eS.take off).flatMap (·.cells.toList))+0*sz=I pre+off*sz:=by rw[yD,o _ λe b=>g e (vV b),List.length_take,Nat.min_eq_left (by omega)];omega
   rw[d]at a;exact a
  |gi r k=>exact .gi r (zq rfl)
 .cases h;exact .gi (λ_=>rfl) (zq rfl)
 .exact h
def LR.norm{m:M}:∀{l a:List E},LR m l a->LR m (l.map dj) a
 |[],_,h=>by cases h;exact .Nl
 |_::_,_,h=>by cases h with|Cs b c=>exact .Cs b.norm c.norm
def YC{a:ag}(g:bP T P v (l.map dj) h U a):bP T P v l h U a:=by intro n i e;let⟨hle,g⟩:=g n i e;exact⟨hle,λo m p c q d j w r F b s t k u=>g o m p c q d j w r F b s t.norm k u⟩
def HZ(c:List E->H->Option ag)(args:List E)(h:H):Option ag:=c (args.map dj) h
def Q4{c:List E->H->Option ag}(d:aR T P (bY f c C)):aR T P (bY f (HZ c) C):=by
 intro e args h a q;by_cases b:e=f
 .subst b;rw[gC]at q;exact YC (d _ _ _ _ (by rw[gC];exact q))
 .rw[jk b]at q;exact d _ _ _ _ (by rw[jk b];exact q)
def TJ{c:List E->H->Option ag}(b:C f=HZ c)(n:Nat){args:List E}{a:ag}(d:c (args.map dj) h=O a):af T C n (aj f args h)=a:=by refine ji n ?_;rw[b];exact d
def ah4{p:E}{args V:List E}{bs:List Nat}{a:ag}(y:bP T P v (p::args) (h.bx bs) U a)(k:h.mV bs)(hd:DL (jC h bs) V args):bP T P v (p::V) h U a:=by
 intro h' A n;let⟨hle,y⟩:=y h' A n;refine⟨(G0 bs h).trans hle,λr m hD i f' B C w hK F g hv L M hk=>?_⟩;have W:Fin r (h.bx bs):=F.of_le hle
 have s:∀(d:List Nat)(h:H),Fin r (h.bx d)->∀b∈d,r.cX b:=by
  intro d;induction d with
  |nil=>intro _ _ b k;cases k
  |cons x d ih=>
   intro h F b k;rcases zp.1 k with rfl|k
   .have X:Fin r (h.d b):=F.of_le (G0 d _);exact(GH h b).elim (λx=>(X.hi b x).1) (λx=>X.rd b x.1)
   .exact ih _ F b k
 let⟨m2,N,t,k2,k3⟩:=g.Po bs W k;cases L with
 |Cs hp L=>
  have Q:LR m2 args _:=LR.dv g (λb o j=>by
   unfold jC at j;split at j
   .rename_i q;exact⟨j,s bs h W b q⟩
   .cases j) t.im (λb pl c e v l hm hw=>k3 b pl c e v (by
   unfold jC at l;split at l
   .assumption
   .exact absurd rfl l) hm hw) hd L
  let⟨nx,R,e1,e2,m',S,u,w',cr,j1,j2⟩:=y r m2 N i f' _ C w hK F k2 (hv.mono t) (.Cs (hp.mono t) Q) (M.mono t) hk;exact⟨nx,R,e1,e2,m',S,u,w',cr,t.trans j1,j2⟩
def P6(T:au)(P:zo)(g:zZ)(R:A->List E->H->Prop)(a:A->List E->H->ag):Prop:=∀x args h,R x args h->bP T P (zU (za g) #[] #[]) args h U (a x args h)
open Classical in
def nP(R:A->List E->H->Prop)(a:A->List E->H->ag)(args:List E)(h:H):Option ag:=if b:∃x,R x args h then O (a (yE b) args h)else U
def MX{R:A->List E->H->Prop}{b:A->List E->H->ag}(d:aR T P C)(e:P6 T P f R b):aR T P (bY f (nP R b) C):=by
 intro i args h a q;by_cases c:i=f
 .subst c;rw[gC]at q;unfold nP at q;split at q
  .rename_i j;cases q;exact e _ _ _ (zk j)
  .cases q
 .rw[jk c]at q;exact d _ _ _ _ q
def J3{R:A->List E->H->Prop}{a:A->List E->H->ag}(d:C f=nP R a)(e:∀x y args h,R x args h->R y args h->a x args h=a y args h)(n:Nat){x:A}{args:List E}(b:R x args h):
 af T C n (aj f args h)=a x args h:=by
 refine ji n ?_;rw[d];unfold nP;have c:∃x,R x args h:=⟨x,b⟩;rw[dif_pos c,e _ _ _ _ (zk c) b]
def H2{β:Type}[Inhabited β]{i:Nat->A->List E}(k:A->β->List E)(r:A->β->MO)(Q:A->β->Prop)
 (j:∀x,L x->∃y,Q x y/\∀h a,ae h a (K (R x) t b)->bP T P (zU (za f) #[] #[]) (i a x) h U ((r x y).bi (h.p a (K (k x y) t b)))):
 ∃c:A->β,AY T P f t b L i R (λx=>k x (c x)) (λx=>r x (c x))/\∀x,L x->Q x (c x):=by
 classical
 refine⟨λx=>if d:L x then yE (j x d)else default,λx d h a l=>?_,λx d=>?_⟩
 .have:=(zk (j x d)).2 h a l;simpa[dif_pos d]using this
 .have:=(zk (j x d)).1;simpa[dif_pos d]using this
end
section
variable{T:au}{P:zo}
def aaj{Pr:A->Prop}{mo:A->MO}{c2:A->List E}{k:xZ}{args:List E}(l:T.f f=O k)(m:k.body=O x){o:List yR}(p:k.results.toList=o)
 (a:ay (λs=>∃r,Pr r/\cn T o t b (mo r) (c2 r) s) (λs=>∃r,Pr r/\cn T o t b (mo r) (c2 r) s) (λ_ _=>False) (λx s=>∃r,Pr r/\dD t b (mo r) (c2 r) x s) (aw T (af T C (n+1)) ⟨f,U⟩ x ⟨bF args 0 .Nl,[],h,U⟩)):
 ∃r,Pr r/\gJ t b (c2 r) (cB T (af T C (n+1)) f args h U (T.f f)) (mo r):=by
 rcases a.cases with⟨s,d,r,i,j⟩|⟨s,d,r,i,j⟩|⟨_,_,_,q⟩|⟨u,s,d,r,i,j⟩
 .exact⟨r,i,lm l m p (by rw[d];exact j)⟩
 .exact⟨r,i,lm l m p (by rw[d];exact j)⟩
 .cases q
 .exact⟨r,i,lm l m p (by rw[d];exact j)⟩
end
end Go.Am
