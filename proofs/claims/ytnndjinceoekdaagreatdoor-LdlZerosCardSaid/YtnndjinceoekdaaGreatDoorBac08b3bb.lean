/-
  Parts of the proof: Fw21: the framework (Fw), pure forms (Dn), plain laws (Pl, Th), calls of functions (Ok).
-/
import Derived.Test.YtnndjinceoekdaaGreatDoorB8657bb4f

set_option linter.all false
set_option maxHeartbeats 1000000
open _root_ renaming Nat->X,List->bm,Bool->bA,rfl->bn,Array->bU,cond_true->bG,cond_false->bP
open Go renaming World->bD,Oper->bR,Operand->bM,execOp->bL,resolve->aiG
open Option renaming some->Y,none->bo
open Bool renaming false->bq,true->bp
open Go.jf.c5 renaming refl->cq
open Go.jf.aX renaming here->ajx
open Go.Sem renaming run_bind->bY,run_pure->cw
open Go.Result renaming andThen_ok->b1
open Go.Oper renaming wp->aic
noncomputable section
namespace Go.jf
section
def nu (d:X) (st:aO) (c:bm ak) (b:bm hE) (a:bm aF):bA:=
 jq (gu c b)&&jq ((j4 c b++iU d (iR a) 0 a).map (·.1))&&(iU d (iR a) 0 a).all λe=>(ar st.h e.1).isNone
section
variable {E:fB} {C:eX} {st:aO} {a:Act} {w w':bD} {I I' B':X->Prop} {rt:X->ahS} {fp:X->ahY}
theorem Nr {rt:X->ahS} {l:ahY} {b:bm (X×aF)}:∀{as:bm ak} {bs:bm hE} {gs:ev},oG b l as bs->gs.length=bs.length->∀id∈my as bs,∃e∈g4 rt as bs gs,e.1=id/\ar b id=Y ⟨e.2.1.1,(match ar b id with|some h=>if i:h.1=e.2.1.1 then i▸h.2 else e.2.1.2|none=>e.2.1.2)⟩
 |[],bs,gs,_,_,id,b=>by cases bs<;>cases b
 |a::as,[],gs,f,_,id,b=>by cases a<;>exact f.elim
 |a::as,c::bs,[],_,k,id,b=>by cases k
 |a::as,c::bs,o::gs,f,k,id,b=>by
  have d:=Nr (rt:=rt) (as:=as) (bs:=bs) (gs:=gs) f.2 (by grind) id;have j:=f.1;cases a with
  |ref n g=>cases g with
   |nil=>
    cases c with
    |m h t=>
     simp only[my,fV] at b;simp only[g4];rcases b with rfl|b
     ·refine⟨_,nb ..,bn,?_⟩;rw[j.1];simp
     grind
    |_=>exact d b
   |cons=>cases c<;>exact d b
  |view n g q i=>cases g with
   |nil=>
    cases c with
    |w v s r p u=>
     simp only[my,fV] at b;simp only[g4];rcases b with rfl|b
     ·refine⟨_,nb ..,bn,?_⟩;rw[j.1];simp
     grind
    |_=>exact d b
   |cons=>cases c<;>exact d b
  |_=>cases c<;>exact d b
theorem Gc {e f g:Type} {h:e->f->g->Prop}:∀{as:bm e} {c:bm f} {d:bm g},mm h as c d->c.length=as.length/\d.length=as.length
 |[],c,d,b=>by cases c<;>cases d<;>first|exact⟨bn,bn⟩|exact b.elim
 |a::as,[],d,b=>b.elim
 |a::as,i::c,[],b=>b.elim
 |a::as,i::c,j::d,b=>by obtain⟨k,l⟩:=Gc b.2;grind
theorem XC {a:bm (X×Bk)} (c:((a.map λb=>b.2.2.2).flatten).Nodup):(∀b∈a,b.2.2.2.Nodup)/\∀d e g h,ar a d=Y g->ar a e=Y h->d≠e->∀j∈g.2.2,j∉h.2.2:=by
 induction a with
 |nil=>exact⟨ac,λd e g h c=>by cases c⟩
 |cons l a r=>
  obtain⟨z,l⟩:=l;simp only[ie,lW,jR] at c;obtain⟨s,m,t⟩:=c;obtain⟨i1,x⟩:=r m;refine⟨λb w=>?_,λd e g h o p v j u=>?_⟩
  ·grind
  rw[dh] at o p;have y:∀i f,ar a i=Y f->∀k∈f.2.2,k∈(a.map λb=>b.2.2.2).flatten:=λi f q k n=>lY.2 ⟨_,eY.2 ⟨(i,f),z9 q,bn⟩,n⟩;grind
theorem Eg {e:Type}:∀{c:bm (X×e)},(c.map (·.1)).Nodup->∀{b:X×e},b∈c->ar c b.1=Y b.2
 |[],_,b,a=>by cases a
 |(k,x)::c,d,b,a=>by
  simp only[ie,ko] at d;rw[dh];rcases fV.1 a with rfl|a
  ·rw[au bn]
  rw[ax (λf=>d.1 (by grind))];exact Eg d.2 a
theorem PV {e:X} {g:bA}:∀{j:X} {f:bm aF} {a:X} {c:ak},(vu e g j f)[a]?=Y c->∃b,f[a]?=Y b/\c=(bif b.1.pure then .val b.1 b.2 else .ref (rF e g (j+a)) [])
 |j,[],a,c,d=>by grind [vu]
 |j,b::k,a,c,d=>by
  simp only[vu] at d;cases a with
  |zero=>grind
  |succ a=>
   obtain⟨l,h,i⟩:=PV (by simpa using d);grind
theorem PW {b:X} {c:bA}:∀{j:X} {a:bm aF},(vu b c j a).length=a.length
 |j,[]=>rfl
 |j,e::d=>by simp[vu,PW]
theorem P1 {d:X} {s:bA}:∀{j:X} {res:bm aF} {cs:er} {hs:ev},cs.length=res.length->hs.length=res.length->∀(a:X) b c e,res[a]?=Y b->cs[a]?=Y c->hs[a]?=Y e->b.1.pure=bq->(rF d s (j+a),(b,c,e))∈k7 d s j res cs hs
 |j,[],cs,hs,_,_,a,b,c,e,aq,_,_,_=>by grind
 |j,b::f,[],hs,g,_,_,_,_,_,_,_,_,_=>by cases g
 |j,b::f,c::cs,[],_,h,_,_,_,_,_,_,_,_=>by cases h
 |j,b::f,c::cs,e::hs,g,h,a,m,i,k,aq,n,o,l=>by
  simp only[k7];cases a with
  |zero=>
   grind
  |succ a=>
   have:=P1 (d:=d) (s:=s) (j:=j+1) (res:=f) (cs:=cs) (hs:=hs) (by grind) (by grind) a m i k (by grind) (by grind) (by grind) l;grind
end
section
variable {E:fB} {C:eX} {st:aO} {A:bU bR} {Q:aO->Prop}
theorem Q2 {i:bm (X×aF)} {j:ahY}:∀{as:bm ak} {bs:bm hE},oG i j as bs->∀id∈gu as bs,∃h,ar i id=Y h
 |[],bs,_,id,b=>by cases bs<;>cases b
 |a::as,[],e,id,b=>by cases a<;>exact e.elim
 |a::as,c::bs,e,id,b=>by
  have d:=Q2 (as:=as) (bs:=bs) e.2 id;have f:=e.1;cases a with
  |ref k g=>cases g with
   |nil=>
    cases c with
    |m h s=>
     simp only[gu,fV] at b;rcases b with rfl|b
     ·exact⟨_,f.1⟩
     grind
    |o h=>
     simp only[gu,fV] at b;rcases b with rfl|b
     ·exact⟨_,f⟩
     grind
    |_=>exact d b
   |cons=>cases c<;>exact d b
  |view k g p l=>cases g with
   |nil=>
    cases c with
    |w u r q n t=>
     simp only[gu,fV] at b;rcases b with rfl|b
     ·exact⟨_,f.1⟩
     grind
    |_=>exact d b
   |cons=>cases c<;>exact d b
  |_=>cases c<;>exact d b
theorem IL {s:ahQ} {w:bD} {I:X->Prop} {rt:X->ahS} {fp:X->ahY} (e:cM C st s w I rt fp):∀{a:ahY},(∀id∈a,∃b,ar st.h id=Y b)->a.Nodup->((a.map fp).flatten).Nodup
 |[],_,_=>by simp
 |id::a,d,f=>by rw[ko] at f;simp only[ie,lW,jR];obtain⟨b,g⟩:=d id ac;refine⟨(e.tree id b g).2.1,IL e (λq u=>d q (by grind)) f.2,λj m t n c=>?_⟩;subst c;obtain⟨v,k,l⟩:=lY.1 n;obtain⟨i,o,rfl⟩:=eY.1 k;obtain⟨r,p⟩:=d i (by grind);exact e.dis id i b r g p (λc=>f.1 (c▸o)) j m l
def R8 (e:eC->X->Prop) (w:bD) (c:X) (b:bm aF) (f:X->ahS) (g:Value):Prop:=
 ∀(d:bm (X×aF)) (rt:X->ahS) (fp:X->ahY),(∀a∈iU c (iR b) 0 b,ar d a.1=Y a.2/\rt a.1=f a.1)->cN e w d rt fp (vt c b) g
def cM.glob {E:fB} {C:eX} {st:aO} {f:ahQ} {w:bD} {I:X->Prop} {rt:X->ahS} {fp:X->ahY} (b:cM C st f w I rt fp) (d:∀a,C.I0 a\/C.B a->a<C.w0.heap.size/\¬C.F0 a) (e:lm E C.I0 C.w0):lm E I w:=
 e.mono b.i0 λa c=>b.frame a (d a (.inl c)).1 (d a (.inl c)).2
theorem cM.call {C:eX} {st:aO} {hc:ahQ} {w:bD} {I:X->Prop} {rt:X->ahS} {fp:X->ahY} (H:cM C st hc w I rt fp) {m ci:X} {n:bm ak} {T:ahS} (c2:iw (cN (bb I C.B) w st.h rt fp) n T) {l:bm hE} {g:bm aF} (ft:rS E ci l g) (U:oG st.h (gu n l) n l) (a3:nu m st n l g=bp) (gf:∀G:ev,(∀e∈G.flatten,∃id c,ar st.h id=Y c/\e∈fp id)->KL w T G (pd 0 l)) (ex:lm E I w):Calls E.P ci T.toArray w (λN w'=>∃I' J Q r,N=.returned (qd r)/\ni C st w w' I I' rt fp (gu n l) (xn (my n l)) (j4 n l++iU m (iR g) 0 g) J Q/\R8 (bb I' C.B) w' m g J (qd r)):=by
 simp only[nu,cC,gY] at a3;obtain⟨⟨dl,ds⟩,jp⟩:=a3;have dl:=jq.ok dl;have ds:=jq.ok ds
 let v:=gu n l
 let B':X->Prop:=λe=>C.B e\/∃id c,ar st.h id=Y c/\eP id v=bq/\e∈fp id
 have em:∀e,C.B e->B' e:=λe k=>.inl k;have eq:∀id c,ar st.h id=Y c->eP id v=bq->∀e∈fp id,B' e:=λid c y o e k=>.inr ⟨id,c,y,o,k⟩;obtain⟨G,f0,i0⟩:=Lj H (B':=B') (S:=v) em eq (args:=l) c2 U;have kg:∀id∈v,∃c,ar st.h id=Y c:=λid x=>Q2 U id x;have V:∀e∈G.flatten,∃id∈v,∃c,ar st.h id=Y c/\e∈fp id:=(by grind);have f1:G.flatten.Nodup:=(by grind [IL]);have fz:=ft w I B' T G (λe k=>by
  rcases k with k|k|⟨id,c,y,_,k⟩
  ·exact H.ib e (.inl k)
  ·exact H.ib e (.inr k)
  ·exact((H.tree id c y).2.2 e k).2.2.1) f0 f1 (λe k=>by
  obtain⟨id,x,c,y,av⟩:=V e k;obtain⟨aw,d6,bx,d7⟩:=(H.tree id c y).2.2 e av;refine⟨aw,?_,bx⟩;rintro(A|⟨d4,am,gi,o,fs⟩)
  ·grind
  ·have f9:id≠d4:=λN=>(by grind [ha]);exact H.dis id d4 c am y gi f9 e av fs) (gf G λe k=>by
  grind) ex
 refine fz.mono ?_;rintro N w' ⟨I',F,D,r,rfl,p⟩;obtain⟨K,a4,bl,lb,d2⟩:=PY p.res;have f2:=(Gc p.args).2;have c1:oG st.h v n l:=U
 let q:bm (X×Bk):=g4 rt n l F++k7 m (iR g) 0 g K D
 have ic:q.map (λb=>(b.1,b.2.1))=j4 n l++iU m (iR g) 0 g:=(by grind [Pv,E5]);have cv:(q.map (·.1)).Nodup:=(by grind);have i1:((g4 rt n l F).map (λb=>b.2.2.2)).flatten=F.flatten:=Pu c1 p.args;have i3:((k7 m (iR g) 0 g K D).map (λb=>b.2.2.2)).flatten.Sublist D.flatten:=PZ;have cs:((q.map λb=>b.2.2.2).flatten).Sublist (F.flatten++D.flatten):=(by grind);obtain⟨ii,hs⟩:=XC (p.nd.sublist cs);have gc:∀b∈g4 rt n l F,aR (bb I' C.B) w' b.2.1.1 b.2.2.1 b.2.1.2 b.2.2.2/\b.2.2.1=rt b.1/\b.1∈v/\∃c,ar st.h b.1=Y c/\b.2.1.1=c.1:=(by exact Pw H (S:=v) (args:=l) (gs:=F) c2 U p.args);have fn:∀b∈q,aR (bb I' C.B) w' b.2.1.1 b.2.2.1 b.2.1.2 b.2.2.2/\(b.1∈v\/ar st.h b.1=bo):=by
  intro b z;rcases hX.1 z with z|z
  ·grind
  obtain⟨f,aq,O,an⟩:=P0 a4 bl b z;have f6:f<r.length:=(by grind);obtain⟨_,R⟩:=d2 f _ _ _ r[f] aq O an ac;refine⟨R.mono (λbs e o=>⟨?_,cq _ _⟩) (λe _=>cq _ _),.inr ?_⟩
  ·cases bs
   ·exact o
   exact o.elim .inl (λA=>A.elim)
  have o:(b.1,b.2.1)∈iU m (iR g) 0 g:=(by grind [E5]);grind [Option.isNone_iff_eq_none]
 have fl:∀b∈q,∀e∈b.2.2.2,e∈F.flatten++D.flatten:=λb z e k=>cs.subset (lY.2 ⟨_,eY.2 ⟨b,z,bn⟩,k⟩);have d0:∀f,ar (j4 n l++iU m (iR g) 0 g) f=(ar q f).map (·.1):=λf=>by grind [NM]
 let J:X->ahS:=λf=>match ar q f with|some b=>b.2.1|none=>[]
 let Q:X->ahY:=λf=>match ar q f with|some b=>b.2.2|none=>[]
 have gl:ni C st w w' I I' rt fp v (xn (my n l)) (j4 n l++iU m (iR g) 0 g) J Q:=
  ⟨p.size,p.os,p.tape,p.output,λe k io=>p.heap e k (λfT=>by obtain⟨id,x,c,y,av⟩:=V e fT;grind),p.evo,p.i,(λe k=>by
    rcases p.i2 e k with A|⟨L,M|M⟩
    ·grind
    ·omega
    exact .inr ⟨L,.inr (V e M)⟩),
   (λid c x=>by
    rw[d0] at x;cases ap:ar q id with
    |none=>grind
    |some b=>
     rw[ap] at x;obtain rfl:b.1=c:=gC x;have o:=z9 ap;obtain⟨L,M⟩:=fn _ o;refine⟨M,by grind,by grind,λe k=>?_⟩;simp only[Q,ap] at k;obtain⟨aw,d6,bx,d7⟩:=p.Ls e (fl _ o e k);exact⟨aw,bx,d7.imp (λA=>A) (V e)⟩),
   (λad d8 c lk f4 f5 i8 e k=>by
    rw[d0] at f4 f5;cases hv:ar q ad with
    |none=>grind
    |some lc=>
     cases hw:ar q d8 with
     |none=>grind
     |some le=>
      grind),
   (λd9 a0 c y=>by
    obtain⟨id,x,rfl⟩:=eY.1 a0;obtain⟨b,z,N,_⟩:=Nr (rt:=rt) c1 f2 id x;subst N;have o:b∈q:=r1 _ z;have kd:=Eg cv o;obtain⟨_,M,_,am,co,el⟩:=gc b z;rw[y] at co;obtain rfl:=gC co;exact⟨b.2.1,by grind,el,by grind,⟨c.1,by cases c.1<;>rfl⟩,λb _ _ _ a3=>by grind [D9]⟩),
   (λd9 a0 c y b _ _ _ _ _ is=>by
    obtain⟨id,x,rfl⟩:=eY.1 a0;grind [uK])⟩
 refine⟨I',J,Q,r,bn,gl,λL go ek f3=>?_⟩;have d5:∀(f:X) (c:aF) (u:Value),g[f]?=Y c->r[f]?=Y u->cN (bb I' C.B) w' L go ek (bif c.1.pure then .val c.1 c.2 else .ref (rF m (iR g) (0+f)) []) u:=by
  intro f c u aq O;have f6:f<g.length:=(hF.1 aq).1;obtain⟨an,R⟩:=d2 f c K[f] D[f] u aq ac ac O;subst an;cases d1:c.1.pure with
  |true=>
   simp only[bG];have:=R.pure d1;rw[this] at R;refine .val (R.mono (λbs e o=>⟨?_,cq _ _⟩) ac);cases bs
   ·exact o
   exact o.elim .inl (λA=>A.elim)
  |false=>
   simp only[bP];have f7:=P1 (d:=m) (s:=iR g) (j:=0) a4 bl f c K[f] D[f] aq ac ac d1;have o:(rF m (iR g) (0+f),(c,K[f],D[f]))∈q:=lq _ f7;have f8:(rF m (iR g) (0+f),c)∈iU m (iR g) 0 g:=(by rw[<-E5 (d:=m) (s:=iR g) (j:=0) a4 bl];grind);obtain⟨aw,d6⟩:=f3 _ f8;refine .ref (t:=c) (loc:=bo) aw ?_;have hr:J (rF m (iR g) (0+f))=K[f]:=(by simp only[J,Eg cv o]);grind [ajx]
 cases d3:g with
 |nil=>
  have:r=[]:=qv (by grind);subst this;exact .fe (vs:=#[]) rfl (λad a u A=>by grind)
 |cons c ce=>
  cases ce with
  |nil=>
   obtain⟨u,rfl⟩:∃u,r=[u]:=qB.1 (by grind);have:=d5 0 c u (by grind) rfl;rw[d3] at this;exact this
  |cons gt ce=>
   have ge:qd r=.tuple r.toArray:=by
    have:r.length=(c::gt::ce).length:=by grind
    match r,this with
    |v1::fw::lf,_=>rfl
   rw[ge];refine .fe (by grind [PW]) (λad hi u L M=>?_);obtain⟨am,aq,O⟩:=PV L;have:=d5 ad am u (by grind) (by grind);rw[d3] at this;rw[O];exact this
theorem P2 {a:X} {d:bA} {c:bm aF} {e:bm (X×aF)} (f:((e++iU a d 0 c).map (·.1)).Nodup):∀b∈iU a d 0 c,ar (e++iU a d 0 c) b.1=Y b.2:=
 λb g=>Eg f (lq _ g)
theorem eZ.call {Q:aO->Prop} {j d:X} {l:bR} {f:bM} {c:bm ak} {b s:bU _} (K:l.op=.call {callee:=.value f,args:=b,argTypes:=s}) (S:aT st.g f=.eA d c) (G:l.dst=Y j) (H:C.ok j) (ap:∀(r:ahQ) (w:bD),(callFunc d r).run E.P w=.ok (.enter d r) w) {i:bm hE} {n:bm aF} (D:rS E d i n) (N:pd 0 i=bo) (x:∀m,C.I0 m\/C.B m->m<C.w0.heap.size/\¬C.F0 m) (y:lm E C.I0 C.w0) (z:oG st.h (gu (b.toList.map (aT st.g)++c) i) (b.toList.map (aT st.g)++c) i) (p:nu j st (b.toList.map (aT st.g)++c) i n=bp) (u:Q (Tn j st (b.toList.map (aT st.g)++c) i n)):eZ E C l st Q:=by
 rintro a w ⟨I,rt,fp,k⟩ next U J
 obtain⟨e,R,v⟩:∃e:ahQ,a.eval f=.func (.func d) #[] e/\iw (cN (bb I C.B) w st.h rt fp) c e.toList:=by
  have o:=k.aT f;rw[S] at o;generalize bs:a.eval f=ci at o;cases o with|eA a3 a0=>
  grind [yB]
 have A:iw (cN (bb I C.B) w st.h rt fp) (b.toList.map (aT st.g)++c) (b.toList.map a.eval++e.toList):=Ga (Gb (λf=>k.aT f) _) v;have F:=k.call A D z p (λ_ _=>by rw[N];trivial) (k.glob x y);generalize an:b.toList.map (aT st.g)++c=V at*;have M:(bL a.eval l).run E.P w=.ok (.enter d (b.toList.map a.eval++e.toList).toArray) w:=(by have aq:b.map a.eval=(b.toList.map a.eval).toArray:=(by grind);have t:(b.toList.map a.eval++e.toList).toArray=(b.toList.map a.eval).toArray++e:=ac;rw[t];simp only[bL,K,aiG,aq,bY,R,Deferred.ofValue,cw,b1,invoke,Array.empty_append,Array.append_empty];grind);unfold aic;rw[M];show Calls E.P d _ w _;refine F.mono ?_;rintro ad w' ⟨I',ce,am,T,rfl,O,L⟩;show next (a.put l.dst (qd T)) w'
 rw[G];have q:=p;simp only[nu,cC] at q;have a4:=jq.ok q.1.2;refine J _ _ _ u bn ⟨I',_,_,(k.eB O).put H (av:=vt j n) (L _ _ _ (λbx bl=>?_))⟩;grind [kC,P2,fi]
end
end
end Go.jf
end
