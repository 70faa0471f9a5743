/-
  Parts of the proof: Fw1, Fw2, Fw3, Fw4, Fw5, Fw6, Fw7, Fw8, Fw40, Fw41, Fw9, Fw10, Fw11, Fw12, Fw13, Fw14, Fw15, Fw16, Fw17, Fw18, Fw19, Fw20: the framework (Fw), pure forms (Dn), plain laws (Pl, Th), calls of functions (Ok).
-/
import Derived.Laws.AppendOwn
import Derived.ArgAppend
import Derived.Laws.IdiomCopy
import Derived.Laws.Cells
import Derived.Laws.MakeOwn
import Derived.Calls
import Derived.Orders
import Derived.Laws.Entries
import Derived.Maps.RangeRun

set_option linter.all false
set_option maxHeartbeats 1000000
open Go renaming TypeId->bG,Operand->bP,World->bD,MapEntry->cl,Exit->b6,IntKind->cr,undef->bW,Program->b1,Field->akl,sizeOf->akK,typeInfo->akr,run_underlying->b8,Oper->bS,execOp->bO,eqGuard->akS,binOp->aka,resolve->akC,builtin->akU,asIntOf->ak4,madeCells->ana,zeroValue->akg,newRow->akD
open _root_ renaming Nat->X,Array->bU,Option->bw,DecidableEq->am6,List->bn,Int->Z,Bool->bA,Unit->bt,rfl->bo,and_true->ca,False->b7,true_and->alm,if_true->cg,if_false->akT,congrArg->b4,cond_false->bR,cond_true->bH,beq_self_eq_true->aks,decide_eq_true->aj8,decide_eq_false->akw,decide_eq_true_eq->akn,dif_pos->ak7
open Option renaming some->Y,none->bq,isSome_none->ane,isSome_some->amo
open Bool renaming true->bp,false->br
open Go.World renaming cell?_of_block->aoc,frozen?_of_block->aod,cell?->ak6,frozen?->amn,setCells->amu,setCell->aoo,cell?_setCells_in->alW,cell?_setCells_out->amv,frozen?_setCells->anj
open Go.MapEntry renaming mk->ame
open Go.Value renaming oneCell'->akj,int->akb,map->als,agg->aop
open List renaming mem_cons_of_mem->amf,mem_flatten->alk,mem_of_getElem?->akf,getElem?_take->amh,count_cons->ami,take_take->aoe,all_eq_true->ak1,getElem?_eq_some_iff->ak2,drop_drop->alL,append_eq_nil_iff->am8,drop_eq_getElem_cons->alO,replicate->bJ,range->bL,pairwise_cons->alR,filter_eq_self->alp,map_congr_left->akt,getElem?_inj->amp,getElem?_toArray->anh,map_toArray->amr,foldlM_cons->aok,any_eq_true->aol,getElem?_eq_getElem->b0,take_append_drop->alu,getElem_mem->b5,flatten_cons->ak9
open Go.Value.pointer renaming injEq->ak0
open Go.Addr.mk renaming injEq->akk
open Go.Value.slice renaming injEq->aj3
open Iff renaming rfl->amg
open Nat renaming min_self->aof,beq->bI,eq_of_beq_eq_true->akJ,ble->b3,add_comm->alQ,blt->cf,beq_refl->alT,div_lt_iff_lt_mul->ams,mod_lt->ak8,div_add_mod->amt
open Option.some renaming inj->aln
open ByteArray renaming empty->amj
open Go.Sem renaming run_bind->bY,run_pure->ct
open Go.Result renaming andThen_ok->b2
open Go.Addr renaming add_lit->akR
open Go.Oper renaming wp->aj9
open BitVec renaming ofInt->ch
open Decidable renaming decide->bu
open Go.Op renaming equalIn->ak3,equal->alM,maxDepth->alN,unary->ani
open Go.Builtin renaming len_->am7,delete_->ang,append_->alU,firstCells->aom,lenOf->aon,zeroCells->alV
open Go.Instr renaming loadAt->aog,sureAddr->alo,sliceBounds->alP,sliceBound->am9,fill->aoh,box->amk,findNow->alq,sameNow->anc,findKey->alS,checkKey->aoi,mapUpdate->akL,keyThatStays->alr,sameBits->anf,lookup->amq
open Array renaming map->aml,mapM_eq_mapM_toList->anb,eraseIdxIfInBounds->aoj,getD_eq_getD_getElem?->ank
open List.Pairwise renaming nil->amm,cons->apt
open Pure renaming pure->ak5
open Go.Region renaming wanted->amw
theorem aa{p:Prop}(h:p:=by omega):p:=h
theorem ab{p:Prop}(h:p:=by decide):p:=h
theorem ac{p:Prop}(h:p:=by simp):p:=h
abbrev aw:=@if_neg
abbrev ax:=@if_pos
abbrev aI:=@Option.bind_some
abbrev bd:=@Nat.le_refl
abbrev bk:=@List.getElem?_eq_getElem
abbrev cE:=@Bool.and_eq_true
abbrev cG:=@List.getElem_mem
abbrev cR:=@Nat.lt_or_ge
abbrev c5:=@Nat.zero_le
abbrev di:=@Nat.le_trans
abbrev eL:=@Option.bind_eq_some_iff
abbrev eM:=@List.length_map
abbrev eT:=@Option.some.injEq
abbrev fe:=@List.mem_map
abbrev ff:=@Nat.eq_of_beq_eq_true
abbrev fg:=@List.mem_singleton
abbrev fl:=@Option.map_eq_some_iff
abbrev fF:=@Int.toNat_natCast
abbrev fG:=@List.mem_cons
abbrev fW:=@List.take_of_length_le
abbrev fZ:=@Int.eq_ofNat_of_zero_le
abbrev gb:=@Option.some.inj
abbrev gB:=@Int.le_of_lt
abbrev gI:=@Bool.not_true
abbrev gK:=@List.length_take
abbrev gL:=@Nat.le_of_ble_eq_true
abbrev gU:=@List.all_eq_true
abbrev g3:=@List.mem_cons_of_mem
abbrev ha:=@List.mem_append
abbrev hm:=@List.take_length
abbrev hG:=@List.mem_iff_getElem
abbrev hM:=@List.cons.injEq
abbrev hN:=@List.getElem?_eq_some_iff
abbrev hR:=@Nat.mul_le_mul_right
abbrev hW:=@List.length_append
abbrev hX:=@List.map_cons
abbrev hY:=@List.pairwise_iff_getElem
abbrev h6:=@Nat.min_eq_left
abbrev h8:=@Prod.mk.injEq
abbrev il:=@List.ext_getElem?
abbrev iF:=@List.mem_filter
abbrev iG:=@List.take_add_one
abbrev iT:=@Nat.lt_of_lt_of_le
abbrev jf:=@List.length_cons
abbrev jg:=@List.mem_of_getElem?
abbrev jh:=@List.nil_append
abbrev ji:=@List.nodup_append
abbrev jr:=@Bool.or_eq_true
abbrev ju:=@List.map_congr_left
abbrev jv:=@Option.map_some
abbrev jI:=@List.getElem?_map
abbrev jJ:=@List.mem_range
abbrev jK:=@List.take_append_drop
abbrev jL:=@Nat.one_mul
abbrev jM:=@Nat.pow_add
abbrev jN:=@Nat.two_pow_pos
abbrev j4:=@List.map_append
abbrev j5:=@List.range_succ
abbrev kp:=@List.nodup_cons
abbrev kq:=@Nat.add_mul
abbrev k6:=@List.append_assoc
abbrev lC:=@Int.mul_assoc
abbrev lD:=@List.mem_append_right
abbrev lV:=@List.flatten_cons
abbrev lX:=@List.mem_flatten
abbrev ml:=@Bool.not_false
abbrev mm:=@Int.lt_or_le
abbrev mn:=@Int.pow_add
abbrev mq:=@List.length_filter_le
abbrev mr:=@List.mem_cons_self
abbrev mR:=@Int.mul_le_mul_of_nonneg_left
abbrev mS:=@Int.pow_pos
abbrev mT:=@List.drop_zero
abbrev mU:=@List.filter_eq_self
abbrev mV:=@Nat.add_zero
abbrev mW:=@Nat.zero_add
abbrev nm:=@List.pairwise_cons
abbrev nn:=@Nat.mul_comm
abbrev np:=@Nat.mul_le_mul
abbrev n1:=@List.cons_append
abbrev n2:=@List.flatMap_append
abbrev n3:=@List.getD_eq_getElem?_getD
abbrev n4:=@List.getElem_map
abbrev n5:=@List.mem_append_left
abbrev oY:=@List.length_drop
abbrev px:=@Int.zero_mul
abbrev pA:=@List.any_eq_true
abbrev pB:=@List.append_nil
abbrev pC:=@List.drop_eq_nil_of_le
abbrev pD:=@List.filter_cons
abbrev pE:=@List.getElem?_eq_none
abbrev pF:=@List.length_nil
abbrev pG:=@List.length_range
abbrev pJ:=@Nat.lt_succ_self
abbrev qs:=@Array.mem_append_right
abbrev qw:=@Int.ediv_eq_zero_of_lt
abbrev qx:=@Int.ediv_nonneg
abbrev qy:=@Int.mul_comm
abbrev qz:=@List.filter_congr
abbrev qA:=@List.getElem?_cons_zero
abbrev qB:=@List.getElem?_drop
abbrev qC:=@List.length_singleton
abbrev qD:=@List.map_nil
abbrev qE:=@List.pairwise_map
abbrev rV:=@Array.getElem?_eq_some_iff
abbrev rW:=@Bool.and_eq_true_iff
abbrev r3:=@Int.emod_add_mul_ediv
abbrev r4:=@Int.mul_nonneg
abbrev r5:=@List.all_cons
abbrev r6:=@List.drop_drop
abbrev r7:=@List.eq_nil_of_length_eq_zero
abbrev r8:=@List.filter_append
abbrev r9:=@List.flatMap_cons
abbrev sa:=@List.getElem?_append_right
abbrev sb:=@List.getElem?_take_of_lt
abbrev sc:=@List.length_eq_one_iff
abbrev sd:=@Nat.eq_zero_or_pos
abbrev tX:=@Bool.not_eq_true'
abbrev tZ:=@Int.ediv_ediv_of_nonneg
abbrev ua:=@Int.emod_eq_of_lt
abbrev ub:=@Int.natAbs_mul
abbrev uc:=@Int.natCast_mul
abbrev ud:=@List.any_eq_false
abbrev ue:=@List.count_append
abbrev uf:=@List.drop_of_length_le
abbrev ug:=@List.getElem?_append_left
abbrev uh:=@List.getElem_inj
abbrev ui:=@List.map_map
abbrev uj:=@List.perm_iff_count
abbrev uk:=@List.size_toArray
abbrev um:=@List.take_append_of_le_length
abbrev uo:=@Nat.div_add_mod
abbrev uq:=@Nat.lt_trichotomy
abbrev ur:=@Nat.sub_self
abbrev us:=@Option.getD_some
abbrev uv:=@Rat.intCast_mul
abbrev ww:=@Array.replicate_succ
abbrev wx:=@Array.replicate_zero
abbrev wy:=@Bool.eq_iff_iff
abbrev wF:=@Int.ediv_le_self
abbrev wG:=@List.append_toArray
abbrev wH:=@List.drop_append_of_le_length
abbrev wI:=@List.drop_eq_getElem_cons
abbrev wJ:=@List.ext_getElem
abbrev wK:=@List.getElem?_cons_succ
abbrev wL:=@List.getElem?_set
abbrev wM:=@List.length_replicate
abbrev wN:=@List.push_toArray
abbrev wO:=@Nat.add_assoc
abbrev wP:=@Nat.lt_irrefl
abbrev wQ:=@Nat.mul_assoc
abbrev wR:=@Nat.pow_le_pow_right
abbrev za:=@Int.add_mul_ediv_left
abbrev zb:=@Int.emod_nonneg
abbrev zc:=@Int.mul_eq_zero
abbrev zd:=@Int.mul_lt_mul_of_pos_right
abbrev ze:=@List.append_of_mem
abbrev zf:=@List.flatten_append
abbrev zg:=@List.getElem?_range
abbrev zh:=@List.mem_toArray
abbrev zi:=@List.singleton_append
abbrev zk:=@Nat.not_lt_zero
abbrev Cb:=@Array.getElem?_eq_getElem
abbrev Cc:=@Array.getElem?_toList
abbrev Cd:=@Bool.or_eq_true_iff
abbrev Cl:=@Int.add_mul_emod_self_left
abbrev Cm:=@List.Pairwise.imp_of_mem
abbrev Cn:=@List.filter_sublist
abbrev Co:=@List.mem_of_mem_take
abbrev Cp:=@List.takeWhile_append_dropWhile
abbrev GA:=@Int.tdiv_eq_ediv_of_nonneg
abbrev GB:=@Int.tmod_eq_emod_of_nonneg
abbrev GG:=@List.filter_cons_of_neg
abbrev GH:=@List.filter_cons_of_pos
abbrev GI:=@List.idxOf_lt_length_iff
abbrev GJ:=@List.mem_of_find?_eq_some
abbrev GK:=@List.mem_take_iff_getElem
abbrev GL:=@Option.isSome_iff_exists
abbrev dk:=List (Int×(Int×(List Int×(Int×Unit))))×(Option (List (Int×(Int×(List Int×(Int×Unit)))))×Option (List Int)×Unit)×Unit
abbrev dn:=(List (List Int)×Unit)×List (Int×(Int×(List Int×(Int×Unit))))×Unit
abbrev dp:=List (Int×(Int×(List Int×(Int×Unit))))×(Option Int×Unit)×Unit
abbrev dq:=(List (List Int)×Unit)×(List (List Int)×Unit)×List Int×Unit
abbrev dr:=(Int×List Int×Unit)⊕((List Int×Unit)⊕(List Int×Bool×Unit))
abbrev dt:=(List Int×Unit)⊕((Int×List Int×Unit)⊕(Unit⊕(Int×Unit)))
abbrev du:=Int×(List (List Int)×Unit)×(List (List Int)×Unit)×Unit
abbrev dv:=(List (List Int)×Unit)×(List (List Int)×Unit)×Unit
abbrev dw:=List Int×(Option (List (List Int)×Unit)×Unit)×Unit
abbrev dx:=(Int×Unit)⊕(Unit⊕((Int×Unit)⊕(Unit⊕(Int×Unit))))
abbrev dy:=Int×(List (List Int)×Unit)×List (List Bool)×Unit
abbrev dz:=List (Int×(Int×(List Int×(Int×Unit))))×Int×Unit
abbrev dA:=(List (List Int)×Unit)×List (List Bool)×Unit
abbrev dB:=Int×(List (List Bool)×(List Bool×Unit))×Unit
abbrev dC:=Unit⊕(Unit⊕((Int×Unit)⊕(Unit⊕(Int×Unit))))
abbrev dD:=(List (List Bool)×(List Bool×Unit))×Unit
abbrev dE:=(Int×List Bool×Unit)⊕(Unit⊕(Bool×Unit))
abbrev dF:=List (Int×(Int×(List Int×(Int×Unit))))
abbrev dG:=(Int×Int×Unit)⊕((Int×Unit)⊕(Int×Unit))
abbrev dI:=(List (List Int)×Unit)×List Int×Unit
abbrev dJ:=(List Int×Unit)⊕(List Int×Bool×Unit)
abbrev dK:=Unit⊕((Int×Unit)⊕(Unit⊕(Int×Unit)))
abbrev dM:=(Int×Int×Unit)⊕(Unit⊕(Bool×Unit))
abbrev dN:=List (List Bool)×(List Bool×Unit)
abbrev dO:=(List (List Int)×Unit)×Int×Unit
abbrev dP:=Int×(Int×(List Int×(Int×Unit)))
abbrev dQ:=(Int×Unit)⊕(Unit⊕(Bool×Unit))
abbrev dR:=(Int×Unit)⊕(Unit⊕(Int×Unit))
abbrev dS:=(List (List Int)×Unit)×Unit
abbrev dT:=Int×List (List Bool)×Unit
abbrev dU:=Int×(List Int×(Int×Unit))
abbrev dV:=List (List Bool)×Unit
abbrev dX:=(Int×Unit)⊕(Int×Unit)
abbrev dY:=List (List Int)×Unit
abbrev ea:=List Int×Bool×Unit
abbrev eb:=Int×List Bool×Unit
abbrev ec:=List Int×Int×Unit
abbrev ed:=Int×List Int×Unit
abbrev ee:=Nat×Nat×List Nat
abbrev ef:=Unit⊕(Bool×Unit)
abbrev eg:=Int×Int×Int×Unit
abbrev eh:=Unit⊕(Int×Unit)
abbrev ei:=List Bool×Unit
abbrev ej:=Int×Bool×Unit
abbrev en:=List Int×Unit
abbrev eo:=Bool×Int×Unit
abbrev ep:=Int×Int×Unit
abbrev er:=Bool×Unit
abbrev es:=Int×Unit
abbrev et:=Nat×Nat
abbrev eu:=List (List Go.Value)
abbrev ev:=Option (List Int)
abbrev ew:=List (Option Int)
abbrev ey:=List (List Bool)
abbrev ez:=List (List Nat)
abbrev eA:=List (List Int)
abbrev ajQ:=Option Go.Operand
abbrev ajR:=Array Go.Value
abbrev ajS:=List Go.TypeId
abbrev ajT:=List Go.Value
abbrev ajU:=Option Int
abbrev ajV:=Option Nat
abbrev ajW:=List Bool
abbrev ajX:=Option er
abbrev ajY:=Option es
abbrev ajZ:=List Nat
abbrev aj0:=List Int
abbrev aj1:=List et
noncomputable section
namespace Go.jt
variable{a x T:bG}{b i:X}{c h:bP}{f m:bD}{g y:ajT}{j:X->Prop}{k:ajZ}{o:bU cl}{p:X->ajT}{q:X->ajZ}{s:bw Addr}{t:b6->Act->bD->Prop}{v:cr}{z:ajR}{N S:Type}{Q:bU (X×bP)}{R:Value}
inductive dh where
 |be
 |c7
 deriving am6
variable{e:dh->X->Prop}
inductive ai where
 |int (k:cr)
 |bool
 |str
 |a6 (m:dh) (t:ai)
 |ptr (m:dh) (t:ai)
 |osl (t:ai)
 |optr (t:ai)
 |st (t:ai)
 |pr (a b:ai)
 |nil
 |eB
 |mp (t:ai)
 |e1 (m:dh) (t:ai)
 |fn (n:X) (t:ai)
 deriving am6
variable{d r:ai}{l:bn (X×ai)}
def ai.size:ai->X
 |.pr a b=>a.size+b.size
 |.st c=>c.size
 |.nil|.eB=>0
 |_=>1
@[reducible] def ai.den:ai->Type
 |.int _=>Z
 |.bool=>bA
 |.str=>ByteArray
 |.a6 _ a=>bn a.den
 |.ptr _ a=>bw a.den
 |.osl a=>bn a.den
 |.optr a=>a.den
 |.st a=>a.den
 |.pr b c=>b.den×c.den
 |.nil=>bt
 |.eB=>bt
 |.mp a=>bw (bn (Z×a.den)×X)
 |.e1 _ a=>bw (bn (Z×a.den)×X)
 |.fn _ a=>a.den
def kH {d:Type} (b:bn (Z×X×d)) (c:bn (Z×d)) (g:X):Prop:=
 c.Pairwise (λe f=>e.1<f.1)/\(b.map λa=>(a.1,a.2.2)).Perm c/\(b.map λa=>a.2.1).Nodup/\∀a∈b,a.2.1<g
def cV:ai->ajT->Value
 |.st _,a=>.agg a.toArray
 |_,a=>a.headD bW
def fd (f:bD) (c e:X) (d:ajT):Prop:=∀a b,d[a]?=Y b->f.cell? ⟨c,e+a,bq⟩=Y b
def iE (c:bD) (b e d:X):Prop:=∀a,e<=a->a<d->(c.cell? ⟨b,a,bq⟩).isSome=bp/\c.frozen? ⟨b,a,bq⟩=br
def i6 (d:bD) (a:X):bw (bU cl×X):=match d.heap[a]? with
 |some (.map c b)=>Y (c,b)
 |_=>bq
def c6 (c d:bD) (a:X):Prop:=(∀b,d.cell? ⟨a,b,bq⟩=c.cell? ⟨a,b,bq⟩/\d.frozen? ⟨a,b,bq⟩=c.frozen? ⟨a,b,bq⟩)/\i6 d a=i6 c a
def c6.refl (a:bD) (b:X):c6 a a b:=⟨λ_=>⟨bo,bo⟩,bo⟩
theorem c6.of_heap (c:m.heap[b]?=f.heap[b]?):c6 f m b:=
 ⟨λd=>⟨aoc (a:=⟨b,d,bq⟩) c,aod (a:=⟨b,d,bq⟩) c⟩,by grind [i6]⟩
def k5 (j k:bD) (d:X):Prop:=∀f b,i6 j d=Y (f,b)->∃g e,i6 k d=Y (g,e)/\b<=e/\∀(h:X) (a:cl),g[h]?=Y a->a.born<b->∃(i:X) (c:cl),f[i]?=Y c/\c.key=a.key/\c.born=a.born
def k5.of_eq (e:i6 m b=i6 f b):k5 f m b:=
 λd a h=>⟨d,a,e.trans h,bd _,λi c g _=>⟨i,c,g,bo,bo⟩⟩
def k5.refl (a:bD) (b:X):k5 a a b:=.of_eq bo
def k5.of_heap {b c:bD} {a:X} (d:c.heap[a]?=b.heap[a]?):k5 b c a:=.of_eq (c6.of_heap d).2
theorem k5.trans {a:bD} (h:k5 f m b) (i:k5 m a b):k5 f a b:=λe c k=>by obtain⟨g,d,j,o,p⟩:=h e c k;obtain⟨n,l,q,r,s⟩:=i g d j;grind
def fd.fV (a:fd f b i g) (d:c6 f m b):fd m b i g:=
 λe h c=>by rw[(d.1 _).1];exact a e h c
def iE.fV {c:X} (d:iE f b c i) (a:c6 f m b):iE m b c i:=
 λh e g=>by rw[(a.1 _).1,(a.1 _).2];exact d h e g
def aT (i:dh->X->Prop) (f:bD):(B:ai)->ajT->B.den->ajZ->Prop
 |.int z,a,v,d=>d=[]/\a=[.int z v]
 |.bool,a,c,d=>d=[]/\a=[.bool c]
 |.str,a,A,d=>d=[]/\a=[.string A]
 |.a6 s b,a,l,d=>d=[]/\∃k n,a=[.slice k l.length n]/\l.length<=n/\(k=bq->n=0)/\(l=[]\/∃c h,k=Y ⟨c,h,bq⟩/\i s c/\∀j g,l[j]?=Y g->∃e,e.length=b.size/\fd f c (h+j*b.size) e/\aT i f b e g [])
 |.ptr s b,a,g,d=>d=[]/\match g with
  |none=>a=[.pointer bq]
  |some w=>∃c h e,a=[.pointer (Y ⟨c,h,bq⟩)]/\i s c/\e.length=b.size/\fd f c h e/\aT i f b e w []
 |.osl b,a,l,d=>∃k n,a=[.slice k l.length n]/\((
   k=bq/\l=[]/\n=0/\d=[])\/∃(c h:X) (t:ez),k=Y ⟨c,h,bq⟩/\d=c::t.flatten/\t.length=l.length/\l.length<=n/\
   iE f c h (h+n*b.size)/\∀j g r,l[j]?=Y g->t[j]?=Y r->∃e,e.length=b.size/\fd f c (h+j*b.size) e/\aT i f b e g r)
 |.optr b,a,w,d=>∃c h r e,a=[.pointer (Y ⟨c,h,bq⟩)]/\d=c::r/\e.length=b.size/\fd f c h e/\iE f c h (h+b.size)/\aT i f b e w r
 |.st b,a,g,d=>aT i f b a g d
 |.pr k c,a,g,d=>∃x f2,d=x++f2/\aT i f k (a.take k.size) g.1 x/\aT i f c (a.drop k.size) g.2 f2
 |.nil,a,_,d=>d=[]/\a=[]
 |.eB,a,_,_=>a=[]
 |.mp b,a,g,d=>match g with
  |none=>d=[]/\a=[.map bq]
  |some (u,q)=>∃(c:X) (p:bU cl) (o:bn (Z×X×b.den)),a=[.map (Y c)]/\d=[c]/\kH o u q/\i6 f c=Y (p,q)/\p.size=o.length/\∀(j:X) (m:Z×X×b.den),o[j]?=Y m->∃e:ajT,e.length=b.size/\p[j]?=Y (ame (.int .i64 m.1) (cV b e) m.2.1)/\aT i f b e m.2.2 []
 |.e1 s b,a,g,d=>match g with
  |none=>d=[]/\a=[.map bq]
  |some (u,q)=>∃(c:X) (p:bU cl) (o:bn (Z×X×b.den)),a=[.map (Y c)]/\d=[]/\kH o u q/\i s c/\i6 f c=Y (p,q)/\p.size=o.length/\∀(j:X) (m:Z×X×b.den),o[j]?=Y m->∃e:ajT,e.length=b.size/\p[j]?=Y (ame (.int .i64 m.1) (cV b e) m.2.1)/\aT i f b e m.2.2 []
 |.fn v b,a,g,d=>d=[]/\∃y:ajT,a=[.func (.func v) #[] y.toArray]/\aT i f b y g []
theorem aT.len {i:dh->X->Prop} {r:bD}:∀{τ:ai} {e:ajT} {b:τ.den} {l:ajZ},aT i r τ e b l->e.length=τ.size
 |.int _,_,_,_,a=>by rw[a.2];rfl
 |.bool,_,_,_,a=>by rw[a.2];rfl
 |.str,_,_,_,a=>by rw[a.2];rfl
 |.a6 _ _,_,_,_,a=>by obtain⟨_,c,g,a,_⟩:=a;rw[a];rfl
 |.ptr _ _,_,b,_,a=>by
  obtain⟨_,a⟩:=a;cases b with
  |none=>simp only at a;rw[a];rfl
  |some x=>obtain⟨d,v,j,a,_⟩:=a;rw[a];rfl
 |.osl _,_,_,_,a=>by obtain⟨c,g,a,_⟩:=a;rw[a];rfl
 |.optr _,_,_,_,a=>by obtain⟨c,g,s,j,a,_⟩:=a;rw[a];rfl
 |.st f,_,_,_,a=>aT.len (τ:=f) a
 |.pr c d,e,_,_,a=>by obtain⟨t,f2,_,m,n⟩:=a;have o:=aT.len (τ:=c) m;have p:=aT.len (τ:=d) n;simp only[gK,oY] at o p;show e.length=c.size+d.size;omega
 |.nil,_,_,_,a=>by rw[a.2];rfl
 |.eB,_,_,_,a=>by rw[show _=[] from a];rfl
 |.mp f,_,b,_,a=>by
  cases b with
  |none=>rw[a.2];rfl
  |some q=>obtain⟨d,k,h,a,_⟩:=a;rw[a];rfl
 |.e1 u f,_,b,_,a=>by
  cases b with
  |none=>rw[a.2];rfl
  |some q=>obtain⟨d,k,h,a,_⟩:=a;rw[a];rfl
 |.fn _ _,_,_,_,a=>by obtain⟨_,w,a,_⟩:=a;rw[a];rfl
theorem aT.one {j:dh->X->Prop} {r:bD}:∀{τ:ai} {cs:ajT} {c:τ.den} {l:ajZ},aT j r τ cs c l->∀e∈cs,e.oneCell'=bp
 |.int _,_,_,_,a=>by rw[a.2];simp[akj]
 |.bool,_,_,_,a=>by rw[a.2];simp[akj]
 |.str,_,_,_,a=>by rw[a.2];simp[akj]
 |.a6 _ _,_,_,_,a=>by obtain⟨_,d,h,a,_⟩:=a;grind [akj]
 |.ptr _ _,_,c,_,a=>by obtain⟨_,a⟩:=a;grind [akj]
 |.osl _,_,_,_,a=>by obtain⟨d,h,a,_⟩:=a;grind [akj]
 |.optr _,_,_,_,a=>by obtain⟨d,h,f,s,a,_⟩:=a;grind [akj]
 |.st t,_,_,_,a=>aT.one (τ:=t) a
 |.pr d g,cs,_,_,a=>by
  obtain⟨u,f2,_,m,n⟩:=a;have o:=aT.one (τ:=d) m;have p:=aT.one (τ:=g) n;intro e b;rw[<-jK d.size cs] at b;rcases ha.1 b with b|b
  ·exact o e b
  exact p e b
 |.nil,_,_,_,a=>by rw[a.2];simp
 |.eB,_,_,_,a=>by rw[show _=[] from a];simp
 |.mp t,_,c,_,a=>by
  cases c with
  |none=>rw[a.2];simp[akj]
  |some q=>obtain⟨g,k,i,a,_⟩:=a;grind [akj]
 |.e1 v t,_,c,_,a=>by
  cases c with
  |none=>rw[a.2];simp[akj]
  |some q=>obtain⟨g,k,i,a,_⟩:=a;grind [akj]
 |.fn _ _,_,_,_,a=>by obtain⟨_,w,a,_⟩:=a;grind [akj]
theorem aT.mono {L M:dh->X->Prop} {B C:bD} (d:∀j b,L j b->M j b/\c6 B C b):∀{τ:ai} {F:ajT} {g:τ.den} {r:ajZ},aT L B τ F g r->(∀b∈r,c6 B C b)->aT M C τ F g r
 |.int _,_,_,_,a,_=>a
 |.bool,_,_,_,a,_=>a
 |.str,_,_,_,a,_=>a
 |.a6 j m,_,U,_,a,_=>by obtain⟨y,x,E,e,c,k,l⟩:=a;refine⟨y,x,E,e,c,k,l.imp id ?_⟩;rintro⟨b,w,J,i,K⟩;refine⟨b,w,J,(d j b i).1,λv g u=>?_⟩;obtain⟨h,o,p,q⟩:=K v g u;exact⟨h,o,p.fV (d j b i).2,aT.mono d q ac⟩
 |.ptr j m,_,g,_,a,_=>by
  obtain⟨y,a⟩:=a;refine⟨y,?_⟩;cases g with
  |none=>exact a
  |some ad=>
   obtain⟨b,w,h,e,c,k,l,s⟩:=a;exact⟨b,w,h,e,(d j b c).1,k,l.fV (d j b c).2,aT.mono d s ac⟩
 |.osl m,_,U,r,a,f=>by obtain⟨x,E,e,c⟩:=a;refine⟨x,E,e,c.imp id ?_⟩;rintro⟨b,w,O,J,z,S,t,R,K⟩;have i:c6 B C b:=f b (by grind);refine⟨b,w,O,J,z,S,t,R.fV i,λv g H u Q=>?_⟩;obtain⟨h,o,p,q⟩:=K v g H u Q;refine⟨h,o,p.fV i,aT.mono d q (λn t=>f n ?_)⟩;grind [amf,alk,akf]
 |.optr m,_,_,_,a,f=>by obtain⟨b,w,H,h,e,c,k,l,s,P⟩:=a;have i:c6 B C b:=f b (by grind);exact⟨b,w,H,h,e,c,k,l.fV i,s.fV i,aT.mono d P (λn t=>f n (by grind))⟩
 |.st m,_,_,_,a,f=>aT.mono (τ:=m) d a f
 |.pr x b,F,_,_,a,f=>by obtain⟨N,f2,z,e,c⟩:=a;exact⟨N,f2,z,aT.mono (τ:=x) d e (λn t=>f n (by rw[z];exact n5 _ t)),aT.mono (τ:=b) d c (λn t=>f n (by rw[z];exact lD _ t))⟩
 |.nil,_,_,_,a,_=>a
 |.eB,_,_,_,a,_=>a
 |.mp m,_,g,r,a,f=>by
  cases g with
  |none=>exact a
  |some A=>
   obtain⟨b,G,D,e,c,I,k,l,s⟩:=a;refine⟨b,G,D,e,c,I,(f b (by rw[c];simp)).2.trans k,l,λv A u=>?_⟩;obtain⟨h,o,p,q⟩:=s v A u;exact⟨h,o,p,aT.mono d q ac⟩
 |.e1 j m,_,g,r,a,f=>by
  cases g with
  |none=>exact a
  |some A=>
   obtain⟨b,G,D,e,c,I,i,k,l,s⟩:=a;refine⟨b,G,D,e,c,I,(d j b i).1,(d j b i).2.2.trans k,l,λv A u=>?_⟩;obtain⟨h,o,p,q⟩:=s v A u;exact⟨h,o,p,aT.mono d q ac⟩
 |.fn V m,_,g,r,a,_=>by obtain⟨y,T,e,c⟩:=a;exact⟨y,T,e,aT.mono d c ac⟩
def ai.kW:ai->bA
 |.eB=>br
 |.a6 _ a|.ptr _ a|.osl a|.optr a|.st a|.mp a|.e1 _ a|.fn _ a=>a.kW
 |.pr b c=>b.kW&&c.kW
 |_=>bp
theorem aT.uniq {r:dh->X->Prop} {x:bD}:∀{τ:ai} {p:ajT} {e k:τ.den} {h u:ajZ},τ.kW=bp->aT r x τ p e h->aT r x τ p k u->h=u
 |.int _,_,_,_,_,_,_,a,b=>a.1.trans b.1.symm
 |.bool,_,_,_,_,_,_,a,b=>a.1.trans b.1.symm
 |.str,_,_,_,_,_,_,a,b=>a.1.trans b.1.symm
 |.a6 _ _,_,_,_,_,_,_,a,b=>a.1.trans b.1.symm
 |.ptr _ _,_,_,_,_,_,_,a,b=>a.1.trans b.1.symm
 |.nil,_,_,_,_,_,_,a,b=>a.1.trans b.1.symm
 |.fn _ _,_,_,_,_,_,_,a,b=>a.1.trans b.1.symm
 |.eB,_,_,_,_,_,d,_,_=>by cases d
 |.e1 F g,p,e,k,h,u,_,a,b=>by
  have a0:∀{e:(ai.e1 F g).den} {h:ajZ},aT r x (.e1 F g) p e h->h=[]:=λ{e h} a=>by
   cases e with
   |none=>exact a.1
   |some Q=>obtain⟨l,C,y,_,m,_⟩:=a;exact m
  grind
 |.mp g,_,e,k,_,_,_,a,b=>by
  cases e with
  |none=>
   cases k with
   |none=>exact a.1.trans b.1.symm
   |some R=>
    obtain⟨l,C,y,f,_⟩:=b;have:=a.2.symm.trans f;grind
  |some Q=>
   obtain⟨l,C,y,f,m,_⟩:=a;cases k with
   |none=>
    have:=f.symm.trans b.2;grind
   |some R=>
    obtain⟨A,a1,V,i,D,_⟩:=b;grind
 |.st g,_,_,_,_,_,d,a,b=>aT.uniq (τ:=g) d a b
 |.pr z l,_,_,_,_,_,d,a,b=>by simp only[ai.kW,cE] at d;obtain⟨a4,f2,rfl,f,m⟩:=a;obtain⟨bl,bs,rfl,E,v⟩:=b;rw[aT.uniq (τ:=z) d.1 f E,aT.uniq (τ:=l) d.2 m v]
 |.optr g,_,_,_,_,_,d,a,b=>by
  obtain⟨l,O,h,j,f,rfl,E,v,_,L⟩:=a;obtain⟨A,P,a3,n,i,rfl,bx,K,_,M⟩:=b;rw[f] at i;simp only[hM,ak0,eT,akk,ca] at i;obtain⟨rfl,rfl⟩:=i;obtain rfl:j=n:=by
   apply il;intro c;rcases cR c j.length with w|w
   ·have ay:=v c j[c] (by grind);have S:=K c (n[c]'(by omega)) ac
    grind
   grind
  rw[aT.uniq (τ:=g) d L M]
 |.osl g,_,e,k,_,_,d,a,b=>by
  obtain⟨z,am,f,m⟩:=a;obtain⟨ad,an,i,D⟩:=b;rw[f] at i;simp only[hM,aj3,ca] at i;obtain⟨rfl,ce,rfl⟩:=i;rcases m with⟨rfl,rfl,rfl,rfl⟩|⟨l,O,s,rfl,rfl,ay,S,cs,T⟩
  ·grind
  rcases D with⟨q,_⟩|⟨A,P,t,q,rfl,ci,co,cv,U⟩
  ·cases q
  simp only[eT,akk,ca] at q;obtain⟨rfl,rfl⟩:=q;have:s=t:=by
   apply il;intro c;rcases cR c e.length with w|w
   ·have ao:s[c]?=Y (s[c]'(by omega)):=bk aa
    have B:t[c]?=Y (t[c]'(by omega)):=bk aa
    obtain⟨j,ap,G,I⟩:=T c e[c] _ (by grind) ao;obtain⟨n,av,H,J⟩:=U c (k[c]'(by omega)) _ ac B
    obtain rfl:j=n:=by
     apply il;intro o;rcases cR o j.length with N|N
     ·have c1:=G o j[o] (by grind);have c2:=H o (n[o]'(by omega)) ac
      grind
     grind
    rw[ao,B,aT.uniq (τ:=g) d I J]
   grind
  grind
inductive aZ where
 |idx (i:X)
 |deref
 |unst
 |fst
 |snd
 deriving am6
variable{n:bn aZ}
def eK:(τ:ai)->τ.den->bn aZ->(a:ai)->a.den->Prop
 |τ,d,[],a,b=>∃i:τ=a,i▸d=b
 |.osl e,k,.idx j::c,a,b=>∃f,k[j]?=Y f/\eK e f c a b
 |.optr e,d,.deref::c,a,b=>eK e d c a b
 |.st e,d,.unst::c,a,b=>eK e d c a b
 |.pr g _,d,.fst::c,a,b=>eK g d.1 c a b
 |.pr _ h,d,.snd::c,a,b=>eK h d.2 c a b
 |_,_,_,_,_=>b7
def e3:(τ:ai)->τ.den->bn aZ->(a:ai)->a.den->τ.den->Prop
 |τ,_,[],a,b,e=>∃m:τ=a,m▸e=b
 |.osl g,j,.idx i::c,a,b,n=>∃h f,j[i]?=Y h/\e3 g h c a b f/\n=j.set i f
 |.optr g,d,.deref::c,a,b,e=>e3 g d c a b e
 |.st g,d,.unst::c,a,b,e=>e3 g d c a b e
 |.pr k _,d,.fst::c,a,b,e=>∃f,e3 k d.1 c a b f/\e=(f,d.2)
 |.pr _ l,d,.snd::c,a,b,e=>∃f,e3 l d.2 c a b f/\e=(d.1,f)
 |_,_,_,_,_,_=>b7
theorem eK.gq {a:d.den} {b:r.den}:eK d a [] r b↔∃c:d=r,c▸a=b:=by cases d<;>exact amg
theorem e3.gq {e a:d.den} {b:r.den}:e3 d e [] r b a↔∃c:d=r,c▸a=b:=by cases d<;>exact amg
abbrev Loc:=bw et
variable{w:Loc}
def aX (k:bD):(τ:ai)->Loc->ajT->bn aZ->(a:ai)->Loc->ajT->Prop
 |τ,i,b,[],a,d,c=>τ=a/\i=d/\b=c
 |.osl g,_,b,.idx m::f,a,d,c=>∃e j n p h,b=[.slice (Y ⟨e,j,bq⟩) n p]/\m<n/\h.length=g.size/\fd k e (j+m*g.size) h/\aX k g (Y (e,j+m*g.size)) h f a d c
 |.optr g,_,b,.deref::f,a,d,c=>∃e j h,b=[.pointer (Y ⟨e,j,bq⟩)]/\h.length=g.size/\fd k e j h/\aX k g (Y (e,j)) h f a d c
 |.st g,i,b,.unst::f,a,d,c=>aX k g i b f a d c
 |.pr l _,i,b,.fst::f,a,d,c=>aX k l i (b.take l.size) f a d c
 |.pr l e,i,b,.snd::f,a,d,c=>aX k e (i.map λo=>(o.1,o.2+l.size)) (b.drop l.size) f a d c
 |_,_,_,_,_,_,_=>b7
theorem fd.eq (c:fd f b i g) (d:fd f b i y) (k:g.length=y.length):g=y:=by
 apply il;intro a;rcases cR a g.length with e|e
 ·have h:=c a g[a] (by grind);have j:=d a (y[a]'(by omega)) ac
  grind
 grind
theorem aX.kR {w:bD}:∀{p:bn aZ} {e:ai} {j:Loc} {f:ajT} {u v:ai} {g h:Loc} {q r:ajT},aX w e j f p u g q->aX w e j f p v h r->u=v/\g=h/\q=r
 |[],e,j,f,_,_,_,_,_,_,c,d=>by grind [aX]
 |s::p,e,j,f,_,_,_,_,_,_,c,d=>by
  cases e<;>cases s<;>simp only[aX] at c d
  case osl.idx t i=>
   obtain⟨m,A,E,C,y,ao,_,g,k,n⟩:=c;obtain⟨x,B,F,D,z,b,_,h,l,o⟩:=d;rw[ao] at b;simp only[hM,aj3,eT,akk,ca] at b;obtain⟨⟨rfl,rfl⟩,rfl,rfl⟩:=b;obtain rfl:=k.eq l aa;exact aX.kR n o
  case optr.deref t=>
   obtain⟨m,A,y,ao,g,k,n⟩:=c;obtain⟨x,B,z,b,h,l,o⟩:=d;rw[ao] at b;simp only[hM,ak0,eT,akk,ca] at b;obtain⟨rfl,rfl⟩:=b;obtain rfl:=k.eq l aa;exact aX.kR n o
  case st.unst t=>exact aX.kR c d
  case pr.fst a m=>exact aX.kR c d
  case pr.snd a m=>exact aX.kR c d
def rY (c d:bD) (f:Loc) (g:X) (b:X):Prop:=
 (∀a,(∀e,f=Y (b,e)->a<e\/e+g<=a)->d.cell? ⟨b,a,bq⟩=c.cell? ⟨b,a,bq⟩)/\
 (∀a,d.frozen? ⟨b,a,bq⟩=c.frozen? ⟨b,a,bq⟩)/\(∀a,(d.cell? ⟨b,a,bq⟩).isSome=(c.cell? ⟨b,a,bq⟩).isSome)/\i6 d b=i6 c b
def rY.fV (a:rY f m w i b) (e:∀c,w≠Y (b,c)):c6 f m b:=
 ⟨λd=>⟨a.1 d (λc g=>absurd g (e c)),a.2.1 d⟩,a.2.2.2⟩
def rY.EN {j c:X} (a:rY f m w j b) (g:iE f b c i):iE m b c i:=
 λh d e=>by rw[a.2.1,a.2.2.1];exact g h d e
def pH (c:bD) (e:Loc) (d:ajT) (f:X):Prop:=∀b a,e=Y (b,a)->fd c b a d/\iE c b a (a+f)
theorem fd.take {e:bD} {b d h:X} {c:ajT} (f:fd e b d c):fd e b d (c.take h):=λg i a=>by
 rw[amh] at a;split at a
 ·exact f g i a
 grind
theorem fd.drop {f:bD} {b e a:X} {c:ajT} (g:fd f b e c):fd f b (e+a) (c.drop a):=λh i d=>by rw[qB] at d;have:=g (a+h) i d;grind
theorem fd.append (d:fd f b i g) (e:fd f b (i+g.length) y):fd f b i (g++y):=λh c a=>by
 rw[List.getElem?_append] at a;split at a
 ·exact d h c a
 have:=e _ c a;grind
theorem aeT {a:bn N} {d:N} (e:a[b]?=Y d):∃c f,a=c++d::f/\c.length=b:=by obtain⟨g,rfl⟩:=hN.1 e;exact⟨a.take b,a.drop (b+1),by rw[List.getElem_cons_drop,jK],by grind⟩
theorem aX.fV {D:dh->X->Prop} {y C:bD}:∀{x:bn aZ} {τ:ai} {u:Loc} {h:ajT} {z:τ.den} {p:ajZ} {A:ai} {v:Loc} {n:ajT},aT D y τ h z p->(∀a∈p,c6 y C a)->aX y τ u h x A v n->aX C τ u h x A v n
 |[],τ,_,_,_,_,_,_,_,_,_,b=>by cases τ<;>exact b
 |s::x,τ,u,h,z,p,A,v,n,g,d,b=>by
  cases τ<;>cases s<;>simp only[aX] at b
  case osl.idx t i=>
   obtain⟨a,w,U,F,o,rfl,N,q,f,r⟩:=b;obtain⟨m,Q,e,k⟩:=g;simp only[hM,aj3,ca] at e;obtain⟨rfl,rfl,rfl⟩:=e;rcases k with⟨j,_⟩|⟨E,O,K,j,rfl,ay,V,ad,P⟩
   ·cases j
   simp only[eT,akk,ca] at j;obtain⟨rfl,rfl⟩:=j;obtain⟨I,R,G,H⟩:=P i z[i] (K[i]'(by omega)) (by grind) ac
   obtain rfl:=f.eq G aa;exact⟨a,w,_,F,o,bo,N,q,f.fV (d a ac),aX.fV H (λc l=>d c (g3 _ (lX.2 ⟨_,cG aa,l⟩))) r⟩
  case optr.deref t=>
   obtain⟨a,w,o,rfl,q,f,r⟩:=b;obtain⟨E,O,S,I,B,rfl,T,L,_,M⟩:=g;simp only[hM,ak0,eT,akk,ca] at B;obtain⟨rfl,rfl⟩:=B;obtain rfl:=f.eq L aa;exact⟨a,w,o,bo,q,f.fV (d a ac),aX.fV M (λc l=>d c (by grind)) r⟩
  case st.unst t=>exact aX.fV (τ:=t) g d b
  case pr.fst m a=>
   obtain⟨J,f2,rfl,e,k⟩:=g;exact aX.fV (τ:=m) e (λc l=>d c (by grind)) b
  case pr.snd m a=>
   obtain⟨J,f2,rfl,e,k⟩:=g;exact aX.fV (τ:=a) k (λc l=>d c (by grind)) b
def nH:bn aZ->bA
 |[]=>br
 |.idx _::_=>bp
 |.deref::_=>bp
 |_::a=>nH a
def g7:bn aZ->bn aZ->bA
 |p,[]=>nH p
 |.idx _::p,.idx _::a=>g7 p a
 |.deref::p,.deref::a=>g7 p a
 |.unst::p,.unst::a=>g7 p a
 |.fst::p,.fst::a=>g7 p a
 |.snd::p,.snd::a=>g7 p a
 |.fst::_,.snd::_=>bp
 |.snd::_,.fst::_=>bp
 |_,_=>br
theorem aX.nQ {a:Loc}:aX f d w g [] r a y↔d=r/\w=a/\g=y:=by cases d<;>exact amg
def lf:bn aZ->bn aZ->bA
 |.deref::a,.deref::b=>lf a b
 |.unst::a,.unst::b=>lf a b
 |.fst::a,.fst::b=>lf a b
 |.snd::a,.snd::b=>lf a b
 |.fst::_,.snd::_=>bp
 |.snd::_,.fst::_=>bp
 |_,_=>br
theorem vj (a:bn aZ):lf [] a=br:=by cases a<;>rfl
theorem Ic:∀{p q:bn aZ},lf p q=bp->g7 p q=bp
 |[],q,a=>by grind [vj]
 |s::p,[],a=>by cases s<;>cases a
 |s::p,b::q,a=>by cases s<;>cases b<;>first|(cases a;done)|exact Ic (p:=p) (q:=q) a|rfl
theorem vk:∀{p q:bn aZ} {τ:ai} {h j:τ.den} {k f:ai} {l:k.den} {i:f.den},lf p q=bp->e3 τ h p k l j->eK τ h q f i->eK τ j q f i
 |[],q,_,_,_,_,_,_,_,d,_,_=>by grind [vj]
 |s::p,[],_,_,_,_,_,_,_,d,_,_=>by cases s<;>cases d
 |s::p,m::q,τ,h,j,k,f,l,i,d,c,e=>by
  cases τ<;>cases s<;>simp only[e3] at c<;>cases m<;>first|(cases d;done)|(simp only[eK] at e;done)|skip
  case optr.deref.deref t=>exact vk (p:=p) (q:=q) (τ:=t) d c e
  case st.unst.unst t=>exact vk (p:=p) (q:=q) (τ:=t) d c e
  case pr.fst.fst a b=>
   obtain⟨g,c,rfl⟩:=c;exact vk (p:=p) (q:=q) (τ:=a) d c e
  case pr.snd.snd a b=>
   obtain⟨g,c,rfl⟩:=c;exact vk (p:=p) (q:=q) (τ:=b) d c e
  case pr.fst.snd a b=>
   obtain⟨g,c,rfl⟩:=c;exact e
  case pr.snd.fst a b=>
   obtain⟨g,c,rfl⟩:=c;exact e
theorem aT.sub {B:dh->X->Prop} {A:bD}:∀{p:bn aZ} {τ:ai} {z:Loc} {o:ajT} {m:τ.den} {q:ajZ} {l:ai} {r:l.den} {y:Loc} {n:ajT},aT B A τ o m q->eK τ m p l r->aX A τ z o p l y n->∃d,aT B A l n r d/\∀b∈d,b∈q
 |[],τ,z,o,m,q,l,r,y,n,f,c,a=>by grind [aX.nQ,eK.gq]
 |s::p,τ,z,o,m,q,l,r,y,n,f,c,a=>by
  cases τ<;>cases s<;>simp only[eK] at c<;>simp only[aX] at a
  case osl.idx t i=>
   obtain⟨J,D,c⟩:=c;obtain⟨G,Q,ap,V,I,e,u,L,v,a⟩:=a;obtain⟨T,U,rfl,f⟩:=f;rcases f with⟨_,rfl,_⟩|⟨F,P,C,rfl,rfl,an,ad,N,O⟩
   ·grind
   have am:i<m.length:=(hN.1 D).1;obtain⟨d,E⟩:∃d,C[i]?=some d:=⟨C[i],bk aa⟩;obtain⟨H,M,w,x⟩:=O i J d D E;simp only[hM,aj3,eT,akk,ca] at e;obtain⟨⟨rfl,rfl⟩,rfl,rfl⟩:=e;obtain rfl:=v.eq w aa;obtain⟨g,j,k⟩:=aT.sub (p:=p) x c a;exact⟨g,j,λb h=>g3 _ (lX.2 ⟨d,jg E,k b h⟩)⟩
  case optr.deref t=>
   obtain⟨G,Q,I,e,L,v,a⟩:=a;obtain⟨F,P,d,H,rfl,rfl,M,w,N,x⟩:=f;simp only[hM,ak0,eT,akk,ca] at e;obtain⟨rfl,rfl⟩:=e;obtain rfl:=v.eq w aa;obtain⟨g,j,k⟩:=aT.sub (p:=p) x c a;exact⟨g,j,λb h=>g3 _ (k b h)⟩
  case st.unst t=>exact aT.sub (p:=p) (τ:=t) f c a
  case pr.fst R S=>
   obtain⟨K,f2,rfl,e,u⟩:=f;obtain⟨g,j,k⟩:=aT.sub (p:=p) e c a;exact⟨g,j,λb h=>n5 _ (k b h)⟩
  case pr.snd R S=>
   obtain⟨K,f2,rfl,e,u⟩:=f;obtain⟨g,j,k⟩:=aT.sub (p:=p) u c a;exact⟨g,j,λb h=>lD _ (k b h)⟩
theorem AO:∀(am:bn aZ) {τ:ai} {loc:Loc} {u:ajT} {a0:τ.den} {em:ajZ} {F:ai} {ix:F.den},aT e f τ u a0 em->pH f loc u τ.size->em.Nodup->(∀g d,loc=Y (g,d)->g∉em/\∀q,¬e q g)->(∀g∈em,∀q,¬e q g)->eK τ a0 am F ix->∃y S a4 U,aX f τ loc u am F y S/\aT e f F S ix a4/\pH f y S F.size/\em.Perm (a4++U)/\(∀m h,y=Y (m,h)->(∃d,loc=Y (m,d)/\d<=h/\h+F.size<=d+τ.size)\/m∈U)/\(∀(
   s:bD) (K:dh->X->Prop) (D:ajT) (z:F.den) (V:ajZ) (ds:τ.den),
   (∀q g,e q g->K q g)->(∀g,(∃q,e q g)\/g∈U\/(∃d,loc=Y (g,d))->rY f s y F.size g)->
   aT K s F D z V->(y=bq->am≠[]->D=S)->(∀g d,y=Y (g,d)->fd s g d D)->e3 τ a0 am F z ds->
   ∃n N,aT K s τ n ds N/\(am=[]->n=D)/\(loc=bq->(y≠bq\/D=S)->n=u)/\(∀g d,loc=Y (g,d)->fd s g d n)/\N.Perm (V++U)/\aX s τ loc n am F y D/\∀(c:bn aZ) (Q:ai) (P:Loc) (M:ajT),g7 am c=bp->aX f τ loc u c Q P M->aX s τ loc n c Q P M)/\
  (∀(c:bn aZ) (a1:ai) (z:a1.den) (ap:Loc) (c2:ajT) (f2:ajZ),lf am c=bp->a1.kW=bp->eK τ a0 c a1 z->aX f τ loc u c a1 ap c2->aT e f a1 c2 z f2->∀b∈f2,b∈U/\∀m h,y=Y (m,h)->b≠m):=by
 intro am
 induction am with
 |nil=>
  intro τ loc u a0 em F ix d9 cs d7 ad cv H;obtain⟨rfl,rfl⟩:=eK.gq.1 H;refine⟨loc,u,em,[],(by cases τ<;>exact⟨bo,bo,bo⟩),d9,cs,ac,λm h a=>.inl ⟨h,a,aa,aa⟩,?_,λc _ _ _ _ _ a=>by grind [vj]⟩;intro s K D z V ds _ _ A _ O B;obtain⟨_,rfl⟩:=e3.gq.1 B;exact⟨D,V,A,λ_=>rfl,λco a=>a.resolve_left (λc=>c co),O,ac,(by cases τ<;>exact⟨bo,bo,bo⟩),λc _ _ _ o=>by grind [g7,nH]⟩
 |cons os am gs=>
  intro τ loc u a0 em F ix d9 cs d7 ad cv H;cases τ<;>cases os<;>simp only[eK] at H
  case osl.idx t i=>
   obtain⟨a3,fp,H⟩:=H;obtain⟨oN,el,rfl,d9⟩:=d9;rcases d9 with⟨_,rfl,_⟩|⟨g,d,f5,rfl,rfl,mp,ok,ic,lb⟩
   ·simp at fp
   have jp:i<a0.length:=(hN.1 fp).1;obtain⟨gc,l2⟩:∃gc,f5[i]?=some gc:=⟨f5[i],bk aa⟩;obtain⟨f7,i2,f3,i3⟩:=lb i a3 gc fp l2;obtain⟨dl,is,fr,or⟩:=aeT l2;have ra:∀w,w<a0.length->d+w*t.size+t.size<=d+el*t.size:=λw o=>(by have:(w+1)*t.size<=el*t.size:=hR _ aa;grind);have f4:pH f (Y (g,d+i*t.size)) f7 t.size:=(by rintro R r a;simp only[eT,h8] at a;obtain⟨rfl,rfl⟩:=a;exact⟨f3,λx l O=>ic x aa (by grind)⟩);have kg:=d7;rw[fr] at kg;simp only[zf,lV,kp,ji,ha,not_or] at kg;obtain⟨⟨n7,f0,of⟩,kd,⟨ft,f6,ol⟩,on⟩:=kg;obtain⟨y,S,a4,U,d1,d2,d3,G,T,d4,ex⟩:=gs (loc:=Y (g,d+i*t.size)) i3 f4 ft (by rintro R r a;simp only[eT,h8] at a;obtain⟨rfl,rfl⟩:=a;exact⟨f0,cv g ac⟩) (λb k=>cv b (by rw[fr];simp[k])) H;refine⟨y,S,a4,g::(dl.flatten++(U++is.flatten)),⟨g,d,_,el,f7,bo,jp,i2,f3,d1⟩,d2,d3,?_,?_,?_,λc _ _ _ _ _ a=>by cases c with|nil=>cases a|cons I c=>cases I<;>cases a⟩
   ·rw[fr];simp only[zf,lV];rw[uj] at G|-;intro b;have:=G b;simp only[ue,ami] at this|-;omega
   ·intro m h a;right;rcases T m h a with⟨r,l,_⟩|l
    ·simp only[eT,h8] at l;rw[l.1];simp
    simp[l]
   intro s K D z V ds bs v A d8 d5 B;simp only[e3] at B;obtain⟨ne,f8,lt,B,rfl⟩:=B;obtain rfl:ne=a3:=(by rw[fp] at lt;exact(gb lt).symm);obtain⟨n,N,C,_,_,L,an,ek,ci⟩:=d4 s K D z V f8 bs (by
     rintro b (a|a|⟨r,a⟩)
     ·exact v b (.inl a)
     ·exact v b (.inr (.inl (by simp[a])))
     simp only[eT,h8] at a;exact v b (.inr (.inl (by rw[<-a.1];simp)))) A
    (by
     intro co rg;exact d8 co ac) d5 B
   have bx:∀m h,y=Y (m,h)->(m=g/\d+i*t.size<=h/\h+F.size<=d+i*t.size+t.size)\/m∈gc:=by
    intro m h a;rcases T m h a with⟨r,l,O,hw⟩|l
    ·simp only[eT,h8] at l;omega
    exact .inr (G.mem_iff.2 (by simp[l]))
   have fn:=v g (.inr (.inl ac));have gf:∀q b,e q b->K q b/\c6 f s b:=λq b k=>⟨bs q b k,(v b (.inl ⟨q,k⟩)).fV (λr a=>by
    rcases bx b r a with⟨rfl,_⟩|l
    ·exact cv b ac q k
    exact cv b (by rw[fr];simp[l]) q k)⟩
   have mt:∀(w:X) (hv:t.den) (bl:ajZ),w≠i->a0[w]?=Y hv->f5[w]?=Y bl->∀d0:ajT,d0.length=t.size->fd f g (d+w*t.size) d0->fd s g (d+w*t.size) d0/\∀b∈bl,c6 f s b:=by
    intro w hv bl gl o dg d0 io hc;have rb:w<a0.length:=(hN.1 o).1;have i8:∀b∈bl,b∈dl.flatten\/b∈is.flatten:=by
     intro b k;rw[fr] at dg;rcases cR w dl.length with a|a
     ·rw[ug a] at dg;exact .inl (lX.2 ⟨bl,jg dg,k⟩)
     rw[sa a] at dg;obtain⟨c,E⟩:∃c,w-dl.length=c+1:=⟨w-dl.length-1,aa⟩;rw[E] at dg;simp only[wK] at dg;exact .inr (lX.2 ⟨bl,jg dg,k⟩)
    refine⟨?_,?_⟩
    ·intro x hs fs;have ii:x<d0.length:=(hN.1 fs).1;rw[fn.1]
     ·exact hc x hs fs
     intro h a;rcases bx g h a with⟨_,l,O⟩|l
     ·rcases Nat.lt_or_gt_of_ne gl with rd|pv
      ·left;have:(w+1)*t.size<=i*t.size:=hR _ aa;rw[kq,jL] at this;omega
      right;have:(i+1)*t.size<=w*t.size:=hR _ aa;rw[kq,jL] at this;omega
     exact absurd l f0
    intro b k;refine(v b (.inr (.inl ?_))).fV ?_
    ·rcases i8 b k with a|a<;>simp[a]
    intro h a;rcases bx b h a with⟨rfl,_⟩|l
    ·rcases i8 b k with a|a
     ·exact n7 a
     exact of a
    rcases i8 b k with a|a
    ·exact on b a b (.inl l) rfl
    exact ol b l b a bo
   refine⟨[.slice (Y ⟨g,d,bq⟩) a0.length el],g::(dl++N::is).flatten,⟨Y ⟨g,d,bq⟩,el,ac,.inr ⟨g,d,dl++N::is,bo,bo,?_,by simpa using ok,fn.EN ic,?_⟩⟩,ac,λ_ _=>rfl,?_,?_,⟨g,d,_,el,n,bo,jp,by rw[C.len],L g _ rfl,ek⟩,?_⟩
   ·rw[fr] at mp;simpa using mp
   ·intro w hv bl o H;by_cases gl:w=i
    ·subst gl;rw[List.getElem?_set_self jp] at o;obtain rfl:=gb o;rw[sa aa,or,ur] at H;simp only[qA,eT] at H;subst H;exact⟨n,by rw[C.len],L g _ rfl,C⟩
    rw[List.getElem?_set_ne (λa=>gl a.symm)] at o;have dg:f5[w]?=Y bl:=by
     rw[fr];rcases cR w dl.length with a|a
     ·rw[ug a] at H|-;exact H
     rw[sa a] at H|-;obtain⟨c,E⟩:∃c,w-dl.length=c+1:=⟨w-dl.length-1,aa⟩;rw[E] at H|-;simpa using H
    obtain⟨d0,io,hc,le⟩:=lb w hv bl o dg;obtain⟨lk,lo⟩:=mt w hv bl gl o dg d0 io hc;exact⟨d0,io,lk,le.mono gf lo⟩
   ·intro R r a;have gi:=(ad R r a).1;refine((cs R r a).1).fV ((v R (.inr (.inr ⟨r,a⟩))).fV ?_);intro h fT;rcases bx R h fT with⟨rfl,_⟩|l
    ·exact gi ac
    exact gi (by rw[fr];simp[l])
   ·rw[uj] at an|-;intro b;have:=an b;simp only[zf,lV,ue,ami] at this|-;omega
   intro c Q P M o E;cases c with
   |nil=>exact E
   |cons I c=>
    cases I<;>simp only[g7] at o<;>first|(cases o;done)|skip
    rename_i x;obtain⟨R,r,ro,o1,i0,l,O,hw,ge,ib⟩:=E;simp only[hM,aj3,eT,akk,ca] at l;obtain⟨⟨rfl,rfl⟩,rfl,rfl⟩:=l;by_cases mo:x=i
    ·subst mo;obtain rfl:=ge.eq f3 aa;exact⟨g,d,_,el,n,bo,O,C.len,L g _ rfl,ci c Q P M o ib⟩
    have m1:a0[x]?=Y a0[x]:=bk O;have mc:f5[x]?=Y (f5[x]'(by omega)):=bk _
    obtain⟨d0,io,hc,le⟩:=lb x _ _ m1 mc;obtain rfl:=ge.eq hc aa;obtain⟨lk,lo⟩:=mt x _ _ mo m1 mc i0 hw ge;exact⟨g,d,_,el,i0,bo,O,hw,lk,aX.fV le lo ib⟩
  case optr.deref t=>
   obtain⟨g,d,gc,f7,rfl,rfl,i2,f3,ic,i3⟩:=d9;simp only[kp] at d7;obtain⟨ps,op⟩:=d7;have f4:pH f (Y (g,d)) f7 t.size:=(by rintro R r a;grind);obtain⟨y,S,a4,U,d1,d2,d3,G,T,d4,ex⟩:=gs (loc:=Y (g,d)) i3 f4 op (by grind) (λb k=>cv b (by grind)) H;refine⟨y,S,a4,g::U,⟨g,d,f7,bo,i2,f3,d1⟩,d2,d3,?_,?_,?_,?_⟩
   rotate_left 3
   ·intro c a1 z ap c2 f2 a ft d6 ce A b k;cases c with
    |nil=>cases a
    |cons I c=>
     cases I<;>first|(cases a;done)|skip
     simp only[aX] at ce;obtain⟨R,r,pl,ao,pm,no,ce⟩:=ce;simp only[hM,ak0,eT,akk,ca] at ao;obtain⟨rfl,rfl⟩:=ao;obtain rfl:=no.eq f3 aa;obtain⟨ay,J⟩:=ex c a1 z ap c2 f2 a ft d6 ce A b k;exact⟨by simp[ay],J⟩
   ·rw[uj] at G|-;intro b;have:=G b;simp only[ue,ami] at this|-;omega
   ·intro m h a;right;rcases T m h a with⟨r,l,_⟩|l
    ·simp only[eT,h8] at l;rw[l.1];simp
    simp[l]
   intro s K D z V ds bs v A d8 d5 B;simp only[e3] at B;obtain⟨n,N,C,_,_,L,an,ek,ci⟩:=d4 s K D z V ds bs (by
     rintro b (a|a|⟨r,a⟩)
     ·exact v b (.inl a)
     ·exact v b (.inr (.inl (by simp[a])))
     simp only[eT,h8] at a;exact v b (.inr (.inl (by rw[<-a.1];simp)))) A
    (λco _=>d8 co ac) d5 B
   have fn:=v g (.inr (.inl ac));refine⟨[.pointer (Y ⟨g,d,bq⟩)],g::N,⟨g,d,N,n,bo,bo,C.len,L g d bo,fn.EN ic,C⟩,ac,λ_ _=>rfl,?_,?_,⟨g,d,n,bo,C.len,L g d bo,ek⟩,?_⟩
   ·intro R r a;have gi:=(ad R r a).1;refine((cs R r a).1).fV ((v R (.inr (.inr ⟨r,a⟩))).fV ?_);intro h fT;rcases T R h fT with⟨nd,l,_⟩|l
    ·simp only[eT,h8] at l;exact gi (by rw[l.1];simp)
    exact gi (g3 _ (G.mem_iff.2 (by simp[l])))
   ·rw[uj] at an|-;intro b;have:=an b;simp only[ue,ami] at this|-;omega
   intro c Q P M o E;cases c with
   |nil=>exact E
   |cons I c=>
    cases I<;>simp only[g7] at o<;>first|(cases o;done)|skip
    obtain⟨R,r,i0,l,hw,ge,ib⟩:=E;simp only[hM,ak0,eT,akk,ca] at l;obtain⟨rfl,rfl⟩:=l;obtain rfl:=ge.eq f3 aa;exact⟨g,d,n,bo,C.len,L g d bo,ci c Q P M o ib⟩
  case st.unst t=>
   obtain⟨y,S,a4,U,d1,d2,d3,G,T,d4,ex⟩:=gs (loc:=loc) (τ:=t) d9 cs d7 ad cv H;refine⟨y,S,a4,U,d1,d2,d3,G,T,?_,?_⟩
   rotate_left 1
   ·intro c a1 z ap c2 f2 a ft d6 ce A b k;cases c with
    |nil=>cases a
    |cons I c=>
     cases I<;>first|(cases a;done)|skip
     exact ex c a1 z ap c2 f2 a ft d6 ce A b k
   intro s K D z V ds bs v A d8 d5 B;obtain⟨n,N,C,rl,gt,L,an,ek,ci⟩:=d4 s K D z V ds bs v A (λco _=>d8 co ac) d5 B;refine⟨n,N,C,ac,gt,L,an,ek,?_⟩;intro c Q P M o E;cases c with
   |nil=>
    obtain⟨rfl,rfl,rfl⟩:=aX.nQ.1 E;obtain⟨_,_,a3⟩:=aX.nQ.1 (ci [] t loc u (by simpa[g7,nH] using o) (aX.nQ.2 ⟨bo,bo,bo⟩));exact aX.nQ.2 ⟨bo,bo,a3⟩
   |cons I c=>
    cases I<;>simp only[g7] at o<;>first|(cases o;done)|skip
    exact ci c Q P M o E
  case pr.fst j c1=>
   obtain⟨fz,f2,rfl,l,O⟩:=d9;have lc:=l.len;have ap:=O.len;simp only[gK,oY] at lc ap;have f4:pH f loc (u.take j.size) j.size:=λg d a=>⟨(cs g d a).1.take,λx ay J=>(cs g d a).2 x ay (by show x<d+(j.size+c1.size);omega)⟩;simp only[ji] at d7;obtain⟨kd,ft,f6⟩:=d7;obtain⟨y,S,a4,U,d1,d2,d3,G,T,d4,ex⟩:=gs (loc:=loc) l f4 kd (λg d a=>⟨λc=>(ad g d a).1 (by simp[c]),(ad g d a).2⟩) (λb k=>cv b (by grind)) H;refine⟨y,S,a4,U++f2,d1,d2,d3,?_,?_,?_,?_⟩
   rotate_left 3
   ·intro c a1 z ap c2 i1 a go d6 ce A b k;cases c with
    |nil=>cases a
    |cons I c=>
     cases I<;>first|(cases a;done)|skip
     ·obtain⟨ay,J⟩:=ex c a1 z ap c2 i1 a go d6 ce A b k;exact⟨by simp[ay],J⟩
     obtain⟨bl,C,L⟩:=aT.sub (p:=c) O d6 ce;have f1:b∈f2:=L b (by rw[<-aT.uniq go A C];exact k);refine⟨by simp[f1],λm h fp a3=>?_⟩;subst a3;rcases T b h fp with⟨r,ao,_⟩|ao
     ·exact(ad b r ao).1 (by simp[f1])
     exact f6 b (G.mem_iff.2 (by simp[ao])) b f1 bo
   ·rw[uj] at G|-;intro b;have:=G b;simp only[ue] at this|-;omega
   ·intro m h a;rcases T m h a with⟨r,ay,J,hi⟩|ay
    ·exact .inl ⟨r,ay,J,by show h+F.size<=r+(j.size+c1.size);omega⟩
    exact .inr (by simp[ay])
   intro s K D z V ds bs v A d8 d5 B;simp only[e3] at B;obtain⟨f8,B,rfl⟩:=B;obtain⟨n,N,C,_,gt,L,an,ek,ci⟩:=d4 s K D z V f8 bs (by
     rintro b (a|a|a)
     ·exact v b (.inl a)
     ·exact v b (.inr (.inl (by simp[a])))
     exact v b (.inr (.inr a))) A (λco _=>d8 co ac) d5 B
   have bx:∀m h,y=Y (m,h)->(∃d,loc=Y (m,d)/\d<=h/\h+F.size<=d+j.size)\/m∈fz:=λm h a=>(T m h a).imp id (λc=>G.mem_iff.2 (by simp[c]));have gf:∀q b,e q b->K q b/\c6 f s b:=λq b k=>⟨bs q b k,(v b (.inl ⟨q,k⟩)).fV (λr a=>by
    rcases bx b r a with⟨d,c,_⟩|c
    ·exact(ad b d c).2 q k
    exact cv b (by simp[c]) q k)⟩
   have m0:∀b∈f2,c6 f s b:=λb k=>(v b (.inr (.inl (by simp[k])))).fV (λh a=>by
    rcases bx b h a with⟨d,c,_⟩|c
    ·exact(ad b d c).1 (by simp[k])
    exact f6 b c b k bo)
   have m2:=C.len;refine⟨n++u.drop j.size,N++f2,⟨N,f2,bo,?_,?_⟩,ac,?_,?_,?_,(by
    show aX s j loc ((n++u.drop j.size).take j.size) am F y D;rw[um aa,fW aa];exact ek),?_⟩
   ·rw[um aa,fW aa];exact C
   ·rw[wH aa,uf aa,jh];exact O.mono gf m0
   ·intro ay J;rw[gt ay J,jK]
   ·intro g d a;refine(L g d a).append ?_;rw[m2];intro x hs fs;have fn:=v g (.inr (.inr ⟨d,a⟩));have ii:x<(u.drop j.size).length:=(hN.1 fs).1;simp only[oY] at ii;rw[fn.1]
    ·exact((cs g d a).1.drop) x hs fs
    intro h fT;rcases bx g h fT with⟨nd,ay,J,hi⟩|c
    ·rw[a] at ay;simp only[eT,h8,alm] at ay;omega
    exact absurd (by simp[c]) (ad g d a).1
   ·rw[uj] at an|-;intro b;have:=an b;simp only[ue] at this|-;omega
   intro c Q P M o E;have ao:(n++u.drop j.size).take j.size=n:=(by rw[um aa,fW aa]);have f9:(n++u.drop j.size).drop j.size=u.drop j.size:=(by rw[wH aa,uf aa,jh]);cases c with
   |nil=>
    obtain⟨rfl,rfl,rfl⟩:=aX.nQ.1 E;obtain⟨_,_,a3⟩:=aX.nQ.1 (ci [] j loc (u.take j.size) (by simpa[g7,nH] using o) (aX.nQ.2 ⟨bo,bo,bo⟩));exact aX.nQ.2 ⟨bo,bo,by rw[a3,jK]⟩
   |cons I c=>
    cases I<;>simp only[g7] at o<;>first|(cases o;done)|skip
    ·show aX s j loc ((n++u.drop j.size).take j.size) c Q P M;rw[ao];exact ci c Q P M o E
    show aX s c1 (loc.map λc=>(c.1,c.2+j.size)) ((n++u.drop j.size).drop j.size) c Q P M;rw[f9];exact aX.fV O m0 E
  case pr.snd j c1=>
   obtain⟨fz,f2,rfl,l,O⟩:=d9;have lc:=l.len;have ap:=O.len;simp only[gK,oY] at lc ap;have f4:pH f (loc.map λc=>(c.1,c.2+j.size)) (u.drop j.size) c1.size:=by
    intro g d a;cases loc with
    |none=>grind
    |some c=>
     obtain⟨o0,av⟩:=c;simp only[jv,eT,h8] at a;obtain⟨rfl,rfl⟩:=a;exact⟨(cs _ _ rfl).1.drop,λx ay J=>(cs _ _ rfl).2 x aa (by show x<av+(j.size+c1.size);omega)⟩
   simp only[ji] at d7;obtain⟨kd,ft,f6⟩:=d7;have f0:∀g d,(loc.map λc=>(c.1,c.2+j.size))=Y (g,d)->∃av,loc=Y (g,av)/\d=av+j.size:=by
    intro g d a;cases loc with
    |none=>grind
    |some c=>
     grind
   obtain⟨y,S,a4,U,d1,d2,d3,G,T,d4,ex⟩:=gs (loc:=loc.map λc=>(c.1,c.2+j.size)) O f4 ft (λg d a=>by grind) (λb k=>cv b (by grind)) H;refine⟨y,S,a4,U++fz,d1,d2,d3,?_,?_,?_,?_⟩
   rotate_left 3
   ·intro c a1 z ap c2 i1 a go d6 ce A b k;cases c with
    |nil=>cases a
    |cons I c=>
     cases I<;>first|(cases a;done)|skip
     ·obtain⟨bl,C,L⟩:=aT.sub (p:=c) l d6 ce;have f1:b∈fz:=L b (by rw[<-aT.uniq go A C];exact k);refine⟨by simp[f1],λm h fp a3=>?_⟩;subst a3;rcases T b h fp with⟨r,ao,_⟩|ao
      ·obtain⟨av,f9,_⟩:=f0 _ _ ao;exact(ad b av f9).1 (by simp[f1])
      exact f6 b f1 b (G.mem_iff.2 (by simp[ao])) rfl
     obtain⟨ay,J⟩:=ex c a1 z ap c2 i1 a go d6 ce A b k;exact⟨by simp[ay],J⟩
   ·rw[uj] at G|-;intro b;have:=G b;simp only[ue] at this|-;omega
   ·intro m h a;rcases T m h a with⟨r,ay,J,hi⟩|ay
    ·obtain⟨av,hr,rfl⟩:=f0 _ _ ay;exact .inl ⟨av,hr,aa,by show h+F.size<=av+(j.size+c1.size);omega⟩
    exact .inr (by simp[ay])
   intro s K D z V ds bs v A d8 d5 B;simp only[e3] at B;obtain⟨f8,B,rfl⟩:=B;obtain⟨n,N,C,_,gt,L,an,ek,ci⟩:=d4 s K D z V f8 bs (by
     rintro b (a|a|⟨d,a⟩)
     ·exact v b (.inl a)
     ·exact v b (.inr (.inl (by simp[a])))
     obtain⟨av,hr,rfl⟩:=f0 _ _ a;exact v b (.inr (.inr ⟨av,hr⟩))) A (λco _=>d8 co ac) d5 B
   have bx:∀m h,y=Y (m,h)->(∃d,loc=Y (m,d)/\d+j.size<=h/\h+F.size<=d+j.size+c1.size)\/m∈f2:=λm h a=>by
    rcases T m h a with⟨r,ay,J,hi⟩|c
    ·obtain⟨av,hr,rfl⟩:=f0 _ _ ay;exact .inl ⟨av,hr,J,hi⟩
    exact .inr (G.mem_iff.2 (by simp[c]))
   have gf:∀q b,e q b->K q b/\c6 f s b:=λq b k=>⟨bs q b k,(v b (.inl ⟨q,k⟩)).fV (λr a=>by
    rcases bx b r a with⟨d,c,_⟩|c
    ·exact(ad b d c).2 q k
    exact cv b (by simp[c]) q k)⟩
   have mz:∀b∈fz,c6 f s b:=λb k=>(v b (.inr (.inl (by simp[k])))).fV (λh a=>by
    rcases bx b h a with⟨d,c,_⟩|c
    ·exact(ad b d c).1 (by simp[k])
    exact f6 b k b c bo)
   have m2:=C.len;refine⟨u.take j.size++n,fz++N,⟨fz,N,bo,?_,?_⟩,ac,?_,?_,?_,(by
    show aX s c1 (loc.map λc=>(c.1,c.2+j.size)) ((u.take j.size++n).drop j.size) am F y D;rw[wH (by simp;omega),uf (by simp;omega),jh];exact ek),?_⟩
   ·rw[um (by simp;omega),aoe,aof];exact l.mono gf mz
   ·rw[wH (by simp;omega),uf (by simp;omega),jh];exact C
   ·intro ay J;rw[gt (by rw[ay];rfl) J,jK]
   ·intro g d a;have fn:=v g (.inr (.inr ⟨d,a⟩));have nx:fd s g d (u.take j.size):=by
     intro x hs fs;have ii:x<(u.take j.size).length:=(hN.1 fs).1;simp only[gK] at ii;rw[fn.1]
     ·exact((cs g d a).1.take) x hs fs
     intro h fT;rcases bx g h fT with⟨nd,ay,J,hi⟩|c
     ·rw[a] at ay;simp only[eT,h8,alm] at ay;omega
     exact absurd (by simp[c]) (ad g d a).1
    refine nx.append ?_;have:=L g (d+j.size) (by rw[a];rfl);rwa[gK,h6 aa]
   ·rw[uj] at an|-;intro b;have:=an b;simp only[ue] at this|-;omega
   intro c Q P M o E;have ao:(u.take j.size++n).take j.size=u.take j.size:=(by rw[um (by simp;omega),aoe,aof]);have f9:(u.take j.size++n).drop j.size=n:=(by rw[wH (by simp;omega),uf (by simp;omega),jh]);cases c with
   |nil=>
    obtain⟨rfl,rfl,rfl⟩:=aX.nQ.1 E;obtain⟨_,_,a3⟩:=aX.nQ.1 (ci [] c1 (loc.map λc=>(c.1,c.2+j.size)) (u.drop j.size) (by simpa[g7,nH] using o) (aX.nQ.2 ⟨bo,bo,bo⟩));exact aX.nQ.2 ⟨bo,bo,by rw[a3,jK]⟩
   |cons I c=>
    cases I<;>simp only[g7] at o<;>first|(cases o;done)|skip
    ·show aX s j loc ((u.take j.size++n).take j.size) c Q P M;rw[ao];exact aX.fV l mz E
    show aX s c1 (loc.map λc=>(c.1,c.2+j.size)) ((u.take j.size++n).drop j.size) c Q P M;rw[f9];exact ci c Q P M o E
theorem EM (i:bn aZ) {loc:Loc} {u:d.den} {τ':ai} {y:τ'.den} (D:aT e f d g u k) (E:pH f loc g d.size) (F:k.Nodup) (G:∀a b,loc=Y (a,b)->a∉k/\∀h,¬e h a) (H:∀a∈k,∀h,¬e h a) (I:eK d u i τ' y):∃c l r o,aX f d loc g i τ' c l/\aT e f τ' l y r/\pH f c l τ'.size/\k.Perm (r++o)/\(∀q s,c=Y (q,s)->(∃b,loc=Y (q,b)/\b<=s/\s+τ'.size<=b+d.size)\/q∈o)/\(∀(
   j:bD) (p:dh->X->Prop) (m:ajT) (B:τ'.den) (w:ajZ) (A:d.den),
   (∀h a,e h a->p h a)->(∀a,(∃h,e h a)\/a∈o\/(∃b,loc=Y (a,b))->rY f j c τ'.size a)->
   aT p j τ' m B w->(c=bq->i≠[]->m=l)->(∀a b,c=Y (a,b)->fd j a b m)->e3 d u i τ' B A->
   ∃n x,aT p j d n A x/\(i=[]->n=m)/\(loc=bq->(c≠bq\/m=l)->n=g)/\(∀a b,loc=Y (a,b)->fd j a b n)/\x.Perm (w++o)/\aX j d loc n i τ' c m/\∀(t:bn aZ) (C:ai) (z:Loc) (v:ajT),g7 i t=bp->aX f d loc g t C z v->aX j d loc n t C z v):=by
 obtain⟨c,l,r,o,J,K,L,M,N,O,_⟩:=AO i D E F G H I;grind
def bb (a c:X->Prop):dh->X->Prop
 |.be=>a
 |.c7=>λb=>a b\/c b
theorem m8 {a:X->Prop} {d:dh} (c:bb a j d b):a b\/j b:=by cases d;exact .inl c;exact c
inductive al where
 |dead
 |val (τ:ai) (x:τ.den)
 |ref (id:X) (p:bn aZ)
 |addr (id:X) (p:bn aZ)
 |view (id:X) (p:bn aZ) (lo hi:X)
 |app (id:X) (p:bn aZ) (τ:ai) (ys:bn τ.den) (own:ajZ)
 |dd (v:Value)
 |e6 (l:bn al)
 |agg (l:bn al)
 |da (f:X) (l:bn al)
 |lh (id:X) (p:bn aZ) (k:Z)
 |hz (a:al)
variable{V:al}
abbrev aK:=(a:ai)×a.den
variable{u:bn (X×aK)}{P:aK}
structure aO where
 g:bn (X×al)
 h:bn (X×aK)
variable{O:aO}
def aq {a:Type}:bn (X×a)->X->bw a
 |[],_=>bq
 |(k,v)::r,n=>bif bI k n then Y v else aq r n
theorem de (b:X) (d:N) (c:bn (X×N)) (a:X):aq ((b,d)::c) a=if b=a then Y d else aq c a:=by
 show(bif bI b a then Y d else aq c a)=_;by_cases e:b=a
 ·simp_all
 rw[aw e];grind [akJ]
def gt (a:bn (X×al)) (b:X):al:=match aq a b with|some c=>c|none=>.dead
structure eW where
 I0:X->Prop
 B:X->Prop
 F0:X->Prop
 w0:bD
 n:X
 pin:ajZ
 vs:X->Value
variable{U:eW}
def eW.ok (a:eW) (d:X):Prop:=d<a.n/\d∉a.pin
inductive cQ (M:dh->X->Prop) (w:bD) (h:bn (X×aK)) (rt:X->ajT) (fp:X->ajZ):al->Value->Prop
 |dead (v:Value):cQ M w h rt fp .dead v
 |dd (v:Value):cQ M w h rt fp (.dd v) v
 |val {τ:ai} {x:τ.den} {cs:ajT} (r:aT M w τ cs x []):cQ M w h rt fp (.val τ x) (cV τ cs)
 |ref {id:X} {p:bn aZ} {t:aK} {τ':ai} {loc:Loc} {cs:ajT} (pc:aq h id=Y t) (EY:aX w t.1 bq (rt id) p τ' loc cs):cQ M w h rt fp (.ref id p) (cV τ' cs)
 |addr {id:X} {p:bn aZ} {t:aK} {τ':ai} {b o:X} {cs:ajT} (pc:aq h id=Y t) (EY:aX w t.1 bq (rt id) p τ' (Y (b,o)) cs):cQ M w h rt fp (.addr id p) (.pointer (Y ⟨b,o,bq⟩))
 |view {id:X} {p:bn aZ} {lo hi:X} {t:aK} {τ':ai} {loc:Loc} {b o len cap:X} (pc:aq h id=Y t) (EY:aX w t.1 bq (rt id) p (.osl τ') loc [.slice (Y ⟨b,o,bq⟩) len cap]) (EV:lo<=hi) (XC:hi<=len) (agB:len<=cap):cQ M w h rt fp (.view id p lo hi) (.slice (Y ⟨b,if cap=lo then o else o+lo*τ'.size,bq⟩) (hi-lo) (cap-lo))
 |mg (id:X) (p:bn aZ):cQ M w h rt fp (.view id p 0 0) (.slice bq 0 0)
 |app {id:X} {p:bn aZ} {τ:ai} {ys:bn τ.den} {own:ajZ} {t:aK} {loc:Loc} {zI:ajT} {xs:bn τ.den} {f1 f2:ajZ} {v:Value} (pc:aq h id=Y t) (agE:τ.kW=bp) (EY:aX w t.1 bq (rt id) p (.osl τ) loc zI) (OP:eK t.1 t.2 p (.osl τ) xs) (EV:aT M w (.osl τ) zI xs f1) (agC:∀b∈f1,b∈fp id) (XC:aT M w (.osl τ) [v] (xs++ys) f2) (agH:∀i∈own,i≠id/\∃u,aq h i=Y u) (agI:∀b∈f2,b∈f1\/∃i∈own,b∈fp i) (agF:f2.Nodup):cQ M w h rt fp (.app id p τ ys own) v
 |e6 {l:bn al} {vs:ajR} (EX:l.length=vs.size) (EW:∀(i:X) (a:al) (v:Value),l[i]?=Y a->vs[i]?=Y v->cQ M w h rt fp a v):cQ M w h rt fp (.e6 l) (.tuple vs)
 |agg {l:bn al} {vs:ajT} (EX:l.length=vs.length) (EW:∀(i:X) (a:al) (v:Value),l[i]?=Y a->vs[i]?=Y v->cQ M w h rt fp a v):cQ M w h rt fp (.agg l) (.agg (vs.map λv=>v.cells.toList).flatten.toArray)
 |lh {id:X} {p:bn aZ} {k:Z} {t:aK} {τ':ai} {loc:Loc} {b c i:X} {eY:bU cl} {e:cl} (pc:aq h id=Y t) (EY:aX w t.1 bq (rt id) p (.mp τ') loc [.map (Y b)]) (OM:b∈fp id) (OQ:i6 w b=Y (eY,c)) (hi:eY[i]?=Y e) (agD:e.key=.int .i64 k):cQ M w h rt fp (.lh id p k) (.int .i64 (e.born:Z))
 |da {f:X} {l:bn al} {vs:ajR} (EX:l.length=vs.size) (EW:∀(i:X) (a:al) (v:Value),l[i]?=Y a->vs[i]?=Y v->cQ M w h rt fp a v):cQ M w h rt fp (.da f l) (.func (.func f) #[] vs)
 |hz {a:al} {v:Value} {b:X} (OM:M .be b) (hc:w.cell? ⟨b,0,bq⟩=Y v) (agG:v.oneCell'=bp) (IR:cQ M w h rt fp a v):cQ M w h rt fp (.hz a) (.pointer (Y ⟨b,0,bq⟩))
structure cM (C:eW) (st:aO) (Lh:ajR) (w:bD) (I:X->Prop) (rt:X->ajT) (fp:X->ajZ):Prop where
 n:Lh.size=C.n
 i0:∀b,C.I0 b->I b
 i1:∀b,I b->C.I0 b\/C.w0.heap.size<=b\/C.F0 b
 ib:∀b,I b\/C.B b->b<w.heap.size
 tree:∀id t,aq st.h id=Y t->aT (bb I C.B) w t.1 (rt id) t.2 (fp id)/\(fp id).Nodup/\∀b∈fp id,¬I b/\¬C.B b/\b<w.heap.size/\(C.w0.heap.size<=b\/C.F0 b)
 dis:∀i j t u,aq st.h i=Y t->aq st.h j=Y u->i≠j->∀b∈fp i,b∉fp j
 tmp:∀k,cQ (bb I C.B) w st.h rt fp (gt st.g k) (Lh.getD k bW)
 frame:∀b,b<C.w0.heap.size->¬C.F0 b->w.heap[b]?=C.w0.heap[b]?
 evo:∀b,b<C.w0.heap.size->k5 C.w0 w b
 size:C.w0.heap.size<=w.heap.size
 os:w.os=C.w0.os
 tape:w.tape=C.w0.tape
 output:w.output=C.w0.output
 pin:∀k∈C.pin,Lh.getD k bW=C.vs k
def gC (a:eW) (e:aO) (f:ajR) (g:bD):Prop:=∃b d c,cM a e f g b d c
structure hl (w w':bD):Prop where
 os:w'.os=w.os
 tape:w'.tape=w.tape
 output:w'.output=w.output
 size:w.heap.size<=w'.heap.size
 heap:∀b,b<w.heap.size->w'.heap[b]?=w.heap[b]?
def hl.refl (a:bD):hl a a:=⟨bo,bo,bo,bd _,λ_ _=>rfl⟩
theorem hl.trans {c d e:bD} (a:hl c d) (b:hl d e):hl c e:=
 ⟨b.os.trans a.os,b.tape.trans a.tape,b.output.trans a.output,di a.size b.size,λg f=>(b.heap g (iT f a.size)).trans (a.heap g f)⟩
def hl.drew {b c:bD} (a:hl b c):hl b c.drew:=⟨a.os,a.tape,a.output,a.size,a.heap⟩
theorem hl.alloc (a:bD) (b:Obj):hl a (a.alloc b):=⟨bo,bo,bo,ac,λc d=>by
 show(a.heap.push b)[c]?=_;grind⟩
theorem cQ.mono {u x:dh->X->Prop} {r t:bD} {v z:bn (X×aK)} {w D:X->ajT} {s y:X->ajZ} (n:∀B c,u B c->x B c/\c6 r t c) (d:∀id m,aq v id=Y m->aT u r m.1 (w id) m.2 (s id)/\∀c∈s id,c6 r t c) {j:al} {b:Value} (F:cQ u r v w s j b) (o:∀id m,aq v id=Y m->aq z id=Y m/\D id=w id/\y id=s id):cQ x t z D y j b:=by
 induction F with
 |dead b=>exact .dead b
 |dd b=>exact .dd b
 |val S=>exact .val (S.mono n ac)
 |ref a g=>
  obtain⟨h,i,_⟩:=o _ _ a;exact .ref h (by rw[i];exact g.fV (d _ _ a).1 (d _ _ a).2)
 |addr a g=>
  obtain⟨h,i,_⟩:=o _ _ a;exact .addr h (by rw[i];exact g.fV (d _ _ a).1 (d _ _ a).2)
 |mg id C=>exact .mg id C
 |view a g e f E=>
  obtain⟨h,i,_⟩:=o _ _ a;exact .view h (by rw[i];exact g.fV (d _ _ a).1 (d _ _ a).2) e f E
 |@app id C τ av an m am T ap U f2 b a N g J e H f V ad O=>
  obtain⟨h,i,R⟩:=o _ _ a;obtain⟨Q,A⟩:=d _ _ a;have I:∀c∈f2,c6 r t c:=λc k=>(by grind);refine .app h N (by rw[i];exact g.fV Q A) J (e.mono n (λc k=>A c (H c k))) (by grind) (f.mono n I) ?_ ?_ O
  ·grind
  grind
 |lh a g k M K L=>
  obtain⟨h,i,R⟩:=o _ _ a;exact .lh h (by rw[i];exact g.fV (d _ _ a).1 (d _ _ a).2) (by grind) (by rw[((d _ _ a).2 _ k).2];exact M) K L
 |e6 p _ l=>exact .e6 p (λq j b e f=>l q j b e f)
 |agg p _ l=>exact .agg p (λq j b e f=>l q j b e f)
 |da p _ l=>exact .da p (λq j b e f=>l q j b e f)
 |hz k G P _ l=>exact .hz (n _ _ k).1 (by rw[((n _ _ k).2.1 0).1];exact G) P l
def aU (c:bn (X×al)):bP->al
 |.tmp g=>gt c g
 |.const (.int d e)=>.val (.int d) e
 |.const (.bool a)=>.val .bool a
 |.const (.string f)=>.val .str f
 |.const h=>.dd h
 |.func b=>.da b []
 |.global _=>.dead
def cQ.int {c:dh->X->Prop} {g:bD} {e:bn (X×aK)} {f:X->ajT} {d:X->ajZ} (a:cr) (b:Z):cQ c g e f d (.val (.int a) b) (.int a b):=
 .val (τ:=.int a) (cs:=[.int a b]) ⟨bo,bo⟩
def cQ.bool {b:dh->X->Prop} {f:bD} {d:bn (X×aK)} {e:X->ajT} {c:X->ajZ} (a:bA):cQ b f d e c (.val .bool a) (.bool a):=
 .val (τ:=.bool) (cs:=[.bool a]) ⟨bo,bo⟩
def cQ.str {b:dh->X->Prop} {f:bD} {d:bn (X×aK)} {e:X->ajT} {c:X->ajZ} (a:ByteArray):cQ b f d e c (.val .str a) (.string a):=
 .val (τ:=.str) (cs:=[.string a]) ⟨bo,bo⟩
def cM.aU {e:eW} {c:aO} {a:Act} {l:bD} {f:X->Prop} {j:X->ajT} {i:X->ajZ} (m:cM e c a.tmps l f j i) (d:bP):cQ (bb f e.B) l c.h j i (aU c.g d) (a.eval d):=by
 cases d with
 |tmp o=>exact m.tmp o
 |const p=>
  cases p<;>simp only[jt.aU,Act.eval]
  case int k n=>exact .int k n
  case bool b=>exact .bool b
  case string s=>exact .str s
  all_goals exact .dd _
 |func q=>exact .da (vs:=#[]) ac ac
 |global r=>exact .dead _
theorem kV {d:Type}:∀(c b:bn (X×d)) (a:X),aq (c++b) a=(aq c a).or (aq b a)
 |[],b,a=>by simp[aq]
 |(k,v)::c,b,a=>by rw[n1,de,de,kV c b a];grind
theorem i4 (c:X) (b:al) (d:bn (X×al)) (a:X):gt ((c,b)::d) a=if c=a then b else gt d a:=by grind [de,gt]
theorem cM.put (a:cM U O z f j p q) (e:U.ok b) {av:al} {v:Value} (l:cQ (bb j U.B) f O.h p q av v):cM U ⟨(b,av)::O.g,O.h⟩ (z.setIfInBounds b v) f j p q where
 n:=by simpa using a.n
 i0:=a.i0
 i1:=a.i1
 ib:=a.ib
 tree:=a.tree
 dis:=a.dis
 tmp:=λc=>by
  show cQ _ _ _ _ _ (gt ((b,av)::O.g) c) _;unfold gt;rw[de];have k:b<z.size:=(by rw[a.n];exact e.1);by_cases d:b=c
  ·simp_all
  rw[aw d];have:(z.setIfInBounds b v).getD c bW=z.getD c undef:=(by simp_all);rw[this];exact a.tmp c
 frame:=a.frame
 evo:=a.evo
 size:=a.size
 os:=a.os
 tape:=a.tape
 output:=a.output
 pin:=λc d=>by have:b≠c:=λi=>e.2 (i▸d);rw[<-a.pin c d];simp_all
structure wS (C:eW) (st:aO) (w w':bD) (I':X->Prop) (new:bn (X×aK)) (rtn:X->ajT) (fpn:X->ajZ):Prop where
 tree:∀id t,aq new id=Y t->aq st.h id=bq/\aT (bb I' C.B) w' t.1 (rtn id) t.2 (fpn id)/\(fpn id).Nodup/\∀b∈fpn id,w.heap.size<=b/\b<w'.heap.size/\¬I' b
 dis:∀i j t u,aq new i=Y t->aq new j=Y u->i≠j->∀b∈fpn i,b∉fpn j
def wS.nil:wS U O f m j [] p q:=
 ⟨(λ_ _ a=>by cases a),(λ_ _ _ _ a=>by cases a)⟩
theorem wS.one {C:eW} {st:aO} {w':bD} {I':X->Prop} {id:X} {t:aK} {cs:ajT} {f:ajZ} (l:aq st.h id=bq) (n:aT (bb I' C.B) w' t.1 cs t.2 f) (j:f.Nodup) (i:∀a∈f,m.heap.size<=a/\a<w'.heap.size/\¬I' a):wS C st m w' I' [(id,t)] (λ_=>cs) (λ_=>f) where
 tree:=λe g b=>by
  rw[de] at b;split at b
  ·grind
  cases b
 dis:=λe o p g c d k=>by
  rw[de] at c d;split at c
  ·split at d
   ·omega
   cases d
  cases c
def e8 (d:bn (X×aK)) {a:Type} (b c:X->a):X->a:=λid=>match aq d id with|some _=>b id|none=>c id
theorem cM.ext {I':X->Prop} {rtn:X->ajT} {fpn:X->ajZ} (d:cM U O z f j p q) (e:hl f m) (y:∀a,j a->I' a) (A:∀a,I' a->j a\/(f.heap.size<=a/\a<m.heap.size)) {new:bn (X×aK)} (s:wS U O f m I' new rtn fpn):cM U ⟨O.g,new++O.h⟩ z m I' (e8 new rtn p) (e8 new fpn q):=by
 have I:∀w a,bb j U.B w a->bb I' U.B w a/\c6 f m a:=λw a b=>by
  refine⟨?_,.of_heap (e.heap a (d.ib a (m8 b)))⟩;cases w
  ·exact y a b
  exact b.imp (y a) id
 have S:∀id c,aq O.h id=Y c->aq (new++O.h) id=Y c/\e8 new rtn p id=p id/\e8 new fpn q id=q id:=λid c k=>by
  have:aq new id=bq:=by
   cases P:aq new id with
   |none=>rfl
   |some l=>have:=(s.tree id l P).1;grind
  grind [kV,e8]
 have C:∀id c,aq (new++O.h) id=Y c->(aq new id=Y c/\e8 new rtn p id=rtn id/\e8 new fpn q id=fpn id)\/(aq O.h id=Y c/\e8 new rtn p id=p id/\e8 new fpn q id=q id):=λid c k=>(by grind [kV,aq,e8]);have J:∀id c,aq O.h id=Y c->∀a∈q id,c6 f m a:=λid c k a b=>.of_heap (e.heap a ((d.tree id c k).2.2 a b).2.2.1);refine{n:=d.n,i0:=λa b=>y a (d.i0 a b),i1:=?_,ib:=?_,tree:=?_,dis:=?_,tmp:=?_,frame:=?_,evo:=λa b=>(d.evo a b).trans (.of_heap (e.heap a (iT b d.size))),size:=di d.size e.size,os:=e.os.trans d.os,tape:=e.tape.trans d.tape,output:=e.output.trans d.output,pin:=d.pin}
 ·intro a b;rcases A a b with b|⟨b,_⟩
  ·exact d.i1 a b
  exact .inr (.inl (di d.size b))
 ·intro a b;rcases b with b|b
  ·rcases A a b with b|⟨_,b⟩
   ·exact iT (d.ib a (.inl b)) e.size
   omega
  exact iT (d.ib a (.inr b)) e.size
 ·intro id c k;rcases C id c k with⟨i,x,o⟩|⟨i,x,o⟩
  ·obtain⟨_,ay,D,E⟩:=s.tree id c i;rw[x,o];refine⟨ay,D,λa b=>?_⟩;obtain⟨F,G,H⟩:=E a b;exact⟨H,λM=>by have:=d.ib a (.inr M);omega,G,.inl (di d.size F)⟩
  obtain⟨ay,D,E⟩:=d.tree id c i;rw[x,o];refine⟨ay.mono I (J id c i),D,λa b=>?_⟩;obtain⟨F,G,H,aL⟩:=E a b;exact⟨λr=>(A a r).elim F (λV=>by omega),G,iT H e.size,aL⟩
 ·intro t u c l Q R K a b;rcases C t c Q with⟨i,_,o⟩|⟨i,_,o⟩<;>rcases C u l R with⟨v,_,L⟩|⟨v,_,L⟩<;>rw[o] at b<;>rw[L]
  ·exact s.dis t u c l i v K a b
  ·intro r;have:=((s.tree t c i).2.2.2 a b).1;have:=((d.tree u l v).2.2 a r).2.2.1;omega
  ·intro r;have:=((s.tree u l v).2.2.2 a r).1;have:=((d.tree t c i).2.2 a b).2.2.1;omega
  exact d.dis t u c l i v K a b
 ·intro T;exact(d.tmp T).mono I (λid c k=>⟨(d.tree id c k).1,J id c k⟩) S
 intro a b N;rw[e.heap a (iT b d.size)];exact d.frame a b N
def cM.XA (a:cM U O z f j p q) (b:hl f m):cM U O z m j p q:=by have:=a.ext (rtn:=p) (fpn:=q) b (λ_ a=>a) (λ_ a=>.inl a) (new:=[]) .nil;exact this
def o5:bn (X×al)->aO->Prop
 |[],_=>True
 |(k,av)::r,st=>gt st.g k=av/\o5 r st
def o6:bn (X×aK)->aO->Prop
 |[],_=>True
 |(k,t)::r,st=>aq st.h k=Y t/\o6 r st
def o5.get {b:bn (X×al)} (c:o5 b O):∀a,gt b a=.dead\/gt b a=gt O.g a:=by
 induction b with
 |nil=>exactλa=>.inl bo
 |cons f b e=>
  obtain⟨i,h⟩:=f;intro a;rw[i4];split
  ·rename_i d;subst d;exact .inr c.1.symm
  exact e c.2 a
def o6.get (c:o6 u O):∀a b,aq u a=Y b->aq O.h a=Y b:=by
 induction u with
 |nil=>intro a b c;cases c
 |cons g u f=>
  obtain⟨j,i⟩:=g;intro a b d;rw[de] at d;split at d
  ·rename_i e;subst e;rw[<-d];exact c.1
  exact f c.2 a b d
mutual
def al.ids:al->ajZ
 |.dead|.val _ _|.dd _=>[]
 |.ref id _|.addr id _|.view id _ _ _|.lh id _ _=>[id]
 |.app id _ _ _ c=>id::c
 |.e6 a|.agg a|.da _ a=>al.oC a
 |.hz b=>b.ids
def al.oC:bn al->ajZ
 |[]=>[]
 |a::b=>a.ids++al.oC b
end
theorem al.A5 {l:bn al} {i:X} (a:l[i]?=Y V) {id:X} (b:id∈V.ids):id∈al.oC l:=by
 induction l generalizing i with
 |nil=>grind
 |cons e d c=>
  grind [al.oC]
theorem cQ.tu {x:dh->X->Prop} {z:bn (X×aK)} {D:X->ajT} {y:X->ajZ} (s:∀B b,e B b->x B b/\c6 f m b) (F:cQ e f u p q V R) (d:∀id∈V.ids,∀w,aq u id=Y w->aq z id=Y w/\D id=p id/\y id=q id/\aT e f w.1 (p id) w.2 (q id)/\∀b∈q id,c6 f m b):cQ x m z D y V R:=by
 induction F with
 |dead R=>exact .dead R
 |dd R=>exact .dd R
 |val T=>exact .val (T.mono s ac)
 |ref h g=>
  obtain⟨i,j,_,o,k⟩:=d _ (by simp[al.ids]) _ h;exact .ref i (by rw[j];exact g.fV o k)
 |addr h g=>
  obtain⟨i,j,_,o,k⟩:=d _ (by simp[al.ids]) _ h;exact .addr i (by rw[j];exact g.fV o k)
 |mg id C=>exact .mg id C
 |view h g a c E=>
  obtain⟨i,j,_,o,k⟩:=d _ (by simp[al.ids]) _ h;exact .view i (by rw[j];exact g.fV o k) a c E
 |@app id C a3 a1 av w ap U a0 ad f2 R h N g J a H c am an O=>
  obtain⟨i,j,S,Q,A⟩:=d _ (by simp[al.ids]) _ h;have I:∀b∈f2,c6 f m b:=λb l=>(by grind [al.ids]);refine .app i N (by rw[j];exact g.fV Q A) J (a.mono s (λb l=>A b (H b l))) (by grind) (c.mono s I) ?_ ?_ O
  ·grind [al.ids]
  grind [al.ids]
 |lh h g l M K L=>
  obtain⟨i,j,S,o,k⟩:=d _ (by simp[al.ids]) _ h;exact .lh i (by rw[j];exact g.fV o k) (by grind) (by rw[(k _ l).2];exact M) K L
 |e6 t _ n=>exact .e6 t (λv V R a c=>n v V R a c (λid r=>d id (al.A5 a r)))
 |agg t _ n=>exact .agg t (λv V R a c=>n v V R a c (λid r=>d id (al.A5 a r)))
 |da t _ n=>exact .da t (λv V R a c=>n v V R a c (λid r=>d id (al.A5 a r)))
 |hz l G P _ n=>exact .hz (s _ _ l).1 (by rw[((s _ _ l).2.1 0).1];exact G) P (n λid r=>d id (by grind [al.ids]))
def cM.zK {o:aO} (a:cM U o z f j p q) (v:o5 O.g o) (d:o6 O.h o) (w:∀c,∀id∈(gt O.g c).ids,(aq O.h id).isSome=bp):cM U O z f j p q where
 n:=a.n
 i0:=a.i0
 i1:=a.i1
 ib:=a.ib
 tree:=λid b e=>a.tree id b (d.get id b e)
 dis:=λs t b i m x=>a.dis s t b i (d.get s b m) (d.get t i x)
 tmp:=λc=>by
  rcases v.get c with l|l
  ·rw[l];exact .dead _
  have:=w c;rw[l] at this|-;refine(a.tmp c).tu (λy k u=>⟨u,c6.refl f k⟩) (λid m b e=>?_);obtain⟨i,r⟩:=GL.1 (this id m);have:=d.get id i r;rw[e] at this;obtain rfl:=gb this;exact⟨r,bo,bo,(a.tree id b e).1,λk _=>c6.refl f k⟩
 frame:=a.frame
 evo:=a.evo
 size:=a.size
 os:=a.os
 tape:=a.tape
 output:=a.output
 pin:=a.pin
def mE (a:bn (X×al)) (b:bn (X×aK)):bA:=a.all λc=>c.2.ids.all λid=>(aq b id).isSome
theorem mE.get {a:bn (X×al)} (f:mE a u=bp) (c:X):∀id∈(gt a c).ids,(aq u id).isSome=bp:=by
 intro id b;unfold gt at b;cases d:aq a c with
 |none=>grind [al.ids]
 |some e=>
  rw[d] at b;have g:(c,e)∈a:=by
   clear f b
   induction a with
   |nil=>cases d
   |cons i j h=>
    grind [amf,aln,de]
  grind [ak1,mE]
section
mutual
def e9 (P:b1):ai->bG->Prop
 |.int f,T=>∃a,P.info? T=Y a/\a.size=1/\a.bytes<=24/\a.zero=Y (.int f 0)/\P.underlying T=Y (.int f)
 |.bool,T=>∃a,P.info? T=Y a/\a.size=1/\a.bytes<=24/\a.zero=Y (.bool br)/\P.underlying T=Y .bool
 |.str,T=>∃a,P.info? T=Y a/\a.size=1/\a.bytes<=24/\a.zero=Y (.string amj)/\P.underlying T=Y .string
 |.a6 _ b,T=>∃a E,P.info? T=Y a/\a.size=1/\a.bytes<=24/\a.zero=Y (.slice bq 0 0)/\P.underlying T=Y (.slice E)/\e9 P b E
 |.osl b,T=>∃a E,P.info? T=Y a/\a.size=1/\a.bytes<=24/\a.zero=Y (.slice bq 0 0)/\P.underlying T=Y (.slice E)/\e9 P b E
 |.ptr _ b,T=>∃a E,P.info? T=Y a/\a.size=1/\a.bytes<=24/\a.zero=Y (.pointer bq)/\P.underlying T=Y (.pointer E)/\e9 P b E
 |.optr b,T=>∃a E,P.info? T=Y a/\a.size=1/\a.bytes<=24/\a.zero=Y (.pointer bq)/\P.underlying T=Y (.pointer E)/\e9 P b E
 |.st b,T=>0<b.size/\∃a e d,P.info? T=Y a/\a.size=b.size/\a.bytes<=24*b.size/\a.zero=Y (.agg d)/\P.underlying T=Y (.struct e)/\iD P b e.toList 0 d.toList/\d.size=b.size
 |.mp b,T=>∃a c E,P.info? T=Y a/\a.size=1/\a.bytes<=24/\a.zero=Y (.map bq)/\P.underlying T=Y (.map c E)/\P.underlying c=Y (.int .i64)/\e9 P b E
 |.e1 _ b,T=>∃a c E,P.info? T=Y a/\a.size=1/\a.bytes<=24/\a.zero=Y (.map bq)/\P.underlying T=Y (.map c E)/\P.underlying c=Y (.int .i64)/\e9 P b E
 |.fn _ _,T=>∃a g h i,P.info? T=Y a/\a.size=1/\a.bytes<=24/\a.zero=Y .nilFunc/\P.underlying T=Y (.func g h i)
 |_,_=>b7
def iD (P:b1):ai->bn akl->X->ajT->Prop
 |.pr a g,c::h,e,b=>c.offset=e/\e9 P a c.type/\0<a.size/\(∃d f,P.info? c.type=Y d/\d.zero=Y f/\b.take a.size=f.cells.toList)/\iD P g h (e+a.size) (b.drop a.size)
 |.nil,[],_,b=>b=[]
 |_,_,_,_=>b7
end
def pd:ai->bA
 |.st _=>bp
 |_=>br
structure Um (P:b1) (τ:ai) (T:bG) (i:TypeInfo):Prop where
 info:P.info? T=Y i
 size:i.size=τ.size
 bytes:i.bytes<=24*τ.size
 pos:0<τ.size
def e9.info {P:b1}:∀{τ:ai} {T:bG},e9 P τ T->∃a g,Um P τ T a/\P.underlying T=Y g/\(match g with|.struct _|.array _ _=>bp|_=>br)=pd τ
 |.int _,_,⟨a,b,c,d,_,e⟩=>⟨a,_,⟨b,c,d,by simp[ai.size]⟩,e,bo⟩
 |.bool,_,⟨a,b,c,d,_,e⟩=>⟨a,_,⟨b,c,d,by simp[ai.size]⟩,e,bo⟩
 |.str,_,⟨a,b,c,d,_,e⟩=>⟨a,_,⟨b,c,d,by simp[ai.size]⟩,e,bo⟩
 |.a6 _ _,_,⟨a,_,b,c,d,_,e,_⟩=>⟨a,_,⟨b,c,d,by simp[ai.size]⟩,e,bo⟩
 |.osl _,_,⟨a,_,b,c,d,_,e,_⟩=>⟨a,_,⟨b,c,d,by simp[ai.size]⟩,e,bo⟩
 |.ptr _ _,_,⟨a,_,b,c,d,_,e,_⟩=>⟨a,_,⟨b,c,d,by simp[ai.size]⟩,e,bo⟩
 |.optr _,_,⟨a,_,b,c,d,_,e,_⟩=>⟨a,_,⟨b,c,d,by simp[ai.size]⟩,e,bo⟩
 |.st i,_,⟨h,a,_,_,b,c,d,_,e,_⟩=>⟨a,_,⟨b,c,d,h⟩,e,bo⟩
 |.pr _ _,_,f=>f.elim
 |.nil,_,f=>f.elim
 |.eB,_,f=>f.elim
 |.mp _,_,⟨a,_,_,b,c,d,_,e,_⟩=>⟨a,_,⟨b,c,d,by simp[ai.size]⟩,e,bo⟩
 |.e1 _ _,_,⟨a,_,_,b,c,d,_,e,_⟩=>⟨a,_,⟨b,c,d,by simp[ai.size]⟩,e,bo⟩
 |.fn _ _,_,⟨a,_,_,_,b,c,d,_,e⟩=>⟨a,_,⟨b,c,d,by simp[ai.size]⟩,e,bo⟩
theorem e9.IS {P:b1}:∀{τ:ai} {T:bG},e9 P τ T->∃g,g.cells.size=τ.size/\∀d,P.info? T=Y d->d.zero=Y g
 |.int _,_,⟨d,a,_,_,b,_⟩|.bool,_,⟨d,a,_,_,b,_⟩|.str,_,⟨d,a,_,_,b,_⟩=>⟨_,bo,λf c=>by rw[a] at c;cases c;exact b⟩
 |.a6 _ _,_,⟨d,_,a,_,_,b,_⟩|.osl _,_,⟨d,_,a,_,_,b,_⟩|.ptr _ _,_,⟨d,_,a,_,_,b,_⟩|.optr _,_,⟨d,_,a,_,_,b,_⟩=>⟨_,bo,λf c=>by rw[a] at c;cases c;exact b⟩
 |.st n,_,⟨j,d,_,i,a,k,l,b,m,_,h⟩=>⟨.agg i,h,λf c=>by grind⟩
 |.pr _ _,_,e=>e.elim
 |.nil,_,e=>e.elim
 |.eB,_,e=>e.elim
 |.mp _,_,⟨d,_,_,a,_,_,b,_⟩=>⟨_,bo,λf c=>by rw[a] at c;cases c;exact b⟩
 |.e1 _ _,_,⟨d,_,_,a,_,_,b,_⟩=>⟨_,bo,λf c=>by rw[a] at c;cases c;exact b⟩
 |.fn _ _,_,⟨d,_,_,_,a,_,_,b,_⟩=>⟨_,bo,λf c=>by rw[a] at c;cases c;exact b⟩
section
variable {P:b1} {τ:ai} {T:bG}
def e9.sizeOf (c:e9 P τ T) (b:bD):(akK T).run P b=.ok τ.size b:=by obtain⟨e,d,a,_⟩:=c.info;simp[akK,akr,a.info,a.size]
def e9.isAgg (c:e9 P τ T) (a:bD):(Go.isAgg T).run P a=.ok (pd τ) a:=by obtain⟨g,b,f,e,d⟩:=c.info;simp only[Go.isAgg,bY,b8 e,b2];rw[<-d];cases b<;>rfl
def e9.pos (a:e9 P τ T):0<τ.size:=by obtain⟨d,c,b,_⟩:=a.info;exact b.pos
def Kk:∀{τ:ai} {T:bG},e9 P τ T->pd τ=br->τ.size=1
 |.int _,_,_,_|.bool,_,_,_|.str,_,_,_|.a6 _ _,_,_,_|.osl _,_,_,_|.ptr _ _,_,_,_|.optr _,_,_,_|.mp _,_,_,_|.e1 _ _,_,_,_|.fn _ _,_,_,_=>rfl
 |.st _,_,_,a=>by cases a
 |.pr _ _,_,a,_=>a.elim
 |.nil,_,a,_=>a.elim
 |.eB,_,a,_=>a.elim
def FZ (a:pd τ=br):cV τ g=g.headD undef:=by cases τ<;>first|rfl|cases a
def F1 (a:pd τ=bp):cV τ g=.agg g.toArray:=by cases τ<;>first|rfl|cases a
theorem oL (d:e9 P τ T) (c:g.length=τ.size) (e:∀a∈g,a.oneCell'=bp):(cV τ g).cells=g.toArray:=by
 cases b:pd τ with
 |true=>rw[F1 b];rfl
 |false=>
  rw[FZ b];rw[Kk d b] at c;obtain⟨a,rfl⟩:=sc.1 c;have:=e a ac;cases a<;>first|rfl|grind [akj]
theorem KU {w:bD} {b o:X} {cs:ajT} (a:e9 P τ T) (e:fd w b o cs) (c:cs.length=τ.size):(loadVar T ⟨b,o,bq⟩).run P w=.ok (cV τ cs) w:=by
 simp only[loadVar,bY,a.isAgg,b2];cases g:pd τ with
 |true=>
  simp only[cg,bY,a.sizeOf,b2];rw[<-c,run_loadCells_list w ⟨b,o,bq⟩ cs (λh d f=>by rw[akR];exact e h d f)];simp_all [F1]
 |false=>
  rw[Kk a g] at c;obtain⟨d,rfl⟩:=sc.1 c;have:=e 0 d bo;simp_all [FZ,mV]
end
def mi:(τ:ai)->bw τ.den
 |.int _=>Y (0:Z)
 |.bool=>Y br
 |.str=>Y amj
 |.a6 _ _=>Y []
 |.osl _=>Y []
 |.ptr _ _=>Y bq
 |.optr _=>bq
 |.st c=>mi c
 |.pr a b=>match mi a,mi b with|some d,some e=>Y (d,e)|_,_=>bq
 |.nil=>Y ()
 |.eB=>bq
 |.mp _=>Y bq
 |.e1 _ _=>Y bq
 |.fn _ _=>bq
mutual
theorem wv {P:b1}:∀{τ:ai} {T:bG} {g:τ.den},e9 P τ T->mi τ=Y g->∃b l,P.info? T=Y b/\b.zero=Y l/\l=cV τ l.cells.toList/\∀(e:dh->X->Prop) (f:bD),aT e f τ l.cells.toList g []
 |.int p,_,g,⟨b,c,h,i,d,j⟩,a=>⟨b,_,c,d,bo,λe f=>by cases a;exact⟨bo,bo⟩⟩
 |.bool,_,g,⟨b,c,h,i,d,j⟩,a=>⟨b,_,c,d,bo,λe f=>by cases a;exact⟨bo,bo⟩⟩
 |.str,_,g,⟨b,c,h,i,d,j⟩,a=>⟨b,_,c,d,bo,λe f=>by cases a;exact⟨bo,bo⟩⟩
 |.a6 _ _,_,g,⟨b,_,c,h,i,d,j,_⟩,a=>⟨b,_,c,d,bo,λe f=>by cases a;exact⟨bo,bq,0,bo,bd _,λ_=>rfl,.inl bo⟩⟩
 |.osl _,_,g,⟨b,_,c,h,i,d,j,_⟩,a=>⟨b,_,c,d,bo,λe f=>by cases a;exact⟨bq,0,bo,.inl ⟨bo,bo,bo,bo⟩⟩⟩
 |.ptr _ _,_,g,⟨b,_,c,h,i,d,j,_⟩,a=>⟨b,_,c,d,bo,λe f=>by cases a;exact⟨bo,bo⟩⟩
 |.optr _,_,_,_,a=>by cases a
 |.st n,_,g,⟨_,b,o,q,c,h,i,d,j,m,_⟩,a=>⟨b,_,c,d,bo,λe f=>Ts (τ:=n) m a e f⟩
 |.pr _ _,_,_,k,_=>k.elim
 |.nil,_,_,k,_=>k.elim
 |.eB,_,_,k,_=>k.elim
 |.mp _,_,g,⟨b,_,_,c,h,i,d,j,_⟩,a=>⟨b,_,c,d,bo,λe f=>by cases a;exact⟨bo,bo⟩⟩
 |.e1 _ _,_,g,⟨b,_,_,c,h,i,d,j,_⟩,a=>⟨b,_,c,d,bo,λe f=>by cases a;exact⟨bo,bo⟩⟩
 |.fn _ _,_,_,_,a=>by cases a
theorem Ts {P:b1}:∀{τ:ai} {l:bn akl} {g:X} {f:ajT} {e:τ.den},iD P τ l g f->mi τ=Y e->∀(b:dh->X->Prop) (d:bD),aT b d τ f e []
 |.pr j k,r::x,g,f,e,a,c,b,d=>by
  obtain⟨s,m,t,⟨u,B,ay,q,w⟩,n⟩:=a;simp only[mi] at c;split at c
  ·rename_i z A o p;cases c;obtain⟨v,C,h,i,_,y⟩:=wv (τ:=j) m o;rw[ay] at h;obtain rfl:=gb h;rw[q] at i;obtain rfl:=gb i;exact⟨[],[],bo,by grind,Ts (τ:=k) n p b d⟩
  grind
 |.nil,[],_,f,e,a,c,b,d=>⟨bo,a⟩
 |.pr _ _,[],_,_,_,a,_,_,_=>a.elim
 |.nil,_::_,_,_,_,a,_,_,_=>a.elim
 |.int _,_,_,_,_,a,_,_,_=>by cases a
 |.bool,_,_,_,_,a,_,_,_=>by cases a
 |.str,_,_,_,_,a,_,_,_=>by cases a
 |.a6 _ _,_,_,_,_,a,_,_,_=>by cases a
 |.osl _,_,_,_,_,a,_,_,_=>by cases a
 |.ptr _ _,_,_,_,_,a,_,_,_=>by cases a
 |.optr _,_,_,_,_,a,_,_,_=>by cases a
 |.st _,_,_,_,_,a,_,_,_=>by cases a
 |.eB,_,_,_,_,a,_,_,_=>by cases a
 |.mp _,_,_,_,_,a,_,_,_=>by cases a
 |.e1 _ _,_,_,_,_,a,_,_,_=>by cases a
 |.fn _ _,_,_,_,_,a,_,_,_=>by cases a
end
def a9:ai->ai->bA
 |.int g,.int h=>if g=h then bp else br
 |.bool,.bool|.str,.str|.nil,.nil=>bp
 |.a6 _ a,.a6 _ b|.a6 _ a,.osl b|.osl a,.a6 _ b|.osl a,.osl b=>a9 a b
 |.ptr _ a,.ptr _ b|.ptr _ a,.optr b|.optr a,.ptr _ b|.optr a,.optr b=>a9 a b
 |.st a,.st b=>a9 a b
 |.mp a,.mp b|.mp a,.e1 _ b|.e1 _ a,.mp b|.e1 _ a,.e1 _ b=>a9 a b
 |.fn _ _,.fn _ _=>bp
 |.pr c d,.pr e f=>a9 c e&&a9 d f
 |_,_=>br
theorem a9.size:∀{τ b:ai},a9 τ b=bp->τ.size=b.size:=by
 intro τ
 induction τ with
 |st h c=>intro b a;cases b<;>simp only[a9] at a<;>first|(simp only[ai.size];exact c a)|cases a
 |pr d e f g=>
  intro b a;cases b<;>simp only[a9] at a<;>try (cases a;done)
  simp only[cE] at a;grind [ai.size]
 |_=>intro b a;cases b<;>simp[a9] at a<;>simp[ai.size]
mutual
theorem e9.lay {P:b1}:∀{τ c:ai} {T:bG},a9 τ c=bp->e9 P τ T->e9 P c T
 |.int q,c,_,a,b=>by cases c<;>simp[a9] at a;grind
 |.bool,c,_,a,b=>by grind [a9]
 |.str,c,_,a,b=>by grind [a9]
 |.a6 _ k,c,_,a,b=>by obtain⟨h,E,d,i,j,e,f,g⟩:=b;cases c<;>simp only[a9] at a<;>first|exact⟨h,E,d,i,j,e,f,e9.lay a g⟩|cases a
 |.osl k,c,_,a,b=>by obtain⟨h,E,d,i,j,e,f,g⟩:=b;cases c<;>simp only[a9] at a<;>first|exact⟨h,E,d,i,j,e,f,e9.lay a g⟩|cases a
 |.ptr _ k,c,_,a,b=>by obtain⟨h,E,d,i,j,e,f,g⟩:=b;cases c<;>simp only[a9] at a<;>first|exact⟨h,E,d,i,j,e,f,e9.lay a g⟩|cases a
 |.optr k,c,_,a,b=>by obtain⟨h,E,d,i,j,e,f,g⟩:=b;cases c<;>simp only[a9] at a<;>first|exact⟨h,E,d,i,j,e,f,e9.lay a g⟩|cases a
 |.st k,c,_,a,b=>by
  obtain⟨p,h,n,o,d,i,j,e,f,g,l⟩:=b;cases c<;>simp only[a9] at a<;>try (cases a;done)
  have:=a9.size a;exact⟨aa,h,n,o,d,aa,aa,e,f,iD.lay a g,aa⟩
 |.pr _ _,_,_,_,b=>b.elim
 |.nil,_,_,_,b=>b.elim
 |.eB,_,_,_,b=>b.elim
 |.mp k,c,_,a,b=>by obtain⟨h,m,E,d,i,j,e,f,g,l⟩:=b;cases c<;>simp only[a9] at a<;>first|exact⟨h,m,E,d,i,j,e,f,g,e9.lay a l⟩|cases a
 |.e1 _ k,c,_,a,b=>by obtain⟨h,m,E,d,i,j,e,f,g,l⟩:=b;cases c<;>simp only[a9] at a<;>first|exact⟨h,m,E,d,i,j,e,f,g,e9.lay a l⟩|cases a
 |.fn _ _,c,_,a,b=>by cases c<;>simp only[a9] at a<;>first|exact b|cases a
theorem iD.lay {P:b1}:∀{τ c:ai} {f:bn akl} {d:X} {e:ajT},a9 τ c=bp->iD P τ f d e->iD P c f d e
 |.pr k l,c,m::o,d,e,b,a=>by
  obtain⟨g,h,n,i,j⟩:=a;cases c<;>simp only[a9] at b<;>try (cases b;done)
  simp only[cE] at b;have:=a9.size b.1;exact⟨g,e9.lay b.1 h,aa,by rw[<-this];exact i,by rw[<-this];exact iD.lay b.2 j⟩
 |.nil,c,[],_,_,b,a=>by grind [a9]
 |.pr _ _,_,[],_,_,_,a=>a.elim
 |.nil,_,_::_,_,_,_,a=>a.elim
 |.int _,_,_,_,_,_,a=>by cases a
 |.bool,_,_,_,_,_,a=>by cases a
 |.str,_,_,_,_,_,a=>by cases a
 |.a6 _ _,_,_,_,_,_,a=>by cases a
 |.osl _,_,_,_,_,_,a=>by cases a
 |.ptr _ _,_,_,_,_,_,a=>by cases a
 |.optr _,_,_,_,_,_,a=>by cases a
 |.st _,_,_,_,_,_,a=>by cases a
 |.eB,_,_,_,_,_,a=>by cases a
 |.mp _,_,_,_,_,_,a=>by cases a
end
structure uA where
 b:X
 T:bG
 k:cr
 xs:aj0
def L3 (P:b1) (a:uA):Prop:=∃b,P.underlying a.T=Y (.array a.xs.length b)/\e9 P (.int a.k) b
def LL (P:b1) (T:bG):Prop:=P.stoodInHeld T=br/\P.eqGuardType P.depth T=br/\∃a,P.underlying T=Y (.struct a)/\(a.toList.all λb=>b.name !="_")=bp
structure fk where
 P:b1
 tt:bn (bG×ai)
 ok:∀T τ,aq tt T=Y τ->e9 P τ T
 mix:P.follows .mixedOrders=bp
 glob:bn uA:=[]
 gok:∀g∈glob,L3 P g:=by intro g h;cases h
 eqs:ajS:=[]
 eqok:∀T∈eqs,LL P T:=by intro T h;cases h
end
section
def hB:X:=4294967296
def aj {b:Type} (c:bn b) (a:Z):bw b:=if 0<=a then c[a.toNat]? else bq
theorem OB {b:bn N} {a:Z} {c:N} (d:aj b a=Y c):a=(a.toNat:Z)/\a.toNat<b.length/\b[a.toNat]?=Y c:=by grind [ak2,aj]
inductive hZ where
 |eV (av:al) (new:bn (X×aK))
 |part (α:Type) (φ:α->Prop) (f:α->al×bn (X×aK))
 |bad
def hZ.K (e:hZ) (Q:al->bn (X×aK)->Prop):Prop:=
 match e with
 |.eV c d=>Q c d
 |.part f g b=>∃a:f,g a/\Q (b a).1 (b a).2
 |.bad=>b7
def ai.pure:ai->bA
 |.osl _|.optr _|.eB|.mp _=>br
 |.st c=>c.pure
 |.pr a b=>a.pure&&b.pure
 |_=>bp
def fb:ai->bn aZ->bw ai
 |τ,[]=>Y τ
 |.osl c,.idx _::b=>fb c b
 |.optr c,.deref::b=>fb c b
 |.mp c,.deref::b=>fb c b
 |.st c,.unst::b=>fb c b
 |.pr a _,.fst::b=>fb a b
 |.pr _ d,.snd::b=>fb d b
 |_,_=>bq
def fA:ai->X->bw (bn aZ×ai)
 |.pr a _,0=>Y ([.fst],a)
 |.pr _ c,d+1=>match fA c d with|some b=>Y (.snd::b.1,b.2)|none=>bq
 |_,_=>bq
def fi:ai->X->X
 |.pr _ _,0=>0
 |.pr a b,c+1=>a.size+fi b c
 |_,_=>0
def rj:(e:ai)->e.den->X->bw aK
 |.pr a _,b,0=>Y ⟨a,b.1⟩
 |.pr _ c,b,d+1=>rj c b.2 d
 |_,_,_=>bq
theorem IB {h:b1}:∀{τ:ai} {j:bn akl} {f:X} {g:ajT} {e:X} {s:bn aZ} {τf:ai},iD h τ j f g->fA τ e=Y (s,τf)->∃c,j[e]?=Y c/\c.offset=f+fi τ e/\e9 h τf c.type
 |.pr a i,c::m,f,g,0,s,τf,d,b=>by simp only[fA,eT,h8] at b;obtain⟨rfl,rfl⟩:=b;exact⟨c,bo,by rw[d.1];rfl,d.2.1⟩
 |.pr a i,c::m,f,g,e+1,s,τf,d,b=>by
  simp only[fA] at b;split at b
  ·rename_i k l;simp only[eT,h8] at b;obtain⟨rfl,rfl⟩:=b;obtain⟨n,o,p,q⟩:=IB (τ:=i) d.2.2.2.2 (s:=k.1) (τf:=k.2) l;grind [fi]
  grind
 |.pr _ _,[],_,_,_,_,_,d,_=>d.elim
 |.int _,_,_,_,_,_,_,_,b=>by cases b
 |.bool,_,_,_,_,_,_,_,b=>by cases b
 |.str,_,_,_,_,_,_,_,b=>by cases b
 |.a6 _ _,_,_,_,_,_,_,_,b=>by cases b
 |.osl _,_,_,_,_,_,_,_,b=>by cases b
 |.ptr _ _,_,_,_,_,_,_,_,b=>by cases b
 |.optr _,_,_,_,_,_,_,_,b=>by cases b
 |.st _,_,_,_,_,_,_,_,b=>by cases b
 |.nil,_,_,_,_,_,_,_,b=>by cases b
 |.eB,_,_,_,_,_,_,_,b=>by cases b
theorem IE:∀{τ:ai} {e:τ.den} {d:X} {c:aK},rj τ e d=Y c->∃g,fA τ d=Y (g,c.1)
 |.pr a f,e,0,c,b=>by simp only[rj,eT] at b;subst b;exact⟨_,bo⟩
 |.pr a f,e,d+1,c,b=>by obtain⟨g,h⟩:=IE (τ:=f) b;grind [fA]
 |.int _,_,_,_,b=>by cases b
 |.bool,_,_,_,b=>by cases b
 |.str,_,_,_,b=>by cases b
 |.a6 _ _,_,_,_,b=>by cases b
 |.osl _,_,_,_,b=>by cases b
 |.ptr _ _,_,_,_,b=>by cases b
 |.optr _,_,_,_,b=>by cases b
 |.st _,_,_,_,b=>by cases b
 |.nil,_,_,_,b=>by cases b
 |.eB,_,_,_,b=>by cases b
theorem x3:∀{τ:ai} {c:X} {s:bn aZ} {tf:ai},fA τ c=Y (s,tf)->fi τ c+tf.size<=τ.size
 |.pr a d,0,s,tf,b=>by simp only[fA,eT,h8] at b;obtain⟨_,rfl⟩:=b;simp[fi,ai.size]
 |.pr a d,c+1,s,tf,b=>by
  simp only[fA] at b;split at b
  ·rename_i e f;simp only[eT,h8] at b;obtain⟨_,rfl⟩:=b;have:=x3 (τ:=d) (s:=e.1) (tf:=e.2) f;grind [fi,ai.size]
  grind
 |.int _,_,_,_,b=>by cases b
 |.bool,_,_,_,b=>by cases b
 |.str,_,_,_,b=>by cases b
 |.a6 _ _,_,_,_,b=>by cases b
 |.osl _,_,_,_,b=>by cases b
 |.ptr _ _,_,_,_,b=>by cases b
 |.optr _,_,_,_,b=>by cases b
 |.st _,_,_,_,b=>by cases b
 |.nil,_,_,_,b=>by cases b
 |.eB,_,_,_,b=>by cases b
theorem ID {i:dh->X->Prop} {w:bD}:∀{τ:ai} {f:τ.den} {e:X} {c:aK} {d:ajT},aT i w τ d f []->rj τ f e=Y c->aT i w c.1 ((d.drop (fi τ e)).take c.1.size) c.2 []/\fi τ e+c.1.size<=τ.size
 |.pr a j,f,0,c,d,h,b=>by simp only[rj,eT] at b;subst b;obtain⟨g,f2,m,l,k⟩:=h;obtain⟨rfl,rfl⟩:g=[]/\f2=[]:=(by simp_all);grind [fi,ai.size]
 |.pr a j,f,e+1,c,d,h,b=>by obtain⟨g,f2,m,l,k⟩:=h;obtain⟨rfl,rfl⟩:g=[]/\f2=[]:=(by simp_all);obtain⟨n,o⟩:=ID (τ:=j) k b;grind [alL,fi,ai.size]
 |.int _,_,_,_,_,_,b=>by cases b
 |.bool,_,_,_,_,_,b=>by cases b
 |.str,_,_,_,_,_,b=>by cases b
 |.a6 _ _,_,_,_,_,_,b=>by cases b
 |.osl _,_,_,_,_,_,b=>by cases b
 |.ptr _ _,_,_,_,_,_,b=>by cases b
 |.optr _,_,_,_,_,_,b=>by cases b
 |.st _,_,_,_,_,_,b=>by cases b
 |.nil,_,_,_,_,_,b=>by cases b
 |.eB,_,_,_,_,_,b=>by cases b
theorem aX.gq {w:bD} {a b:Loc}:aX w d a g [] r b y↔d=r/\a=b/\g=y:=by cases d<;>exact amg
theorem aX.append {w:bD}:∀{p c:bn aZ} {τ u v:ai} {n q r:Loc} {m k l:ajT},aX w τ n m p u q k->aX w u q k c v r l->aX w τ n m (p++c) v r l
 |[],c,τ,_,_,_,_,_,_,_,_,a,b=>by grind [aX.gq]
 |s::p,c,τ,_,_,_,_,_,_,_,_,a,b=>by
  cases τ<;>cases s<;>simp only[aX] at a
  case osl.idx t i=>
   obtain⟨d,o,z,x,e,f,g,h,j,y⟩:=a;exact⟨d,o,z,x,e,f,g,h,j,y.append b⟩
  case optr.deref t=>
   obtain⟨d,o,e,f,g,h,j⟩:=a;exact⟨d,o,e,f,g,h,j.append b⟩
  case st.unst t=>exact aX.append (p:=p) (τ:=t) a b
  case pr.fst t1 t2=>exact aX.append (p:=p) (τ:=t1) a b
  case pr.snd t1 t2=>exact aX.append (p:=p) (τ:=t2) a b
theorem aX.here {w:bD} {a:Loc}:aX w d a g [] d a g:=by cases d<;>exact⟨bo,bo,bo⟩
def aX.ty {w:bD}:∀{p:bn aZ} {τ c:ai} {m n:Loc} {e f:ajT},aX w τ m e p c n f->fb τ p=Y c
 |[],τ,_,_,_,_,_,a=>by obtain⟨rfl,_⟩:=aX.gq.1 a;cases τ<;>rfl
 |s::p,τ,_,_,_,_,_,a=>by
  cases τ<;>cases s<;>simp only[aX] at a
  case osl.idx t i=>obtain⟨d,o,r,q,g,h,j,k,b,l⟩:=a;exact l.ty
  case optr.deref t=>obtain⟨d,o,g,h,j,k,b⟩:=a;exact b.ty
  case st.unst t=>exact aX.ty (p:=p) (τ:=t) a
  case pr.fst t1 t2=>exact aX.ty (p:=p) (τ:=t1) a
  case pr.snd t1 t2=>exact aX.ty (p:=p) (τ:=t2) a
theorem aX.at {w:bD}:∀{q:bn aZ} {τ r:ai} {g p:Loc} {e h:ajT},aX w τ g e q r p h->e.length=τ.size->(∀b o,g=Y (b,o)->fd w b o e)->h.length=r.size/\∀b o,p=Y (b,o)->fd w b o h
 |[],τ,_,_,_,_,_,c,n,f=>by grind [aX.gq]
 |s::q,τ,_,g,_,e,_,c,n,f=>by
  cases τ<;>cases s<;>simp only[aX] at c
  case osl.idx t i=>
   obtain⟨b,o,A,z,u,v,k,l,m,x⟩:=c;exact x.at l (λj y d=>by grind)
  case optr.deref t=>
   obtain⟨b,o,u,v,k,l,m⟩:=c;exact m.at k (λj y d=>by grind)
  case st.unst t=>exact aX.at (τ:=t) c n f
  case pr.fst a b=>
   exact aX.at (τ:=a) c (by grind [ai.size]) (λb o d=>(f b o d).take)
  case pr.snd a b=>
   refine aX.at (τ:=b) c (by grind [ai.size]) (λj o d=>?_);cases g with
   |none=>grind
   |some B=>
    simp only[jv,eT,h8] at d;obtain⟨rfl,rfl⟩:=d;exact(f _ _ rfl).drop
theorem aX.EL {w:bD}:∀{τ:ai} {e:X} {s:bn aZ} {τf:ai} {l:Loc} {cs:ajT},fA τ e=Y (s,τf)->aX w τ l cs s τf (l.map λc=>(c.1,c.2+fi τ e)) ((cs.drop (fi τ e)).take τf.size)
 |.pr a f,0,s,τf,l,cs,d=>by simp only[fA,eT,h8] at d;obtain⟨rfl,rfl⟩:=d;simp_all [mT,aX,fi]
 |.pr a f,e+1,s,τf,l,cs,d=>by
  simp only[fA] at d;split at d
  ·rename_i c g;simp only[eT,h8] at d;obtain⟨rfl,rfl⟩:=d;have:=aX.EL (w:=w) (τ:=f) (s:=c.1) (τf:=c.2) (l:=l.map λc=>(c.1,c.2+a.size)) (cs:=cs.drop a.size) g;simp only[aX,fi];rw[r6] at this;cases l with
   |none=>grind
   |some h=>grind
  grind
 |.int _,_,_,_,_,_,b=>by cases b
 |.bool,_,_,_,_,_,b=>by cases b
 |.str,_,_,_,_,_,b=>by cases b
 |.a6 _ _,_,_,_,_,_,b=>by cases b
 |.osl _,_,_,_,_,_,b=>by cases b
 |.ptr _ _,_,_,_,_,_,b=>by cases b
 |.optr _,_,_,_,_,_,b=>by cases b
 |.st _,_,_,_,_,_,b=>by cases b
 |.nil,_,_,_,_,_,b=>by cases b
 |.eB,_,_,_,_,_,b=>by cases b
theorem eK.uniq:∀{p:bn aZ} {τ:ai} {e:τ.den} {c:ai} {f g:c.den},eK τ e p c f->eK τ e p c g->f=g
 |[],τ,_,_,_,_,a,b=>by grind [eK.gq]
 |s::p,τ,_,_,_,_,a,b=>by
  cases τ<;>cases s<;>simp only[eK] at a b
  case osl.idx=>
   obtain⟨i,h,a⟩:=a;obtain⟨j,d,b⟩:=b;rw[h] at d;obtain rfl:=gb d;exact a.uniq b
  case optr.deref=>exact eK.uniq (p:=p) a b
  case st.unst=>exact eK.uniq (p:=p) a b
  case pr.fst=>exact eK.uniq (p:=p) a b
  case pr.snd=>exact eK.uniq (p:=p) a b
def Yields (E:fk) (C:eW) (st:aO) (a:Act) (w:bD) (I:X->Prop) (rt:X->ajT) (fp:X->ajZ) (o:bS) (Q:al->bn (X×aK)->Prop):Prop:=
 ∃j d e i g f c,(bO a.eval o).run E.P w=.ok (.value j) d/\hl w d/\(∀b,I b->e b)/\(∀b,e b->I b\/(w.heap.size<=b/\b<d.heap.size))/\wS C st w d e c i g/\cQ (bb e C.B) d (c++st.h) (e8 c i rt) (e8 c g fp) f j/\Q f c
section
variable {E:fk} {C:eW} {st:aO} {a:Act} {w:bD} {I:X->Prop} {rt:X->ajT} {fp:X->ajZ} {o:bS} {Q:al->bn (X×aK)->Prop}
def Yields.pure {v:Value} (d:(bO a.eval o).run E.P w=.ok (.value v) w) (e:cQ (bb I C.B) w st.h rt fp V v) (c:Q V []):Yields E C st a w I rt fp o Q:=
 ⟨v,w,I,rt,fp,V,[],d,.refl w,λ_ b=>b,λ_ b=>.inl b,.nil,e,c⟩
def Yields.wp (t:cM C st a.tmps w I rt fp) (k:Yields E C st a w I rt fp o Q) {next:Act->bD->Prop} {j:b6->Act->bD->Prop} {f:X} (u:o.dst=Y f) (v:C.ok f) (x:∀b c e d,Q b c->e.defers=a.defers->gC C ⟨(f,b)::st.g,c++st.h⟩ e.tmps d->next e d):o.wp E.P a w next j:=by
 obtain⟨y,d,i,A,z,b,c,l,m,n,p,q,r,s⟩:=k;unfold aj9;rw[l];show next (a.put o.dst y) d
 rw[u];exact x b c _ _ s bo ⟨i,_,_,(t.ext m n p q).put v r⟩
def l0 (h:BinOp) (a:cr) (d:Z) (g:cr) (b:Z):hZ:=
 let c (i:Prop) (f:Z):hZ:=if a=g then .part Z (λc=>i/\f=c) (λc=>(.val (.int a) c,[])) else .bad
 let e (f:bA):hZ:=if a=g then .eV (.val .bool f) [] else .bad
 match h with
 |.add=>c True (a.wrap (d+b))
 |.sub=>c True (a.wrap (d-b))
 |.mul=>c True (a.wrap (d*b))
 |.quo=>c (b≠0) (a.wrap (d.tdiv b))
 |.rem=>c (b≠0) (d.tmod b)
 |.and=>c True (a.wrap (ch a.bits d&&&ch a.bits b).toNat)
 |.or=>c True (a.wrap (ch a.bits d|||ch a.bits b).toNat)
 |.xor=>c True (a.wrap (ch a.bits d^^^ch a.bits b).toNat)
 |.andNot=>c True (a.wrap (ch a.bits d&&&~~~ch a.bits b).toNat)
 |.shl=>.part Z (λc=>0<=b/\a.wrap (d*2^min b.toNat a.bits)=c) (λc=>(.val (.int a) c,[]))
 |.shr=>.part Z (λc=>0<=b/\d.fdiv (2^min b.toNat a.bits)=c) (λc=>(.val (.int a) c,[]))
 |.eql=>e (d==b)
 |.neq=>e (d !=b)
 |.lss=>e (bu (d<b))
 |.leq=>e (bu (d<=b))
 |.gtr=>e (bu (d>b))
 |.geq=>e (bu (d>=b))
def Hh (c:BinOp) (a b:al):hZ:=
 match a,b with
 |.val (.int d) a,.val (.int e) b=>l0 c d a e b
 |.val .bool a,.val .bool b=>match c with
  |.eql=>.eV (.val .bool (a==b)) []
  |.neq=>.eV (.val .bool (!(a==b))) []
  |_=>.bad
 |_,_=>.bad
theorem U8 {e:BinOp} {d g:cr} {n f:Z} (k:o.op=.binOp e x c h T) (l:a.eval c=.int d n) (m:a.eval h=.int g f) (b:(l0 e d n g f).K Q):Yields E C st a w I rt fp o Q:=by
 have j:∀w,(akS e x c h (.int d n) (.int g f)).run E.P w=.ok () w:=λw=>(by simp_all [akS]);have r:e=.shl->Yields E C st a w I rt fp o Q:=(by rintro rfl;simp only[l0] at b;obtain⟨i,⟨p,rfl⟩,b⟩:=b;exact .pure (v:=.int d _) (by simp[bO,k,l,m,j,aka,Op.shift,(aa:¬f<0)]) (.int d _) b);have s:e=.shr->Yields E C st a w I rt fp o Q:=(by rintro rfl;simp only[l0] at b;obtain⟨i,⟨p,rfl⟩,b⟩:=b;exact .pure (v:=.int d _) (by simp[bO,k,l,m,j,aka,Op.shift,(aa:¬f<0)]) (.int d _) b);by_cases q:d=g
 case neg=>
  cases e<;>simp only[l0,q,akT] at b
  case shl=>grind
  case shr=>grind
  all_goals exact b.elim
 subst q;cases e<;>simp only[l0,cg] at b
 case shl=>grind
 case shr=>grind
 case quo|rem=>
  obtain⟨i,⟨p,rfl⟩,b⟩:=b;exact .pure (v:=.int d _) (by simp_all [bO,aka,Op.intDiv]) (.int d _) b
 case add|sub|mul=>
  obtain⟨i,⟨_,rfl⟩,b⟩:=b;exact .pure (v:=.int d _) (by simp_all [bO,aka,Op.intArith]) (.int d _) b
 case and|or|xor|andNot=>
  obtain⟨i,⟨_,rfl⟩,b⟩:=b;exact .pure (v:=.int d _) (by simp_all [bY,bO,aka,Op.intBits]) (.int d _) b
 all_goals exact .pure (v:=.bool _) (by simp[bO,k,l,m,j,aka,Op.intCmp]) (.bool _) b
def run_equalIn_bool {a:b1} (w:bD) (d:X) (b c:bA) (e:a.underlying x=Y .bool):(ak3 (d+1) x (.bool b) (.bool c)).run a w=.ok (b==c) w:=by simp[ak3,b8 e]
theorem run_eql_bool {a:b1} (w:bD) (b c:bA) (d:a.underlying x=Y .bool):(aka .eql x (.bool b) (.bool c)).run a w=.ok (.bool (b==c)) w:=by simp_all [run_equalIn_bool,alM,alN,aka]
theorem run_neq_bool {a:b1} (w:bD) (b c:bA) (d:a.underlying x=Y .bool):(aka .neq x (.bool b) (.bool c)).run a w=.ok (.bool (!(b==c))) w:=by simp_all [run_equalIn_bool,alM,alN,aka]
theorem MF (s:cM C st a.tmps w I rt fp) {m:BinOp} (z:o.op=.binOp m x c h T) (y:∀i j:bA,(m=.eql\/m=.neq)->(aU st.g c=.val .bool i/\aU st.g h=.val .bool j)->E.P.underlying x=Y .bool) (d:(Hh m (aU st.g c) (aU st.g h)).K Q):Yields E C st a w I rt fp o Q:=by
 have e:=s.aU c;have f:=s.aU h;unfold Hh at d;split at d
 ·rename_i G J H L n p;rw[n] at e;rw[p] at f;obtain⟨b,l⟩:∃b,b=a.eval c:=⟨_,bo⟩;obtain⟨A,k⟩:∃b,b=a.eval h:=⟨_,bo⟩;rw[<-l] at e;rw[<-k] at f;cases e with|val q=>cases f with|val r=>
  obtain⟨_,rfl⟩:=q;obtain⟨_,rfl⟩:=r;exact U8 z l.symm k.symm d
 ·rename_i i j n p;have k:=y i j;have u:aU st.g c=.val .bool i/\aU st.g h=.val .bool j:=⟨n,p⟩;rw[n] at e;rw[p] at f;obtain⟨b,l⟩:∃b,b=a.eval c:=⟨_,bo⟩;obtain⟨A,t⟩:∃b,b=a.eval h:=⟨_,bo⟩;rw[<-l] at e;rw[<-t] at f;cases e with|val q=>cases f with|val r=>
  obtain⟨_,rfl⟩:=q;obtain⟨_,rfl⟩:=r;have F:a.eval c=.bool i:=l.symm;have D:a.eval h=.bool j:=t.symm;have B:∀w,(akS m x c h (.bool i) (.bool j)).run E.P w=.ok () w:=λw=>(by simp_all [akS]);split at d
  ·have:=k (.inl bo) u;exact .pure (v:=.bool _) (by simp_all [bY,b2,run_eql_bool,bO]) (.bool _) d
  ·have:=k (.inr bo) u;exact .pure (v:=.bool _) (by simp_all [bY,b2,run_neq_bool,bO]) (.bool _) d
  exact d.elim
 exact d.elim
end
end
section
section
variable {E:fk} {C:eW} {st:aO} {a:Act} {w:bD} {I:X->Prop} {rt:X->ajT} {fp:X->ajZ} {o:bS} {Q:al->bn (X×aK)->Prop}
theorem cM.notM (c:cM C st z w I rt fp) {id:X} (e:aq st.h id=Y P):∀a∈fp id,∀b,¬bb I C.B b a:=λa d b f=>by have:=(c.tree id P e).2.2 a d;grind [m8]
theorem cM.lj (e:cM C st z w I rt fp) {id:X} (f:aq st.h id=Y P) {p:bn aZ} {τ:ai} {i:τ.den} (l:eK P.1 P.2 p τ i) {c:Loc} (m:aX w P.1 bq (rt id) p d c g):∃_e:d=τ,∃a,aT (bb I C.B) w τ g i a/\pH w c g τ.size/\∀j∈a,j∈fp id:=by obtain⟨o,n,_⟩:=e.tree id P f;obtain⟨u,q,a,v,k,r,s,t,_⟩:=EM p (loc:=bq) o (λ_ _ b=>by cases b) n (λ_ _ b=>by cases b) (e.notM f) l;obtain⟨rfl,rfl,rfl⟩:=m.kR k;grind
def cM.R4 (e:cM C st z w I rt fp) {id:X} (i:aq st.h id=Y P) {b:Loc} (f:aX w P.1 bq (rt id) n d b g):g.length=d.size/\∀a o,b=Y (a,o)->fd w a o g:=f.at (e.tree id P i).1.len (λ_ _ c=>by cases c)
theorem ph {u:dh->X->Prop}:∀{p:bn aZ} {τ:ai} {E:Loc} {j:ajT} {m:τ.den} {g:ajZ} {c:ai} {F:Loc} {n:ajT},aT u w τ j m g->aX w τ E j p (.optr c) F n->∃d o e,n=[.pointer (Y ⟨d,o,bq⟩)]/\e.length=c.size/\fd w d o e
 |[],τ,_,_,_,_,_,_,_,a,b=>by obtain⟨rfl,rfl,rfl⟩:=aX.gq.1 b;obtain⟨d,o,g,e,q,_,t,h,_⟩:=a;grind
 |s::p,τ,_,j,m,g,_,_,_,a,b=>by
  cases τ<;>cases s<;>simp only[aX] at b
  case osl.idx c i=>
   obtain⟨d,o,N,J,e,rfl,r,t,h,l⟩:=b;obtain⟨I,K,f,a⟩:=a;simp only[hM,aj3,ca] at f;obtain⟨rfl,rfl,rfl⟩:=f;rcases a with⟨k,_⟩|⟨v,G,B,k,_,ay,O,P,H⟩
   ·cases k
   cases k;obtain⟨z,L,x,y⟩:=H i m[i] (B[i]'(by omega)) ac ac
   obtain rfl:=h.eq x aa;exact ph (p:=p) y l
  case optr.deref c=>
   obtain⟨d,o,e,rfl,t,h,l⟩:=b;obtain⟨v,G,g,z,f,_,M,C,_,D⟩:=a;simp only[hM,ak0,eT,akk,ca] at f;obtain⟨rfl,rfl⟩:=f;obtain rfl:=h.eq C aa;exact ph (p:=p) D l
  case st.unst c=>exact ph (p:=p) (τ:=c) a b
  case pr.fst t1 t2=>obtain⟨A,f2,_,q,_⟩:=a;exact ph (p:=p) (τ:=t1) q b
  case pr.snd t1 t2=>obtain⟨A,f2,_,_,r⟩:=a;exact ph (p:=p) (τ:=t2) r b
def gR (tt:bn (bG×ai)) (a:bG):bw ai:=match aq tt a with|some (.a6 _ b)=>Y b|_=>bq
def lI (tt:bn (bG×ai)) (a:bG):bw ai:=match aq tt a with|some (.st b)=>Y b|_=>bq
theorem gR.ok {a:bG} {e:ai} (c:gR E.tt a=Y e):∃d b,E.P.info? a=Y d/\E.P.underlying a=Y (.slice b)/\e9 E.P e b:=by
 unfold gR at c;split at c
 ·rename_i j k f;cases c;obtain⟨d,b,g,_,_,_,h,i⟩:=E.ok a _ f;grind
 grind
theorem lI.ok {a:bG} {d:ai} (c:lI E.tt a=Y d):∃b e,E.P.underlying a=Y (.struct b)/\iD E.P d b.toList 0 e:=by
 unfold lI at c;split at c
 ·rename_i k f;cases c;obtain⟨_,j,b,e,g,_,_,_,h,i,_⟩:=E.ok a _ f;grind
 grind
def vG (tt:bn (bG×ai)) (e:bn (X×aK)) (g:bG) (b:al):hZ:=
 match gR tt g with
 |none=>.bad
 |some _=>match b with
  |.val (.a6 _ _) a=>.eV (.val (.int .i64) (a.length:Z)) []
  |.dd (.slice bq 0 0)=>.eV (.val (.int .i64) (0:Z)) []
  |.ref id d=>match aq e id with
   |some ⟨c,b⟩=>match fb c d with
    |some (.osl f)=>.part (bn f.den) (λa=>eK c b d (.osl f) a) (λa=>(.val (.int .i64) (a.length:Z),[]))
    |_=>.bad
   |none=>.bad
  |.view _ _ i h=>.eV (.val (.int .i64) ((h-i:X):Z)) []
  |.app id d c j _=>match aq e id with
   |some ⟨k,b⟩=>.part (bn c.den) (λa=>eK k b d (.osl c) a) (λa=>(.val (.int .i64) ((a.length+j.length:X):Z),[]))
   |none=>.bad
  |_=>.bad
def yg (f:gR E.tt x=Y d) (g:o.op=.call {callee:=.builtin .len,args:=#[c],argTypes:=#[x]}) (h:a.eval c=.slice s b i):(bO a.eval o).run E.P w=.ok (.value (.int .i64 b)) w:=by obtain⟨k,j,_,e,_⟩:=gR.ok f;simp[bO,g,akC,invoke,akU,h,am7,b8 e,goInt]
theorem Yw (s:cM C st a.tmps w I rt fp) (j:o.op=.call {callee:=.builtin .len,args:=#[c],argTypes:=#[x]}) (b:(vG E.tt st.h x (aU st.g c)).K Q):Yields E C st a w I rt fp o Q:=by
 have d:=s.aU c;unfold vG at b;split at b
 ·exact b.elim
 rename_i T i;generalize f:a.eval c=U at d;split at b
 ·rename_i R D u e;rw[e] at d;cases d with|val B=>
  obtain⟨_,p,q,rfl,_⟩:=B;exact .pure (yg i j f) (.int _ _) b
 ·rename_i e;rw[e] at d;cases d;exact .pure (yg i j f) (.int _ _) b
 ·rename_i id t e;rw[e] at d;split at b
  ·rename_i G F l;split at b
   ·rename_i D O;obtain⟨u,m,b⟩:=b;cases d with|ref k n=>
    rw[l] at k;cases k;obtain⟨rfl,H,A,_⟩:=s.lj l m n;obtain⟨p,q,rfl,_⟩:=A;exact .pure (yg i j f) (.int _ _) b
   exact b.elim
  exact b.elim
 ·rename_i id t P M e;rw[e] at d;cases d with
  |mg=>exact .pure (yg i j f) (.int _ _) b
  |view k n=>exact .pure (yg i j f) (.int _ _) b
 ·rename_i id t G V S e;rw[e] at d;split at b
  ·rename_i ad F l;obtain⟨u,m,b⟩:=b;cases d with|app k N n y J L v=>
   rw[l] at k;cases k;obtain⟨p,q,r,_⟩:=v;simp only[hM,ca] at r;have z:=eK.uniq m y;subst z;rw[r] at f;have:=yg (w:=w) i j f;rw[hW] at this;exact .pure this (.int _ _) b
  exact b.elim
 exact b.elim
def aX.OV {j:Loc} {o a c:X} (e:i<a) (f:g.length=d.size) (h:fd w b (o+i*d.size) g):aX w (.osl d) j [.slice (Y ⟨b,o,bq⟩) a c] [.idx i] d (Y (b,o+i*d.size)) g:=⟨b,o,a,c,g,bo,e,f,h,aX.here⟩
def aX.Ia {e:Loc} {o:X} (a:g.length=d.size) (c:fd w b o g):aX w (.optr d) e [.pointer (Y ⟨b,o,bq⟩)] [.deref] d (Y (b,o)) g:=⟨b,o,g,bo,a,c,aX.here⟩
def vA (
 tt:bn (bG×ai)) (i:bn (X×aK)) (k:bG) (e d:al):hZ:=
 match gR tt k with
 |none=>.bad
 |some g=>match d with
  |.val (.int _) d=>match e with
   |.val (.a6 m b) n=>bif a9 g b then .part b.den (λh=>aj n d=Y h) (λh=>(.val (.ptr m b) (Y h),[])) else .bad
   |.ref id c=>match aq i id with
    |some ⟨f,e⟩=>match fb f c with
     |some (.osl b)=>bif a9 g b then .part (bn b.den×X) (λa=>eK f e c (.osl b) a.1/\d=(a.2:Z)/\a.2<a.1.length) (λa=>(.addr id (c++[.idx a.2]),[])) else .bad
     |_=>.bad
    |none=>.bad
   |.view id c j l=>match aq i id with
    |some ⟨f,e⟩=>match fb f c with
     |some (.osl b)=>bif a9 g b then .part (bn b.den×X) (λa=>eK f e c (.osl b) a.1/\d=(a.2:Z)/\a.2<l-j) (λa=>(.addr id (c++[.idx (j+a.2)]),[])) else .bad
     |_=>.bad
    |none=>.bad
   |_=>.bad
  |_=>.bad
def IV (l:gR E.tt x=Y r) (n:a9 r d=bp) (p:o.op=.indexAddr x h c) {e f g:X} (s:a.eval h=.slice (Y ⟨e,f,bq⟩) i g) (m:a.eval c=.int v b) (u:b<i):(bO a.eval o).run E.P w=.ok (.value (.pointer (Y ⟨e,f+b*d.size,bq⟩))) w:=by obtain⟨y,t,_,j,k⟩:=gR.ok l;have q:=(k.lay n).sizeOf w;have:(0:Z)<=(b:Z)/\(b:Z)<(i:Z):=⟨aa,aa⟩;simp[bO,p,s,m,Instr.indexAt,ak4,b8 j,this,q,akR];omega
theorem XO (B:cM C st a.tmps w I rt fp) {z:bP} (M:o.op=.indexAddr T z c) (b:(vA E.tt st.h T (aU st.g z) (aU st.g c)).K Q):Yields E C st a w I rt fp o Q:=by
 have k:=B.aU z;have L:=B.aU c;unfold vA at b;split at b
 ·exact b.elim
 rename_i U J;generalize N:a.eval z=d5 at k;generalize O:a.eval c=d6 at L;split at b
 case h_2=>exact b.elim
 rename_i ap P bl;rw[bl] at L;cases L with|val S=>
 obtain⟨_,rfl⟩:=S;split at b
 ·rename_i c1 f y q;cases d:a9 U f with
  |false=>rw[d] at b;exact b.elim
  |true=>
   rw[d] at b;obtain⟨V,cv,b⟩:=b;rw[q] at k;cases k with|val S=>
   obtain⟨_,ad,am,rfl,ay,av,R⟩:=S;obtain⟨ao,a3,a4⟩:=OB cv;rcases R with rfl|⟨A,u,rfl,bx,v⟩
   ·grind
   obtain⟨F,n,p,D⟩:=v _ _ a4;have co:a.eval c=.int ap (P.toNat:X):=(by rw[O];show akb ap P=_;grind);exact .pure (IV J d M N co a3) (.val (τ:=.ptr c1 f) (x:=Y V) (cs:=[.pointer (Y ⟨A,u+P.toNat*f.size,bq⟩)]) ⟨bo,A,_,F,bo,bx,n,p,D⟩) b
 ·rename_i id c2 q;split at b
  case h_2=>exact b.elim
  rename_i a0 V j;split at b
  case h_2=>exact b.elim
  rename_i f ci;cases d:a9 U f with
  |false=>rw[d] at b;exact b.elim
  |true=>
   rw[d] at b;obtain⟨⟨y,e⟩,⟨r,rfl,l⟩,b⟩:=b;simp only at r l b;rw[q] at k;cases k with|ref t s=>
   rw[j] at t;cases t;obtain⟨rfl,bs,i,_⟩:=B.lj j r s;obtain⟨ad,am,rfl,i⟩:=i;rcases i with⟨_,rfl,_⟩|⟨A,u,G,rfl,_,ay,av,R,v⟩
   ·grind
   obtain⟨F,n,p,D⟩:=v e y[e] (G[e]'(by omega)) ac ac
   exact .pure (IV J d M N O l) (.addr j (s.append (aX.OV l n p))) b
 ·rename_i id c2 m ds q;split at b
  case h_2=>exact b.elim
  rename_i a0 V j;split at b
  case h_2=>exact b.elim
  rename_i f ci;cases d:a9 U f with
  |false=>rw[d] at b;exact b.elim
  |true=>
   rw[d] at b;obtain⟨⟨y,e⟩,⟨r,rfl,l⟩,b⟩:=b;simp only at r l b;rw[q] at k;cases k with|mg=>omega|view t s d0 d1 d2=>
   rename_i A u d3 am;rw[j] at t;cases t;obtain⟨a1,bs,i,_⟩:=B.lj j r s;cases a1;obtain⟨ad,dl,an,i⟩:=i;simp only[hM,aj3,ca] at an;obtain⟨rfl,rfl,rfl⟩:=an;rcases i with⟨H,_⟩|⟨dg,d4,G,H,_,ay,av,R,v⟩
   ·cases H
   cases H;have ce:m+e<y.length:=aa;obtain⟨F,n,p,D⟩:=v (m+e) y[m+e] (G[m+e]'(by omega)) ac ac
   have:=IV (w:=w) J d M N O l;rw[aw aa,show u+m*f.size+e*f.size=u+(m+e)*f.size by grind] at this;exact .pure this (.addr j (s.append (aX.OV ce n p))) b
 exact b.elim
def aT.pure {h:dh->X->Prop} {w:bD}:∀{τ:ai} {i:ajT} {e:τ.den} {g:ajZ},τ.pure=bp->aT h w τ i e g->g=[]
 |.int _,_,_,_,_,b=>b.1
 |.bool,_,_,_,_,b=>b.1
 |.str,_,_,_,_,b=>b.1
 |.a6 _ _,_,_,_,_,b=>b.1
 |.ptr _ _,_,_,_,_,b=>b.1
 |.nil,_,_,_,_,b=>b.1
 |.st k,_,_,_,c,b=>aT.pure (τ:=k) c b
 |.pr a f,_,_,_,c,b=>by simp only[ai.pure,cE] at c;obtain⟨n,f2,rfl,j,d⟩:=b;rw[aT.pure (τ:=a) c.1 j,aT.pure (τ:=f) c.2 d];rfl
 |.osl _,_,_,_,c,_=>by cases c
 |.optr _,_,_,_,c,_=>by cases c
 |.e1 _ _,_,e,_,_,b=>by
  cases e with
  |none=>exact b.1
  |some o=>obtain⟨f,m,l,_,d,_⟩:=b;exact d
 |.fn _ _,_,_,_,_,b=>b.1
 |.eB,_,_,_,c,_=>by cases c
def v2 (d:ai) (e:d.den) (id:X) (c:bn aZ) (a:ai):hZ:=
 bif a.pure then .part a.den (λb=>eK d e c a b) (λb=>(.val a b,[])) else .eV (.ref id c) []
def oT:ai->bA
 |.st _|.pr _ _|.nil|.eB=>br
 |_=>bp
def o9:ai->bA
 |.nil=>bp
 |.pr a b=>oT a&&o9 b
 |_=>br
def AN:(d:ai)->d.den->bn al
 |.pr a c,b=>.val a b.1::AN c b.2
 |_,_=>[]
def o9.one {τ:ai} (a:oT τ=bp):τ.size=1/\∀cs,cV τ cs=cs.headD undef:=by cases τ<;>first|(cases a;done)|exact⟨bo,λ_=>rfl⟩
def On {g:dh->X->Prop} {w:bD} {h:bn (X×aK)} {rt:X->ajT} {fp:X->ajZ}:∀{t:ai} {c:ajT} {e:t.den},o9 t=bp->aT g w t c e []->(AN t e).length=c.length/\∀(b:X) (a:al) (f:Value),(AN t e)[b]?=Y a->c[b]?=Y f->cQ g w h rt fp a f
 |.nil,c,e,_,j=>by obtain rfl:=j.2;exact⟨bo,λb a f d _=>by cases d⟩
 |.pr a o,c,e,i,j=>by
  simp only[o9,cE] at i;obtain⟨v,f2,r,d,k⟩:=j;obtain⟨rfl,rfl⟩:=am8.1 r.symm;obtain⟨ao,q⟩:=o9.one i.1;have m:=d.len;rw[ao] at d k m;cases c with
  |nil=>cases m
  |cons f c=>
   obtain⟨ay,s⟩:=On (t:=o) i.2 k;refine⟨b4 (· +1) ay,λb p u l n=>?_⟩;cases b with
   |zero=>
    cases l;cases n;have:=cQ.val (M:=g) (w:=w) (h:=h) (rt:=rt) (fp:=fp) d;rw[q] at this;exact this
   |succ b=>exact s b p u l n
def vW:(t:ai)->t.den->al
 |.fn b t,a=>bif o9 t then .da b (AN t a) else .val (.fn b t) a
 |t,a=>.val t a
def acI {w:bD} {rt:X->ajT} {fp:X->ajZ} {b:d.den} (j:aT e w d g b []):cQ e w u rt fp (vW d b) (cV d g):=by
 cases d<;>first|exact .val j|skip
 rename_i c d;cases i:o9 d with
 |false=>
  have:vW (.fn c d) b=.val (.fn c d) b:=(by simp only[vW,i,bR]);rw[this];exact .val j
 |true=>
  have:vW (.fn c d) b=.da c (AN d b):=(by simp only[vW,i,bH]);rw[this];obtain⟨_,o,rfl,f⟩:=j;obtain⟨ay,m⟩:=On (h:=u) (rt:=rt) (fp:=fp) i f;exact .da (by simpa using ay) (λl a n k f=>m l a n k (by simpa using f))
def vI (tt:bn (bG×ai)) (f:bn (X×aK)) (g:bG) (c:al):hZ:=
 match aq tt g with
 |none=>.bad
 |some e=>match c with
  |.val (.ptr _ a) (Y i)=>bif a9 e a then .eV (vW a i) [] else .bad
  |.hz h=>bif oT e then .eV h [] else .bad
  |.addr id b=>match aq f id with
   |some ⟨d,c⟩=>match fb d b with
    |some a=>bif a9 e a then v2 d c id b a else .bad
    |none=>.bad
   |none=>.bad
  |.ref id b=>match aq f id with
   |some ⟨d,c⟩=>match fb d b with
    |some (.optr a)=>bif a9 e a then v2 d c id (b++[.deref]) a else .bad
    |_=>.bad
   |none=>.bad
  |_=>.bad
theorem Jl (e:aq E.tt x=Y r) (j:a9 r d=bp) (k:o.op=.load x c) (l:a.eval c=.pointer (Y ⟨b,i,bq⟩)) (f:fd w b i g) (h:g.length=d.size):(bO a.eval o).run E.P w=.ok (.value (cV d g)) w:=by have:=KU ((E.ok x r e).lay j) f h;simp_all [bO,aog,alo]
theorem KH (l:cM C st a.tmps w I rt fp) {id:X} {k:r.den} (j:aq st.h id=Y ⟨r,k⟩) {p:Loc} (e:aX w r bq (rt id) n d p g) (f:(bO a.eval o).run E.P w=.ok (.value (cV d g)) w) (b:(v2 r k id n d).K Q):Yields E C st a w I rt fp o Q:=by
 unfold v2 at b;cases c:d.pure with
 |true=>
  rw[c] at b;obtain⟨s,m,b⟩:=b;obtain⟨_,q,i,_⟩:=l.lj j m e;have:=i.pure c;subst this;exact .pure f (.val i) b
 |false=>
  rw[c] at b;exact .pure f (.ref j e) b
theorem YC (p:cM C st a.tmps w I rt fp) (z:o.op=.load x c) (d:(vI E.tt st.h x (aU st.g c)).K Q):Yields E C st a w I rt fp o Q:=by
 have f:=p.aU c;unfold vI at d;split at d
 ·exact d.elim
 rename_i n r;generalize A:a.eval c=u at f;split at d
 ·rename_i a0 m G i;cases e:a9 n m with
  |false=>rw[e] at d;exact d.elim
  |true=>
   rw[e] at d;rw[i] at f;cases f with|val U=>
   obtain⟨_,q,O,H,rfl,ay,F,S,T⟩:=U;exact .pure (Jl r e z A S F) (acI T) d
 ·rename_i am i;cases s:oT n with
  |false=>rw[s] at d;exact d.elim
  |true=>
   rw[s] at d;rw[i] at f;cases f with|hz ap L an M=>
   obtain⟨ao,J⟩:=o9.one s;rename_i u q;have:=KU (E.ok x n r) (cs:=[u]) (w:=w) (b:=q) (o:=0) (λD a1 B=>by
    cases D with
    |zero=>cases B;exact L
    |succ D=>cases B) (by rw[ao];rfl)
   have N:(bO a.eval o).run E.P w=.ok (.value u) w:=(by rw[J] at this;simp_all [bO,aog,alo]);exact .pure N M d
 ·rename_i id R i;split at d
  case h_2=>exact d.elim
  rename_i V G k;split at d
  case h_2=>exact d.elim
  rename_i m t;cases e:a9 n m with
  |false=>rw[e] at d;exact d.elim
  |true=>
   rw[e] at d;rw[i] at f;cases f with|addr l j=>
   rw[k] at l;cases l;have:=j.ty;rw[t] at this;cases this;obtain⟨ay,F⟩:=p.R4 k j;grind [KH,Jl]
 ·rename_i id R i;split at d
  case h_2=>exact d.elim
  rename_i V G k;split at d
  case h_2=>exact d.elim
  rename_i m t;cases e:a9 n m with
  |false=>rw[e] at d;exact d.elim
  |true=>
   rw[e] at d;rw[i] at f;cases f with|ref l j=>
   rename_i a3 av ad;rw[k] at l;cases l;have:=j.ty;rw[t] at this;cases this;obtain⟨q,O,H,rfl,v,y⟩:=ph (p.tree id _ k).1 j;exact KH p k (j.append (aX.Ia v y)) (Jl r e z A y v) d
 exact d.elim
def vu (tt:bn (bG×ai)) (g:bn (X×aK)) (h:bG) (k:al) (c:X):hZ:=
 match lI tt h with
 |none=>.bad
 |some e=>match k with
  |.val (.ptr i (.st a)) (Y l)=>bif a9 e a then match rj a l c with
   |some ⟨j,m⟩=>.eV (.val (.ptr i j) (Y m)) []
   |none=>.bad
   else .bad
  |.ref id b=>match aq g id with
   |some ⟨f,_⟩=>match fb f b with
    |some (.optr (.st a))=>bif a9 e a then match fA a c with
     |some (d,_)=>.eV (.addr id (b++(.deref::.unst::d))) []
     |none=>.bad
     else .bad
    |_=>.bad
   |none=>.bad
  |.addr id b=>match aq g id with
   |some ⟨f,_⟩=>match fb f b with
    |some (.st a)=>bif a9 e a then match fA a c with
     |some (d,_)=>.eV (.addr id (b++(.unst::d))) []
     |none=>.bad
     else .bad
    |_=>.bad
   |none=>.bad
  |_=>.bad
theorem IA {g:ai} (m:lI E.tt x=Y g) (q:a9 g d=bp) (u:fA d b=Y (n,r)) (s:o.op=.fieldAddr x c b) {f:X} (v:a.eval c=.pointer (Y ⟨i,f,bq⟩)):(bO a.eval o).run E.P w=.ok (.value (.pointer (Y ⟨i,f+fi d b,bq⟩))) w:=by obtain⟨j,A,k,l⟩:=lI.ok m;obtain⟨h,z,t,e⟩:=IB (iD.lay q l) u;have y:r.size≠0:=(by have:=e.pos;omega);have p:j[b]?=Y h:=(by grind);simp[bO,s,v,Instr.fieldAt,b8 k,p,alo,fieldPlace,e.sizeOf,y,akR,t]
theorem W3 (G:cM C st a.tmps w I rt fp) (y:o.op=.fieldAddr T c b) (d:(vu E.tt st.h T (aU st.g c) b).K Q):Yields E C st a w I rt fp o Q:=by
 have m:=G.aU c;unfold vu at d;split at d
 ·exact d.elim
 rename_i D v;generalize A:a.eval c=a0 at m;split at d
 ·rename_i U e M r;cases i:a9 D e with
  |false=>rw[i] at d;exact d.elim
  |true=>
   rw[i] at d;simp only[bH] at d;split at d
   case h_2=>exact d.elim
   rename_i n ap H;rw[r] at m;cases m with|val am=>
   obtain⟨_,f,j,u,rfl,ay,av,ad,J⟩:=am;obtain⟨t,k⟩:=IE H;obtain⟨L,an⟩:=ID (τ:=e) J H;have R:=J.len;simp only[ai.size] at R L an;exact .pure (IA v i k y A) (.val (τ:=.ptr U n) (x:=Y ap) (cs:=[.pointer (Y ⟨f,j+fi e b,bq⟩)]) ⟨bo,f,_,_,bo,ay,by grind,ad.drop.take,L⟩) d
 ·rename_i id V r;split at d
  case h_2=>exact d.elim
  rename_i N M q;split at d
  case h_2=>exact d.elim
  rename_i e z;cases i:a9 D e with
  |false=>rw[i] at d;exact d.elim
  |true=>
   rw[i] at d;simp only[bH] at d;split at d
   case h_2=>exact d.elim
   rename_i t n k;rw[r] at m;cases m with|ref s p=>
   rw[q] at s;cases s;have:=p.ty;rw[z] at this;cases this;obtain⟨f,j,u,rfl,O,P⟩:=ph (G.tree id _ q).1 p;rename_i S;have B:aX w (.optr (.st e)) S [.pointer (Y ⟨f,j,bq⟩)] (.deref::.unst::t) n (Y (f,j+fi e b)) ((u.drop (fi e b)).take n.size):=⟨f,j,u,bo,O,P,aX.EL (l:=Y (f,j)) k⟩;exact .pure (IA v i k y A) (.addr q (p.append B)) d
 ·rename_i id V r;split at d
  case h_2=>exact d.elim
  rename_i N M q;split at d
  case h_2=>exact d.elim
  rename_i e z;cases i:a9 D e with
  |false=>rw[i] at d;exact d.elim
  |true=>
   rw[i] at d;simp only[bH] at d;split at d
   case h_2=>exact d.elim
   rename_i t n k;rw[r] at m;cases m with|addr s p=>
   rw[q] at s;cases s;have:=p.ty;rw[z] at this;cases this;rename_i f j F;have B:aX w (.st e) (Y (f,j)) F (.unst::t) n (Y (f,j+fi e b)) ((F.drop (fi e b)).take n.size):=aX.EL (l:=Y (f,j)) k;exact .pure (IA v i k y A) (.addr q (p.append B)) d
 exact d.elim
def x2 (
 tt:bn (bG×ai)) (i:bn (X×aK)) (h:bG) (c:al) (d:X):hZ:=
 match lI tt h with
 |none=>.bad
 |some f=>match c with
  |.val (.st a) k=>bif a9 f a then match rj a k d with
   |some ⟨b,l⟩=>.eV (.val b l) []
   |none=>.bad
   else .bad
  |.ref id e=>match aq i id with
   |some ⟨g,c⟩=>match fb g e with
    |some (.st a)=>bif a9 f a then match fA a d with
     |some (j,b)=>v2 g c id (e++(.unst::j)) b
     |none=>.bad
     else .bad
    |_=>.bad
   |none=>.bad
  |_=>.bad
theorem Om {j:ai} (q:lI E.tt x=Y j) (t:a9 j d=bp) (v:fA d b=Y (n,r)) (u:o.op=.field x c b) (y:a.eval c=cV (.st d) g) (B:fi d b+r.size<=g.length):(bO a.eval o).run E.P w=.ok (.value (cV r ((g.drop (fi d b)).take r.size))) w:=by
 obtain⟨k,G,m,p⟩:=lI.ok q;obtain⟨f,C,i,e⟩:=IB (iD.lay t p) v;have F:=e.pos;have s:k[b]?=Y f:=(by grind);simp only[mW] at i;have z:a.eval c=.agg g.toArray:=y;have A:(part f.type g.toArray f.offset).run E.P w=.ok (cV r ((g.drop (fi d b)).take r.size)) w:=by
  simp only[part,bY,e.isAgg,b2,i];cases h:pd r with
  |true=>
   rw[F1 h];simp only[cg,bY,e.sizeOf,b2,ct];grind
  |false=>
   have l:=Kk e h;rw[FZ h,l];have D:fi d b<g.length:=aa;have:(g.drop (fi d b)).take 1=[g[fi d b]]:=(by grind [alO]);simp_all
 simp[bO,u,z,Instr.field,b8 m,s,asAgg,A]
theorem W5 (m:cM C st a.tmps w I rt fp) (u:o.op=.field x c b) (d:(x2 E.tt st.h x (aU st.g c) b).K Q):Yields E C st a w I rt fp o Q:=by
 have j:=m.aU c;unfold x2 at d;split at d
 ·exact d.elim
 rename_i D s;generalize y:a.eval c=P at j;split at d
 ·rename_i f J l;cases e:a9 D f with
  |false=>rw[e] at d;exact d.elim
  |true=>
   rw[e] at d;simp only[bH] at d;split at d
   case h_2=>exact d.elim
   rename_i q R t;rw[l] at j;cases j with|val A=>
   obtain⟨B,i⟩:=IE t;obtain⟨H,O⟩:=ID (τ:=f) A t;have G:=A.len;simp only[ai.size] at G;exact .pure (Om s e i u y aa) (.val H) d
 ·rename_i id M l;split at d
  case h_2=>exact d.elim
  rename_i L J p;split at d
  case h_2=>exact d.elim
  rename_i f F;cases e:a9 D f with
  |false=>rw[e] at d;exact d.elim
  |true=>
   rw[e] at d;simp only[bH] at d;split at d
   case h_2=>exact d.elim
   rename_i B q i;rw[l] at j;cases j with|ref v n=>
   rename_i S z r;rw[p] at v;cases v;have:=n.ty;rw[F] at this;cases this;obtain⟨ay,N⟩:=m.R4 p n;have k:aX w (.st f) z r (.unst::B) q (z.map λk=>(k.1,k.2+fi f b)) ((r.drop (fi f b)).take q.size):=aX.EL i;exact KH m p (n.append k) (Om s e i u y (by rw[ay];exact x3 i)) d
 exact d.elim
def vQ (f:bn (X×aK)) (b:al):hZ:=
 match b with
 |.val (.ptr h d) b=>.part d.den (λc=>b=Y c) (λc=>(.val (.ptr h d) (Y c),[]))
 |.ref id a=>match aq f id with
  |some ⟨i,_⟩=>match fb i a with
   |some (.optr _)=>.eV (.ref id a) []
   |_=>.bad
  |none=>.bad
 |.addr id a=>.eV (.addr id a) []
 |.da e g=>.eV (.da e g) []
 |_=>.bad
theorem Zn (p:cM C st a.tmps w I rt fp) (M:o.op=.nilCheck c) (b:(vQ st.h (aU st.g c)).K Q):Yields E C st a w I rt fp o Q:=by
 have d:=p.aU c;unfold vQ at b;generalize N:a.eval c=F at d;split at b
 ·rename_i u l m e;obtain⟨m,rfl,b⟩:=b;rw[e] at d;cases d with|val D=>
  obtain⟨_,f,k,n,rfl,ay,z,A,B⟩:=D;exact .pure (v:=.pointer (Y ⟨f,k,bq⟩)) (by simp_all [bO,cV]) (.val (τ:=.ptr u l) (x:=Y m) (cs:=[.pointer (Y ⟨f,k,bq⟩)]) ⟨bo,f,k,n,bo,ay,z,A,B⟩) b
 ·rename_i id y e;split at b
  case h_2=>exact b.elim
  rename_i G m j;split at b
  case h_2=>exact b.elim
  rename_i l t;rw[e] at d;cases d with|ref q i=>
  rw[j] at q;cases q;have:=i.ty;rw[t] at this;cases this;obtain⟨f,k,n,rfl,H,J⟩:=ph (p.tree id _ j).1 i;exact .pure (v:=.pointer (Y ⟨f,k,bq⟩)) (by simp_all [bO,cV]) (.ref (τ':=.optr l) j i) b
 ·rename_i id y e;rw[e] at d;cases d with|addr j i=>
  exact .pure (by simp_all [bO]) (.addr j i) b
 ·rename_i L O e;rw[e] at d;cases d with|da s r=>
  exact .pure (by simp_all [bO]) (.da s r) b
 exact b.elim
def sq (d:bw al) (b a:X):Prop:=
 match d with
 |none=>a=b
 |some (.val (.int _) c)=>c=(a:Z)
 |some _=>b7
def wi (tt:bn (bG×ai)) (k:bn (X×aK)) (j:bG) (d:al) (g f:bw al):hZ:=
 match gR tt j with
 |none=>.bad
 |some h=>match d with
  |.val (.a6 l b) e=>bif a9 h b then
   .part et (λa=>sq g 0 a.1/\sq f e.length a.2/\a.1<=a.2/\a.2<=e.length) (λa=>(.val (.a6 l b) ((e.take a.2).drop a.1),[])) else .bad
  |.ref id c=>match aq k id with
   |some ⟨i,d⟩=>match fb i c with
    |some (.osl b)=>bif a9 h b then
     .part (bn b.den×X×X) (λa=>eK i d c (.osl b) a.1/\sq g 0 a.2.1/\sq f a.1.length a.2.2/\a.2.1<=a.2.2/\a.2.2<=a.1.length) (λa=>(.view id c a.2.1 a.2.2,[])) else .bad
    |_=>.bad
   |none=>.bad
  |_=>.bad
def Hl (a:Act) (e:ajQ) (c b:X):Prop:=
 match e with
 |none=>b=c
 |some f=>∃d,a.eval f=.int d b
theorem K4 (p:gR E.tt x=Y r) (t:a9 r d=bp) {j f:ajQ} (u:o.op=.slice x c j f bq) {g e:X} (y:a.eval c=.slice s g e) (k:Hl a j 0 i) (h:Hl a f g b) (D:i<=b) (F:b<=e):(bO a.eval o).run E.P w=.ok (.value (.slice (if e=i then s else s.map (·.add (i*d.size))) (b-i) (e-i))) w:=by
 obtain⟨H,B,_,m,n⟩:=gR.ok p;have v:=(n.lay t).sizeOf w;have ao:(0:Z)<=(b:Z)/\(b:Z)<=(e:Z):=⟨aa,aa⟩;have C:(0:Z)<=(i:Z)/\(i:Z)<=(b:Z):=⟨aa,aa⟩;have l:(alP bp g e (j.map a.eval) (f.map a.eval) bq).run E.P w=.ok (i,b,e) w:=by
  cases j with
  |none=>
   obtain rfl:i=0:=k;cases f with
   |none=>obtain rfl:b=g:=h;simp[alP]
   |some A=>obtain⟨z,q⟩:=h;simp_all [alP,am9,ak4]
  |some J=>
   obtain⟨I,G⟩:=k;cases f with
   |none=>obtain rfl:b=g:=h;simp_all [alP,am9,ak4]
   |some A=>
    obtain⟨z,q⟩:=h;simp_all [alP,am9,ak4]
 simp[bO,u,y,Instr.sliceAt,Instr.slice,b8 m,l,v]
theorem xf (h:cM C st a.tmps w I rt fp) {d:ajQ} (c:sq (d.map (aU st.g)) b i):Hl a d b i:=by
 cases d with
 |none=>exact c
 |some f=>
  have:=h.aU f;simp only[jv,sq] at c;split at c
  ·grind
  ·rename_i k m e;simp only[eT] at e;rw[e] at this;subst c;generalize j:a.eval f=n at this;cases this with|val l=>obtain⟨_,rfl⟩:=l;exact⟨k,j⟩
  grind
theorem aeJ (e:cM C st a.tmps w I rt fp) {L y:ajQ} (z:o.op=.slice T c L y bq) (b:(wi E.tt st.h T (aU st.g c) (L.map (aU st.g)) (y.map (aU st.g))).K Q):Yields E C st a w I rt fp o Q:=by
 have r:=e.aU c;unfold wi at b;split at b
 ·exact b.elim
 rename_i O v;generalize D:a.eval c=ci at r;split at b
 ·rename_i ad i F u;cases f:a9 O i with
  |false=>rw[f] at b;exact b.elim
  |true=>
   rw[f] at b;obtain⟨⟨d,m⟩,⟨j,k,l,s⟩,b⟩:=b;simp only at j k l s b;rw[u] at r;cases r with|val ap=>
   obtain⟨_,P,q,rfl,ay,M,N⟩:=ap;have t:=K4 (w:=w) v f z D (xf e j) (xf e k) l aa;have V:((F.take m).drop d).length=m-d:=(by grind);refine .pure t (.val (τ:=.a6 ad i) (x:=(F.take m).drop d) (cs:=[_]) ⟨bo,_,q-d,by rw[V],aa,?_,?_⟩) b
   ·intro a4;by_cases bl:q=d
    ·omega
    simp_all
   by_cases bs:m=d
   ·grind
   right;rcases N with rfl|⟨p,n,rfl,R,an⟩
   ·grind
   refine⟨p,n+d*i.size,by rw[aw aa];simp[akR],R,λce av y=>?_⟩;grind
 ·rename_i id am u;split at b
  case h_2=>exact b.elim
  rename_i a0 av B;split at b
  case h_2=>exact b.elim
  rename_i i bx;cases f:a9 O i with
  |false=>rw[f] at b;exact b.elim
  |true=>
   rw[f] at b;obtain⟨⟨F,d,m⟩,⟨G,j,k,l,s⟩,b⟩:=b;simp only at G j k l s b;rw[u] at r;cases r with|ref J H=>
   rw[B] at J;cases J;obtain⟨rfl,a1,A,_⟩:=e.lj B G H;obtain⟨P,q,rfl,A⟩:=A;rcases A with⟨rfl,rfl,rfl,_⟩|⟨p,n,a3,rfl,_,ay,M,N,an⟩
   ·have S:m=0:=(by grind);subst S;have U:d=0:=aa;subst U;exact .pure (K4 (w:=w) v f z D (xf e j) (xf e k) (bd _) (bd _)) (.mg id am) b
   have t:=K4 (w:=w) v f z D (xf e j) (xf e k) l aa;have:(if q=d then Y (⟨p,n,bq⟩:Addr) else(Y (⟨p,n,bq⟩:Addr)).map (·.add (d*i.size)))=Y ⟨p,if q=d then n else n+d*i.size,bq⟩:=(by grind [akR]);rw[this] at t;exact .pure t (.view B H l s M) b
 exact b.elim
end
end
section
def iM:(i:ai)->ajT->bw i.den
 |.int d,b=>match b with
  |[.int e n]=>if d=e then Y n else bq
  |_=>bq
 |.bool,b=>match b with
  |[.bool c]=>Y c
  |_=>bq
 |.str,b=>match b with
  |[.string s]=>Y s
  |_=>bq
 |.a6 _ _,b=>match b with
  |[.slice bq 0 0]=>Y []
  |_=>bq
 |.osl _,b=>match b with
  |[.slice bq 0 0]=>Y []
  |_=>bq
 |.ptr _ _,b=>match b with
  |[.pointer bq]=>Y bq
  |_=>bq
 |.st f,b=>iM f b
 |.pr a c,b=>match iM a (b.take a.size),iM c (b.drop a.size) with
  |some g,Y h=>Y (g,h)
  |_,_=>bq
 |.nil,b=>match b with
  |[]=>Y ()
  |_=>bq
 |.optr _,_=>bq
 |.eB,_=>bq
 |.mp _,_=>bq
 |.e1 _ _,_=>bq
 |.fn _ _,_=>bq
theorem pV {M:dh->X->Prop} {w:bD}:∀{τ:ai} {d:ajT} {c:τ.den},iM τ d=Y c->aT M w τ d c []
 |.int j,d,c,b=>by
  simp only[iM] at b;split at b
  ·split at b
   ·rename_i f;cases b;subst f;exact⟨bo,bo⟩
   grind
  grind
 |.bool,d,c,b=>by simp only[iM] at b;split at b<;>cases b;exact⟨bo,bo⟩
 |.str,d,c,b=>by simp only[iM] at b;split at b<;>cases b;exact⟨bo,bo⟩
 |.a6 _ _,d,c,b=>by simp only[iM] at b;split at b<;>cases b;exact⟨bo,bq,0,bo,bd _,λ_=>rfl,.inl bo⟩
 |.osl _,d,c,b=>by simp only[iM] at b;split at b<;>cases b;exact⟨bq,0,bo,.inl ⟨bo,bo,bo,bo⟩⟩
 |.ptr _ _,d,c,b=>by simp only[iM] at b;split at b<;>cases b;exact⟨bo,bo⟩
 |.st i,d,c,b=>pV (τ:=i) (by grind [iM])
 |.pr a e,d,c,b=>by
  simp only[iM] at b;split at b
  ·rename_i c k g h;cases b;exact⟨[],[],bo,pV (τ:=a) g,pV (τ:=e) h⟩
  grind
 |.nil,d,c,b=>by simp only[iM] at b;split at b<;>cases b;exact⟨bo,bo⟩
 |.optr _,d,c,b=>by grind [iM]
 |.eB,d,c,b=>by grind [iM]
 |.mp _,d,c,b=>by grind [iM]
 |.e1 _ _,d,c,b=>by grind [iM]
 |.fn _ _,d,c,b=>by grind [iM]
theorem Oo (d:X):∀(e:ajT) (b:X) (a:ajR),let f:=(e.zipIdx b).foldl (λa (h:Value×X)=>a.setIfInBounds (d+h.2) h.1) a
 f.size=a.size/\(∀c,c<d+b\/d+b+e.length<=c->f[c]?=a[c]?)/\(d+b+e.length<=a.size->∀c g,e[c]?=Y g->f[d+b+c]?=Y g)
 |[],b,a=>⟨bo,λ_ _=>rfl,λ_ c g i=>by grind⟩
 |x::e,b,a=>by obtain⟨j,k,l⟩:=Oo d e (b+1) (a.setIfInBounds (d+b) x);grind [List.zipIdx_cons]
theorem AK (k:X->bw et):∀(j:bn (X×Value)) (c:ajR),(∀a∈j,∃f b,k a.1=Y (f,b)/\a.2.cells.size=b/\f+b<=c.size)->(j.Pairwise λa g=>∀o b m q,k a.1=Y (o,b)->k g.1=Y (m,q)->o+b<=m\/m+q<=o)->∃g,aoh k c j=Y g/\g.size=c.size/\(∀d,(∀a∈j,∀o b,k a.1=Y (o,b)->d<o\/o+b<=d)->g[d]?=c[d]?)/\(∀a∈j,∀o b,k a.1=Y (o,b)->∀d e,a.2.cells[d]?=Y e->g[o+d]?=Y e)
 |[],c,_,_=>⟨c,bo,bo,λ_ _=>rfl,λa h=>by cases h⟩
 |(i,e)::j,c,v,r=>by
  obtain⟨f,b,t,x,D⟩:=v (i,e) ac;simp only at t x;rw[nm] at r;have w:e.cells.zipIdx.foldl (λl (a:Value×X)=>l.setIfInBounds (f+a.2) a.1) c=(e.cells.toList.zipIdx 0).foldl (λl (a:Value×X)=>l.setIfInBounds (f+a.2) a.1) c:=(by rw[<-Array.foldl_toList,Array.toList_zipIdx]);obtain⟨n,f2,p⟩:=Oo f e.cells.toList 0 c;rw[<-w] at n f2 p;simp only[Array.length_toList] at f2 p;generalize A:e.cells.zipIdx.foldl (λl (a:Value×X)=>l.setIfInBounds (f+a.2) a.1) c=u at n f2 p;obtain⟨g,E,y,z,aL⟩:=AK k j u (λa h=>by
   grind) r.2
  refine⟨g,?_,by rw[y,n],λd s=>?_,λa h m q B d F C=>?_⟩
  ·grind [aoh,decide]
  ·rw[z d (λa h=>s a (g3 _ h)),f2 d (by have:=s (i,e) ac f b t;omega)]
  rcases fG.1 h with rfl|h
  ·grind
  grind
section
variable {E:fk} {C:eW} {st:aO} {a:Act} {w:bD} {I:X->Prop} {rt:X->ajT} {fp:X->ajZ} {o:bS} {Q:al->bn (X×aK)->Prop}
theorem fd.alloc {w:bD} {c:ajR} {e:bG} {o:X} {d:ajT} (f:∀a b,d[a]?=Y b->c[o+a]?=Y b):fd (w.alloc (.cells c e)) w.heap.size o d:=λa b g=>by simp_all
theorem iE.alloc {w:bD} {a:ajR} {c:bG} {d b:X} (e:b<=a.size):iE (w.alloc (.cells a c)) w.heap.size d b:=λg _ f=>by grind [World.cell?_alloc_new,World.frozen?_alloc_new]
theorem Yields.new {d:X} {t:aK} {cs:ajT} {f:ajZ} {cells:ajR} {T:bG} (k:aq st.h d=bq) (e:cM C st a.tmps w I rt fp) (n:(bO a.eval o).run E.P w=.ok (.value R) (w.alloc (.cells cells T))) (q:R=cV t.1 cs) (p:aT (bb I C.B) (w.alloc (.cells cells T)) t.1 cs t.2 f) (i:∀c∈f,c=w.heap.size) (l:f.Nodup) (m:Q (.ref d []) [(d,t)]):Yields E C st a w I rt fp o Q:=by
 refine⟨R,_,I,λ_=>cs,λ_=>f,.ref d [],[(d,t)],n,.alloc w _,λ_ b=>b,λ_ b=>.inl b,.one k p l (λc g=>?_),?_,m⟩
 ·rw[i c g];exact⟨bd _,ac,λb=>by have:=e.ib _ (.inl b);omega⟩
 rw[q];have j:aq ([(d,t)]++st.h) d=Y t:=(by rw[zi,de,ax bo]);refine .ref (t:=t) (τ':=t.1) (loc:=bq) j ?_;grind [aX.here,de,e8]
def vK (tt:bn (bG×ai)) (g:bn (X×ai)) (h:bn (X×aK)) (b:X) (f:bG) (e d:al):hZ:=
 match gR tt f,aq g b,aq h b with
 |some i,Y (.osl c),bq=>match mi c,e,d with
  |some j,.val (.int _) e,.val (.int _) d=>bif a9 i c&&b3 c.size 2000 then
   .part et (λa=>e=(a.1:Z)/\d=(a.2:Z)/\a.1<=a.2/\a.2<=hB) (λa=>(.ref b [],[(b,⟨.osl c,bJ a.1 j⟩)])) else .bad
  |_,_,_=>.bad
 |_,_,_=>.bad
theorem YR (a:ajR) (d b c:X) (e:Value) (_hz:0<a.size) (h:a[c]?=Y e) (g:b<d):(ana a (d*a.size))[b*a.size+c]?=Y e:=by have i:c<a.size:=(rV.1 h).1;have f:(b+1)*a.size<=d*a.size:=hR _ g;rw[kq,jL] at f;grind [alQ,Nat.add_mul_mod_self_right,Nat.mod_eq_of_lt,ana]
theorem YT (p:cM C st a.tmps w I rt fp) {m:bP} (V:o.op=.makeSlice x m c) (e:(vK E.tt l st.h b x (aU st.g m) (aU st.g c)).K Q):Yields E C st a w I rt fp o Q:=by
 have r:=p.aU m;have q:=p.aU c;unfold vK at e;split at e
 case h_2=>exact e.elim
 rename_i bs v R ci U;split at e
 case h_2=>exact e.elim
 rename_i ce a1 d0 a0 ds an J H;cases j:(a9 bs v&&b3 v.size 2000) with
 |false=>rw[j] at e;exact e.elim
 |true=>
  rw[j] at e;simp only[cE] at j;obtain⟨⟨n,i⟩,⟨rfl,rfl,M,A⟩,e⟩:=e;simp only at M A e;have c2:=gL j.2;rw[J] at r;rw[H] at q;generalize am:a.eval m=d4 at r;generalize ad:a.eval c=d3 at q;cases r with|val a4=>cases q with|val bl=>
  obtain⟨_,rfl⟩:=a4;obtain⟨_,rfl⟩:=bl;obtain⟨ap,y,_,N,O⟩:=gR.ok R;have D:=O.lay j.1;obtain⟨t,k,ay,a3,d1,G⟩:=wv D an;obtain⟨dl,_,u,_⟩:=D.info;have z:=u.info;rw[ay] at z;cases z;have F:k.cells.size=v.size:=(by have:=(G (bb I C.B) w).len;omega);have S:(t.bytes:Z)*(i:Z)<=281474976710656:=(by have:t.bytes*i<=48000*hB:=np (by have:=u.bytes;omega) A;grind [Int.natCast_mul,hB]);have s:=run_make (P:=E.P) w x y t k N ay a3 a1 a0 (n:Z) (i:Z) aa aa S (by grind [hB]);simp only[fF,u.size] at s;rw[<-F] at s;refine .new (d:=b) (cells:=ana k.cells (i*k.cells.size)) (T:=y) (cs:=[.slice (Y ⟨w.heap.size,0,bq⟩) n i]) (f:=[w.heap.size]) U p ?_ bo ?_ ac ac e
  ·simp[bO,V,am,ad,cV,s]
  refine⟨Y ⟨w.heap.size,0,bq⟩,i,ac,.inr ⟨w.heap.size,0,bJ n [],bo,ac,ac,by grind,iE.alloc (by grind [size_madeCells]),λav bx L dg co=>?_⟩⟩;have c1:av<n:=(by grind);obtain rfl:ce=bx:=(by grind);obtain rfl:[]=L:=(by grind);refine⟨k.cells.toList,aa,fd.alloc (λap d2 cv=>?_),G _ _⟩;rw[mW,<-F];grind [YR]
def w5 (tt:bn (bG×ai)) (d:bn (X×ai)) (e:bn (X×aK)) (a:X) (c:bG):hZ:=
 match aq tt c,aq d a,aq e a with
 |some f,Y b,bq=>match mi b with
  |some g=>bif a9 f b then .eV (.ref a []) [(a,⟨.optr b,g⟩)] else .bad
  |none=>.bad
 |_,_,_=>.bad
theorem Yields.box {g:r.den} {cs:ajT} (p:aq st.h b=bq) (i:cM C st a.tmps w I rt fp) (_hT:e9 E.P r x) (s:(bO a.eval o).run E.P w=.ok (.value (.pointer (Y ⟨w.heap.size,0,bq⟩))) (w.alloc (.cells cs.toArray x))) (u:∀k,(∀e c,bb I C.B e c->c6 w k c)->aT (bb I C.B) k r cs g []) (q:Q (.ref b []) [(b,⟨.optr r,g⟩)]):Yields E C st a w I rt fp o Q:=by have l:∀e c,bb I C.B e c->c6 w (w.alloc (.cells cs.toArray x)) c:=λe c m=>.of_heap ((hl.alloc w _).heap c (i.ib c (m8 m)));have j:=u _ l;have n:=j.len;refine .new (d:=b) (t:=⟨.optr r,g⟩) (cs:=[.pointer (Y ⟨w.heap.size,0,bq⟩)]) (f:=[w.heap.size]) p i s bo ⟨w.heap.size,0,[],cs,bo,bo,n,fd.alloc (λy z v=>by grind),iE.alloc (by grind),j⟩ ac ac q
theorem UJ (g:cM C st a.tmps w I rt fp) (k:o.op=.alloc x) (c:(w5 E.tt l st.h b x).K Q):Yields E C st a w I rt fp o Q:=by
 unfold w5 at c;split at c
 case h_2=>exact c.elim
 rename_i f q i s j;split at c
 case h_2=>exact c.elim
 rename_i y m;cases d:a9 f q with
 |false=>rw[d] at c;exact c.elim
 |true=>
  rw[d] at c;have e:=(E.ok x f i).lay d;obtain⟨t,r,ay,n,u,p⟩:=wv e m;refine .box (cs:=r.cells.toList) j g e ?_ (λv _=>p _ _) c;simp[bO,k,Instr.alloc,akg,akr,ay,n,newVar,akD]
def zG (tt:bn (bG×ai)) (e:bn (X×aK)) (a:X) (d:bG) (b:al):hZ:=
 match aq tt d,aq e a with
 |some f,bq=>match b with
  |.val c b=>bif a9 f c then .eV (.ref a []) [(a,⟨.optr c,b⟩)] else .bad
  |_=>.bad
 |_,_=>.bad
theorem Vi (j:cM C st a.tmps w I rt fp) (t:o.op=.box x c) (d:(zG E.tt st.h b x (aU st.g c)).K Q):Yields E C st a w I rt fp o Q:=by
 have f:=j.aU c;unfold zG at d;split at d
 case h_2=>exact d.elim
 rename_i l r s;split at d
 case h_2=>exact d.elim
 rename_i y B p;cases e:a9 l y with
 |false=>rw[e] at d;exact d.elim
 |true=>
  rw[e] at d;rw[p] at f;generalize u:a.eval c=z at f;cases f with|val i=>
  rename_i m;have k:=(E.ok x l r).lay e;refine .box (cs:=m) s j k ?_ (λA q=>i.mono (λv n e=>⟨e,q v n e⟩) ac) d;simp[bO,t,u,amk,newVar,akD,oL k i.len i.one]
def coe (a:ai) (b:al):bw a.den:=
 match b with
 |.val d b=>if h:d=a then Y (h▸b) else bq
 |.dd c=>iM a c.cells.toList
 |_=>bq
def zJ (a:ai):bn al->bw (bn a.den)
 |[]=>Y []
 |x::c=>match coe a x,zJ a c with
  |some d,Y b=>Y (d::b)
  |_,_=>bq
theorem HA (h:e9 E.P d x) (c:cQ e w u rt fp V R) {f:d.den} (a:coe d V=Y f):aT e w d R.cells.toList f []:=by
 unfold coe at a;split at a
 ·rename_i j i;split at a
  ·rename_i g;subst g;cases a;cases c with|val b=>
   rw[oL h b.len b.one];exact b
  grind
 ·cases c;exact pV a
 grind
def wd:bn (X×bP)->X->bA
 |[],_=>bp
 |q::b,a=>bI q.1 a&&wd b (a+1)
def xg (tt:bn (bG×ai)) (g:bn (X×ai)) (i:bn (X×aK)) (h:bP->al) (b:X) (f:bG) (d:X) (c:bn (X×bP)):hZ:=
 match gR tt f,aq i b with
 |some e,bq=>
  let a:=match aq g b with|some (.osl a)=>a|_=>e
  bif a9 e a&&b3 a.size 2000&&b3 d 1000&&wd c 0&&bI c.length d then
   match zJ a (c.map λj=>h j.2) with
   |some k=>.eV (.ref b []) [(b,⟨.osl a,k⟩)]
   |none=>.bad
  else .bad
 |_,_=>.bad
theorem Nf {d:ai}:∀{c:bn al} {b:bn d.den},zJ d c=Y b->b.length=c.length/\∀(e:X) (f:d.den),b[e]?=Y f->∃y:al,c[e]?=Y y/\coe d y=Y f
 |[],b,a=>by cases a;grind
 |y::c,b,a=>by
  simp only[zJ] at a;split at a
  ·rename_i l k j g;cases a;obtain⟨h,i⟩:=Nf g;grind
  grind
theorem rI:∀{e:bn (X×bP)} {d:X},wd e d=bp->∀(a:X) (b:X×bP),e[a]?=Y b->b.1=d+a
 |[],_,_,a,b,c=>by grind
 |x::e,d,c,a,b,f=>by
  simp only[wd,cE] at c;cases a with
  |zero=>simp_all
  |succ a=>have:=rI c.2 a b (by grind);omega
theorem Vm (G:cM C st a.tmps w I rt fp) {j:bU (X×bP)} (ds:o.op=.buildSlice x b j) (k:(xg E.tt l st.h (aU st.g) i x b j.toList).K Q):Yields E C st a w I rt fp o Q:=by
 unfold xg at k;split at k
 case h_2=>exact k.elim
 rename_i a0 co cv;generalize fr:(match aq l i with|some (.osl e)=>e|_=>a0)=e at k;simp only at k;cases n:(a9 a0 e&&b3 e.size 2000&&b3 b 1000&&wd j.toList 0&&bI j.toList.length b) with
 |false=>rw[n] at k;exact k.elim
 |true=>
  rw[n] at k;simp only[cE] at n;obtain⟨⟨⟨⟨a3,A⟩,D⟩,F⟩,O⟩:=n;have A:=gL A;have D:=gL D;have O:j.toList.length=b:=ff O;simp only[bH] at k;split at k
  case h_2=>exact k.elim
  rename_i r d4;obtain⟨am,M,_,ce,ci⟩:=gR.ok co;have u:=ci.lay a3;obtain⟨J,d8,an,_⟩:=u.info;have ex:=u.pos;obtain⟨a4,bl⟩:=Nf d4;simp only[eM] at a4;have d3:r.length=b:=aa;have em:b*e.size<=16777216:=(by have:b*e.size<=1000*2000:=np D A;omega);have R:∀(c:X) (m:X×bP),j.toList[c]?=Y m->∃p:e.den,r[c]?=Y p/\aT (bb I C.B) w e (a.eval m.2).cells.toList p []:=(by intro c m v;have dg:c<r.length:=(by grind);obtain⟨f6,ao,y⟩:=bl c r[c] ac;rw[jI,v] at ao;simp only[jv,eT] at ao;subst ao;exact⟨r[c],ac,HA u (G.aU m.2) y⟩);obtain⟨ad,c1,c2⟩:∃a1:ajR,(b*e.size=0->a1=#[])/\(b*e.size≠0->∃s,(akg M).run E.P w=.ok s w/\a1=s.cells):=by
   by_cases q:b*e.size=0
   ·simp_all
   obtain⟨s,_,d6⟩:=e9.IS u;exact⟨s.cells,λk=>absurd k q,λ_=>⟨s,by simp[akg,akr,an.info,d6 J an.info],bo⟩⟩
  obtain⟨ap,av,f0,f1,aL⟩:=AK (λJ=>Y (J*e.size,e.size)) (j.toList.map λm=>(m.1,a.eval m.2)) ((Array.range (b*e.size)).map (ad[· %ad.size]!)) (by
   intro m d1;obtain⟨fT,d0,rfl⟩:=fe.1 d1;obtain⟨c,v,rfl⟩:=hG.1 d0;have z:j.toList[c]?=Y j.toList[c]:=ac;obtain⟨p,_,H⟩:=R c _ z;have d9:=rI F c _ z;have:(c+1)*e.size<=b*e.size:=hR _ aa;rw[kq,jL] at this;refine⟨_,_,bo,by have:=H.len;omega,?_⟩;grind) (by
   rw[hY];intro c L v dl dg ft f3 fz f4 ao y;simp only[n4,eT,h8] at ao y;simp only[eM] at v dl;have bs:=rI F c j.toList[c] ac;have f2:=rI F L j.toList[L] ac;obtain⟨rfl,rfl⟩:=ao;obtain⟨rfl,rfl⟩:=y;left;rw[bs,f2];have:(0+c+1)*e.size<=(0+L)*e.size:=hR _ aa;grind)
  have fn:ap.size=b*e.size:=(by grind);refine .new (d:=i) (t:=⟨.osl e,r⟩) (cells:=ap) (T:=M) (cs:=[.slice (Y ⟨w.heap.size,0,bq⟩) b b]) (f:=[w.heap.size]) cv G ?_ bo ?_ ac ac k
  ·have d2:=u.sizeOf w;have eq:¬(16777216<b*e.size):=aa;have S:(aml (λp=>(p.fst,a.eval p.snd)) j).toList=j.toList.map λm=>(m.1,a.eval m.2):=ac;simp only[bO,ds,Instr.buildSlice,bY,b8 ce,b2,d2];rw[aw aa];by_cases q:b*e.size=0
   ·rw[ax q];obtain rfl:=c1 q;rw[S];simp only[bY,ct,b2,av,akD,newObj];rfl
   rw[aw q];obtain⟨s,d5,rfl⟩:=c2 q;rw[S];simp only[bY,ct,b2,d5,av,akD,newObj];rfl
  refine⟨Y ⟨w.heap.size,0,bq⟩,b,by rw[d3],.inr ⟨w.heap.size,0,bJ b [],bo,ac,by grind,(by grind),iE.alloc aa,λc p bx H ek=>?_⟩⟩;have v:c<b:=(by grind);obtain rfl:[]=bx:=(by grind);have z:j.toList[c]?=Y (j.toList[c]'(by omega)):=by simp
  obtain⟨f5,V,U⟩:=R c _ z;rw[H] at V;obtain rfl:=gb V;refine⟨_,U.len,fd.alloc (λam d7 el=>?_),U.mono (λfs N n=>⟨n,.of_heap ((hl.alloc w _).heap N (G.ib N (m8 n)))⟩) ac⟩;have:=aL (j.toList[c].1,a.eval j.toList[c].2) (fe.2 ⟨j.toList[c],cG _,bo⟩) _ _ rfl am d7 (by grind);grind [rI]
end
end
section
def l9 (a:bn (X×bP)) (b:X):ajQ:=aq a b
def qb (
 g:bP->al) (e:bn (X×bP)):ai->X->bw aK
 |.pr a h,d=>
  match(match l9 e d with
   |none=>match mi a with
    |some j=>Y (⟨a,j⟩:aK)
    |none=>bq
   |some c=>match g c with
    |.val f b=>bif a9 a f then Y ⟨f,b⟩ else bq
    |.dd i=>match iM a i.cells.toList with
     |some b=>Y ⟨a,b⟩
     |none=>bq
    |_=>bq),qb g e h (d+1) with
  |some c,Y b=>Y ⟨.pr c.1 b.1,(c.2,b.2)⟩
  |_,_=>bq
 |.nil,_=>Y ⟨.nil,()⟩
 |_,_=>bq
def mF:bn (X×bP)->X->bA
 |[],_=>bp
 |q::b,a=>b3 a q.1&&mF b (q.1+1)
def gA:ai->X
 |.pr _ a=>gA a+1
 |_=>0
theorem IW:∀{e:bn (X×bP)} {d:X},mF e d=bp->∀b∈e,d<=b.1
 |[],_,_,b,a=>by cases a
 |x::e,d,a,b,c=>by
  simp only[mF,cE] at a;rcases fG.1 c with rfl|c
  ·simp_all
  have:=IW a.2 b c;have:=gL a.1;omega
def IY:∀{b:bn (X×bP)} {d:X},mF b d=bp->b.Pairwise λc f=>c.1<f.1
 |[],_,_=>amm
 |x::b,d,a=>by simp only[mF,cE] at a;exact apt (λc e=>by have:=IW a.2 c e;omega) (IY a.2)
theorem AY {e:Type}:∀{d:bn (X×e)} {b:X} {c:e},aq d b=Y c->(b,c)∈d
 |[],_,_,a=>by cases a
 |(f,v0)::r,b,c,a=>by
  rw[de] at a;split at a
  ·grind
  exact g3 _ (AY a)
def Jk {g:Type}:∀{e:bn (X×g)} {d:X},aq e d=bq->∀c∈e,c.1≠d
 |[],_,_,c,a=>by cases a
 |(h,v0)::r,d,b,c,a=>by
  rw[de] at b;split at b
  ·cases b
  rename_i f;rcases fG.1 a with rfl|a
  ·exact f
  exact Jk b c a
theorem rA {j:b1}:∀{u:ai} {l:bn akl} {e:X} {f:ajT},iD j u l e f->∀d,d<gA u->∃h i,fA u d=Y (h,i)
 |.pr a g,k::m,e,f,c,0,_=>⟨_,_,bo⟩
 |.pr a g,k::m,e,f,c,d+1,b=>by obtain⟨h,i,n⟩:=rA (u:=g) c.2.2.2.2 d (by grind [gA]);grind [fA]
 |.pr _ _,[],_,_,c,_,_=>c.elim
 |.int _,_,_,_,_,_,b=>by grind [gA]
 |.bool,_,_,_,_,_,b=>by grind [gA]
 |.str,_,_,_,_,_,b=>by grind [gA]
 |.a6 _ _,_,_,_,_,_,b=>by grind [gA]
 |.osl _,_,_,_,_,_,b=>by grind [gA]
 |.ptr _ _,_,_,_,_,_,b=>by grind [gA]
 |.optr _,_,_,_,_,_,b=>by grind [gA]
 |.st _,_,_,_,_,_,b=>by grind [gA]
 |.nil,_,_,_,_,_,b=>by grind [gA]
 |.eB,_,_,_,_,_,b=>by grind [gA]
theorem vv:∀{u:ai} {e c:X} {s s':bn aZ} {t t':ai},fA u e=Y (s,t)->fA u c=Y (s',t')->e<c->fi u e+t.size<=fi u c
 |.pr a f,0,c+1,s,s',t,t',b,d,_=>by simp only[fA,eT,h8] at b;obtain⟨_,rfl⟩:=b;simp[fi]
 |.pr a f,e+1,c+1,s,s',t,t',b,d,k=>by
  simp only[fA] at b d;cases g:fA f e with
  |none=>grind
  |some i=>
   cases h:fA f c with
   |none=>grind
   |some j=>
    rw[g] at b;rw[h] at d;simp only[eT,h8] at b d;obtain⟨_,rfl⟩:=b;obtain⟨_,rfl⟩:=d;have:=vv (u:=f) (s:=i.1) (t:=i.2) (s':=j.1) (t':=j.2) g h aa;grind [fi]
 |.int _,_,_,_,_,_,_,b,_,_=>by cases b
 |.bool,_,_,_,_,_,_,b,_,_=>by cases b
 |.str,_,_,_,_,_,_,b,_,_=>by cases b
 |.a6 _ _,_,_,_,_,_,_,b,_,_=>by cases b
 |.osl _,_,_,_,_,_,_,b,_,_=>by cases b
 |.ptr _ _,_,_,_,_,_,_,b,_,_=>by cases b
 |.optr _,_,_,_,_,_,_,b,_,_=>by cases b
 |.st _,_,_,_,_,_,_,b,_,_=>by cases b
 |.nil,_,_,_,_,_,_,b,_,_=>by cases b
 |.eB,_,_,_,_,_,_,b,_,_=>by cases b
theorem IC:∀{u:ai} {c:X} {s:bn aZ} {t:ai},fA u c=Y (s,t)->c<gA u
 |.pr a d,0,_,_,_=>by simp[gA]
 |.pr a d,c+1,s,t,b=>by
  simp only[fA] at b;split at b
  ·rename_i e f;have:=IC (u:=d) (s:=e.1) (t:=e.2) f;grind [gA]
  grind
 |.int _,_,_,_,b=>by cases b
 |.bool,_,_,_,b=>by cases b
 |.str,_,_,_,b=>by cases b
 |.a6 _ _,_,_,_,b=>by cases b
 |.osl _,_,_,_,b=>by cases b
 |.ptr _ _,_,_,_,b=>by cases b
 |.optr _,_,_,_,b=>by cases b
 |.st _,_,_,_,b=>by cases b
 |.nil,_,_,_,b=>by cases b
 |.eB,_,_,_,b=>by cases b
theorem IX:∀{d:bn (X×bP)} {e:X} {b:X×bP},mF d e=bp->b∈d->l9 d b.1=Y b.2
 |[],_,_,_,a=>by cases a
 |x::d,e,b,a,c=>by
  simp only[mF,cE] at a;obtain⟨f,g⟩:=x;unfold l9;rw[de];rcases fG.1 c with rfl|c
  ·rw[ax bo]
  have:=IW a.2 b c;simp only at this;rw[aw aa];exact IX a.2 c
section
variable {E:fk} {C:eW} {st:aO} {a:Act} {w:bD} {I:X->Prop} {rt:X->ajT} {fp:X->ajZ} {o:bS} {Q:al->bn (X×aK)->Prop}
def zF (tt:bn (bG×ai)) (e:bP->al) (d:bG) (a:bn (X×bP)):hZ:=
 match lI tt d with
 |none=>.bad
 |some c=>bif mF a 0&&a.all (λf=>cf f.1 (gA c)) then match qb e a c 0 with
  |some b=>.eV (.val (.st b.1) b.2) []
  |none=>.bad
  else .bad
theorem PP {z:b1} {l:dh->X->Prop} {b:bn (X×aK)} {q:bP->al} {j:bP->Value} (v:∀c,cQ l w b rt fp (q c) (j c)) {parts:bn (X×bP)} {cells:ajT}:∀{u:ai} {n:X} {B:bn akl} {off:X} {zs:ajT} {i:aK},iD z u B off zs->qb q parts u n=Y i->cells.length=off+u.size->(∀e p d,fA u e=Y (p,d)->(∀c,l9 parts (n+e)=Y c->(j c).cells.size=d.size/\(cells.drop (off+fi u e)).take d.size=(j c).cells.toList)/\(l9 parts (n+e)=bq->(cells.drop (off+fi u e)).take d.size=(zs.drop (fi u e)).take d.size))->aT l w i.1 (cells.drop off) i.2 []/\i.1.size=u.size
 |.pr a A,n,L::V,off,zs,i,r,g,E,o=>by
  simp only[qb] at g;split at g
  case h_2=>cases g
  rename_i c am h I;cases g;obtain⟨M,C,N,⟨R,an,ay,T,U⟩,D⟩:=r;have t:=o 0 _ a bo;simp only[mV,fi,mT] at t;have O:aT l w c.1 ((cells.drop off).take a.size) c.2 []/\c.1.size=a.size:=by
   split at h
   ·grind [wv]
   rename_i k F;have f:=v k;obtain⟨S,x⟩:=t.1 k F;split at h
   ·rename_i d K m;cases s:a9 a d with
    |false=>grind
    |true=>
     rw[s] at h;cases h;rw[m] at f;rw[x];generalize H:j k=J at f;cases f with|val y=>
     rw[oL (C.lay s) y.len y.one];grind [a9.size]
   ·rename_i J m;split at h
    ·rename_i K Q;cases h;rw[m] at f;rw[x];generalize H:j k=ad at f;cases f;grind [pV]
    grind
   grind
  have P:=PP v (parts:=parts) (cells:=cells) (u:=A) (n:=n+1) (off:=off+a.size) (zs:=zs.drop a.size) D I (by grind [ai.size]) (by
   intro e p d G;have:=o (e+1) (.snd::p) d (by simp[fA,G]);grind [alL,fi])
  refine⟨⟨[],[],bo,?_,?_⟩,by grind [ai.size]⟩
  ·grind
  simp_all
 |.nil,n,[],off,zs,i,r,g,E,o=>by cases g;exact⟨⟨bo,by grind [List.drop_eq_nil_iff,ai.size]⟩,bo⟩
 |.pr _ _,_,[],_,_,_,b,_,_,_=>b.elim
 |.nil,_,_::_,_,_,_,b,_,_,_=>b.elim
 |.int _,_,_,_,_,_,b,_,_,_=>by cases b
 |.bool,_,_,_,_,_,b,_,_,_=>by cases b
 |.str,_,_,_,_,_,b,_,_,_=>by cases b
 |.a6 _ _,_,_,_,_,_,b,_,_,_=>by cases b
 |.osl _,_,_,_,_,_,b,_,_,_=>by cases b
 |.ptr _ _,_,_,_,_,_,b,_,_,_=>by cases b
 |.optr _,_,_,_,_,_,b,_,_,_=>by cases b
 |.st _,_,_,_,_,_,b,_,_,_=>by cases b
 |.eB,_,_,_,_,_,b,_,_,_=>by cases b
theorem PQ {z:b1} {m:dh->X->Prop} {b:bn (X×aK)} {o:bP->al} {h:bP->Value} (p:∀c,cQ m w b rt fp (o c) (h c)) {s:bn (X×bP)}:∀{u:ai} {n:X} {B:bn akl} {r:X} {y:ajT} {x:aK},iD z u B r y->qb o s u n=Y x->∀e v g,fA u e=Y (v,g)->∀c,l9 s (n+e)=Y c->(h c).cells.size=g.size
 |.pr a A,n,N::T,r,y,x,E,k,e,v,g,d,c,q=>by
  simp only[qb] at k;split at k
  case h_2=>cases k
  rename_i V ad i I;obtain⟨O,C,P,⟨Q,am,ay,R,S⟩,D⟩:=E;cases e with
  |zero=>
   simp only[fA,eT,h8] at d;obtain⟨_,rfl⟩:=d;rw[mV] at q;rw[q] at i;have f:=p c;simp only at i;split at i
   ·rename_i g L j;cases F:a9 a g with
    |false=>grind
    |true=>
     rw[j] at f;generalize H:h c=K at f;cases f with|val l=>
     rw[oL (C.lay F) l.len l.one];have:=l.len;grind [a9.size]
   ·rename_i K j;split at i
    ·rename_i L J;rw[j] at f;generalize H:h c=U at f;cases f;have:=(pV (M:=m) (w:=w) J).len;omega
    grind
   grind
  |succ e=>
   simp only[fA] at d;split at d
   ·rename_i t G;simp only[eT,h8] at d;obtain⟨_,rfl⟩:=d;exact PQ p (u:=A) (n:=n+1) D I e t.1 t.2 G c (by rwa[(aa:n+1+e=n+(e+1))])
   grind
 |.pr _ _,_,[],_,_,_,b,_,_,_,_,_,_,_=>b.elim
 |.nil,_,_,_,_,_,_,_,_,_,_,d,_,_=>by cases d
 |.int _,_,_,_,_,_,b,_,_,_,_,_,_,_=>by cases b
 |.bool,_,_,_,_,_,b,_,_,_,_,_,_,_=>by cases b
 |.str,_,_,_,_,_,b,_,_,_,_,_,_,_=>by cases b
 |.a6 _ _,_,_,_,_,_,b,_,_,_,_,_,_,_=>by cases b
 |.osl _,_,_,_,_,_,b,_,_,_,_,_,_,_=>by cases b
 |.ptr _ _,_,_,_,_,_,b,_,_,_,_,_,_,_=>by cases b
 |.optr _,_,_,_,_,_,b,_,_,_,_,_,_,_=>by cases b
 |.st _,_,_,_,_,_,b,_,_,_,_,_,_,_=>by cases b
 |.eB,_,_,_,_,_,b,_,_,_,_,_,_,_=>by cases b
theorem run_places {P:b1} (w:bD):∀(d:ai) (h:bn akl) (c:X) (g:ajT),iD P d h c g->(h.mapM λe=>do ak5 (e.offset,<-akK e.type):Sem aj1).run P w=.ok ((bL (gA d)).map λf=>(c+fi d f,match fA d f with|some k=>k.2.size|none=>0)) w
 |.pr a i,e::l,c,g,b=>by have j:=run_places w i l (c+a.size) (g.drop a.size) b.2.2.2.2;simp only[List.mapM_cons,bY,b.2.1.sizeOf,b2,ct,j];simp only[gA,List.range_succ_eq_map,hX,ui,b.1,fi,mV,fA];congr 2;apply ju;intro f _;simp only[Function.comp,fi,fA];grind
 |.nil,[],_,_,_=>rfl
 |.pr _ _,[],_,_,b=>b.elim
 |.nil,_::_,_,_,b=>b.elim
 |.int _,_,_,_,b=>by cases b
 |.bool,_,_,_,b=>by cases b
 |.str,_,_,_,b=>by cases b
 |.a6 _ _,_,_,_,b=>by cases b
 |.osl _,_,_,_,b=>by cases b
 |.ptr _ _,_,_,_,b=>by cases b
 |.optr _,_,_,_,b=>by cases b
 |.st _,_,_,_,b=>by cases b
 |.eB,_,_,_,b=>by cases b
theorem Vf (ap:cM C st a.tmps w I rt fp) {i:bU (X×bP)} (cv:o.op=.build x i) (e:(zF E.tt (aU st.g) x i.toList).K Q):Yields E C st a w I rt fp o Q:=by
 unfold zF at e;split at e
 ·exact e.elim
 rename_i b O;cases p:(mF i.toList 0&&i.toList.all (λc=>cf c.1 (gA b))) with
 |false=>rw[p] at e;exact e.elim
 |true=>
  rw[p] at e;simp only[cE,gU] at p;obtain⟨a1,F⟩:=p;simp only[bH] at e;split at e
  case h_2=>exact e.elim
  rename_i d4 av;obtain⟨q,r,j,a3,d7,a4,bl,m,d8⟩:∃q r j,E.P.info? x=some q/\q.size=b.size/\q.zero=some (.agg j)/\E.P.underlying x=some (.struct r)/\iD E.P b r.toList 0 j.toList/\j.size=b.size:=by
   unfold lI at O;split at O
   ·rename_i f1 bx;cases O;obtain⟨_,q,r,j,ay,eq,_,ex,fn,fr,fs⟩:=E.ok x _ bx;grind
   grind
  have S:=PQ (λd=>ap.aU d) m av;have R:=run_places (P:=E.P) w b r.toList 0 j.toList m;simp only[mW] at R S;generalize ek:((bL (gA b)).map λk=>(fi b k,match fA b k with|some c=>c.2.size|none=>0))=U at R;have z:∀k M l,fA b k=Y (M,l)->k<gA b->U.toArray[k]?=Y (fi b k,l.size):=(by grind);obtain⟨L,d0,ft,d1,aL⟩:=AK (λq=>U.toArray[q]?) (i.toList.map λc=>(c.1,a.eval c.2)) j (by
   intro c A;obtain⟨h,G,rfl⟩:=fe.1 A;have t:h.1<gA b:=gL (F h G);obtain⟨M,l,f⟩:=rA m h.1 t;refine⟨_,_,z _ _ _ f t,S _ _ _ f h.2 ?_,by simp_all [x3]⟩;grind [IX]) (by
   rw[qE];refine(IY a1).imp_of_mem ?_;intro c V A dg t ds d2 em fz ao ad;have D:c.1<gA b:=gL (F c A);have a0:V.1<gA b:=gL (F V dg);obtain⟨d3,d5,s⟩:=rA m c.1 D;obtain⟨fT,f0,p⟩:=rA m V.1 a0;rw[z _ _ _ s D] at ao;rw[z _ _ _ p a0] at ad;cases ao;cases ad;exact .inl (vv s p t))
  have el:L.toList.length=b.size:=(by grind);obtain⟨an,d6⟩:=PP (w:=w) (λd=>ap.aU d) (parts:=i.toList) (cells:=L.toList) (u:=b) (n:=0) (off:=0) m av aa (by
   intro J M l f;have ce:J<gA b:=IC f;simp only[mW];have d9:=x3 f;refine⟨λd H=>?_,λH=>?_⟩
   ·have ci:=AY H;have T:=S J M l f d H;refine⟨T,?_⟩;apply il;intro B;rcases cR B l.size with y|y
    ·obtain⟨N,dl⟩:∃N,(a.eval d).cells[B]?=some N:=⟨_,Cb aa⟩;have:=aL (J,a.eval d) (fe.2 ⟨(J,d),ci,bo⟩) _ _ (z _ _ _ f ce) B N dl;grind
    grind
   apply il;intro B;rcases cR B l.size with y|y
   ·rw[sb y,sb y,qB,qB];simp only[Cc];refine d1 _ ?_;intro c A ds d2 ao;obtain⟨h,G,rfl⟩:=fe.1 A;have co:=Jk H h G;have D:h.1<gA b:=gL (F h G);obtain⟨d3,d5,s⟩:=rA m h.1 D;rw[z _ _ _ s D] at ao;cases ao;rcases Nat.lt_or_gt_of_ne co with t|bs
    ·have:=vv s f t;omega
    have:=vv f s bs;omega
   grind)
  rw[mT] at an;refine .pure (v:=.agg L) ?_ (.val (τ:=.st d4.1) (cs:=L.toList) an) e;have c2:(aml (λd=>(d.fst,a.eval d.snd)) i).toList=i.toList.map λc=>(c.1,a.eval c.2):=ac;have c1:(r.mapM λam=>do ak5 (am.offset,<-akK am.type):Sem (bU et)).run E.P w=.ok U.toArray w:=(by rw[anb,Sem.run_map,R];rfl);have T:(akg x).run E.P w=.ok (.agg j) w:=(by simp[akg,akr,a3,a4]);simp only[bO,cv,Instr.build,bY,T,b8 bl,b2,c1,c2,Value.cells,d0];rfl
end
end
section
def fM {α:Type}:bn (Z×α)->Z->bw α
 |[],_=>bq
 |(a,v)::r,k=>if a=k then Y v else fM r k
def kh {α:Type}:bn (Z×α)->Z->α->bn (Z×α)
 |[],k,v=>[(k,v)]
 |(a,u)::r,k,v=>if k<a then(k,v)::(a,u)::r else if k=a then(k,v)::r else(a,u)::kh r k v
def jn {α:Type} (l:bn (Z×α)) (a:Z):bn (Z×α):=l.filter λb=>bu (b.1≠a)
def gy {α:Type} (b:bw (bn (Z×α)×X)) (a:Z):bw α:=b.bind λc=>fM c.1 a
def yo {α:Type} (a:bw (bn (Z×α)×X)):Z:=match a with|some b=>(b.1.length:Z)|none=>0
section
variable {α:Type}
theorem Fg:∀{l:bn (Z×α)} {c:Z} {d:α},fM l c=Y d->(c,d)∈l
 |[],_,_,b=>by cases b
 |(a,u)::r,c,d,b=>by
  simp only[fM] at b;split at b
  ·grind
  exact g3 _ (Fg b)
theorem PB:∀{l:bn (Z×α)} {c:Z},fM l c=bq->∀d,(c,d)∉l
 |[],_,_,_=>by simp
 |(a,u)::r,c,b,d=>by
  simp only[fM] at b;split at b
  ·cases b
  rename_i g;intro f;rcases fG.1 f with e|e
  ·grind
  exact PB b d e
theorem SF {l:bn (Z×α)} (c:l.Pairwise (λa b=>a.1<b.1)):(l.map (·.1)).Nodup:=by grind
theorem YP {l:bn (Z×α)} (c:(l.map (·.1)).Nodup) {a:Z} {b:α}:fM l a=Y b↔(a,b)∈l:=by
 constructor
 ·exact Fg
 intro d
 induction l with
 |nil=>cases d
 |cons e h g=>
  obtain⟨f,i⟩:=e;simp only[hX,kp] at c;simp only[fM];grind
theorem PC:∀{l:bn (Z×α)} {d:Z} {e:α} {c:Z×α},c∈kh l d e->c=(d,e)\/c∈l
 |[],d,e,c,b=>by grind [kh]
 |(a,u)::r,d,e,c,b=>by
  simp only[kh] at b;split at b
  ·grind
  split at b
  ·grind
  rcases fG.1 b with b|b
  ·grind
  exact(PC b).imp id (g3 _)
theorem Jr:∀{l:bn (Z×α)} {c:Z} {d:α},l.Pairwise (λa b=>a.1<b.1)->(kh l c d).Pairwise (λa b=>a.1<b.1)
 |[],c,d,_=>by simp[kh]
 |(a,u)::r,c,d,h=>by
  rw[nm] at h;simp only[kh];split
  ·grind [alR]
  rename_i g;split
  ·grind [alR]
  rename_i f;rw[nm];refine⟨λi e=>?_,Jr h.2⟩;rcases PC e with rfl|e
  ·omega
  grind
def YN {l:bn (Z×α)} {d:Z} (c:l.Pairwise (λa b=>a.1<b.1)):(jn l d).Pairwise (λa b=>a.1<b.1):=c.filter _
theorem Jq:∀{l:bn (Z×α)} {k:Z} {v:α},l.Pairwise (λa b=>a.1<b.1)->(kh l k v).Perm ((k,v)::jn l k)
 |[],k,v,_=>by simp[kh,jn]
 |(a,u)::r,k,v,h=>by
  rw[nm] at h;simp only[kh];split
  ·rename_i d;have:jn ((a,u)::r) k=(a,u)::r:=by
    unfold jn;grind [alp]
   rw[this]
  rename_i d;split
  ·rename_i c;subst c;have:jn ((k,u)::r) k=r:=by
    unfold jn;rw[pD,aw ac,mU];grind
   rw[this]
  rename_i c;have:jn ((a,u)::r) k=(a,u)::jn r k:=(by unfold jn;grind);rw[this];exact((Jq h.2).cons _).trans (.swap _ _ _)
end
section
variable {P:b1} {w:bD} {b:X} {eY:bU cl} {c:X}
theorem nL:i6 w b=Y (eY,c)↔w.heap[b]?=Y (.map eY c):=by grind [i6]
def qi (a:w.heap[b]?=Y (.map eY c)):(setObj b (.map o i)).run P w=.ok () {w with heap:=w.heap.setIfInBounds b (.map o i)}:=by simp[setObj,Sem.run,a]
def run_getObj_map (a:w.heap[b]?=Y (.map eY c)):(getObj b).run P w=.ok (.map eY c) w:=by simp[getObj,Sem.run,a]
theorem Oi {j:cr} (b:Z):∀(eY:bn cl) (c:aj0) (d:X),eY.map (·.key)=c.map (akb .i64)->b∉c->alq (.int j) (.int .i64 b) eY d=Y bq
 |[],_,_,_,_=>rfl
 |e::eY,[],_,a,_=>by cases a
 |e::eY,f::c,d,a,h=>by simp only[hX,hM] at a;have i:(b==f)=br:=(by grind);simp only[alq,a.1,anc,cg,i];exact Oi b eY c (d+1) a.2 (λg=>h (g3 _ g))
theorem Oj {kd:cr} (b:Z):∀(eY:bn cl) (d:aj0) (f:X),eY.map (·.key)=d.map (akb .i64)->b∈d->∃c e,d[c]?=Y b/\eY[c]?=Y e/\alq (.int kd) (.int .i64 b) eY f=Y (Y (f+c,e.val))
 |[],[],_,_,a=>by cases a
 |[],_::_,_,a,_=>by cases a
 |e::eY,[],_,a,_=>by cases a
 |e::eY,g::d,f,a,m=>by
  simp only[hX,hM] at a;by_cases h:b=g
  ·subst h;refine⟨0,e,bo,bo,?_⟩;simp_all [cg,aks,alq,anc]
  have n:(b==g)=br:=(by grind);obtain⟨c,i,j,k,l⟩:=Oj b eY d (f+1) a.2 ((fG.1 m).resolve_left h);refine⟨c+1,i,by simpa using j,by simpa using k,?_⟩;simp only[alq,a.1,anc,cg,n];rw[l];grind
structure hn (M:dh->X->Prop) (w:bD) (t:ai) (b:X) (l:bn (Z×t.den)) (c:X) (eY:bU cl) (L:bn (Z×X×t.den)):Prop where
 pe:kH L l c
 h:w.heap[b]?=Y (.map eY c)
 n:eY.size=L.length
 e:∀(i:X) (q:Z×X×t.den),L[i]?=Y q->∃ds:ajT,ds.length=t.size/\eY[i]?=Y (ame (.int .i64 q.1) (cV t ds) q.2.1)/\aT M w t ds q.2.2 []
variable {M:dh->X->Prop} {t:ai} {l:bn (Z×t.den)} {L:bn (Z×X×t.den)}
theorem hn.keys (f:hn M w t b l c eY L):eY.toList.map (·.key)=(L.map (·.1)).map (akb .i64):=by
 apply il;intro d;simp only[jI,Cc];rcases cR d L.length with a|a
 ·obtain⟨g,_,h,_⟩:=f.e d L[d] (bk a);grind
 rw[pE a,Array.getElem?_eq_none (by rw[f.n];exact a)];rfl
def kH.keys {α:Type} {L:bn (Z×X×α)} {l:bn (Z×α)} {c:X} (a:kH L l c):(L.map (·.1)).Perm (l.map (·.1)):=by have:=a.2.1.map (·.1);rwa[ui] at this
def kH.nd {α:Type} {L:bn (Z×X×α)} {l:bn (Z×α)} {c:X} (a:kH L l c):(L.map (·.1)).Nodup:=a.keys.nodup_iff.2 (SF a.1)
def kH.mem {α:Type} {L:bn (Z×X×α)} {l:bn (Z×α)} {c:X} (b:kH L l c) {a:Z×X×α} (d:a∈L):fM l a.1=Y a.2.2:=
 (YP (SF b.1)).2 (b.2.1.mem_iff.1 (fe.2 ⟨a,d,bo⟩))
theorem kH.len {α:Type} {L:bn (Z×X×α)} {l:bn (Z×α)} {c:X} (a:kH L l c):L.length=l.length:=by have:=a.2.1.length_eq;grind
theorem KT {P:b1} {w:bD} (e:P.underlying a=Y (.int v)) {b:Z} {eY:bn cl} {c:bw (X×Value)} (d:alq (.int v) (.int .i64 b) eY 0=Y c):(alS a (.int .i64 b) eY).run P w=.ok c w:=by simp_all [bY,b8,b2,alS]
def oO {P:b1} {w:bD} (c:P.underlying a=Y (.int v)) (b:bA) (e:X) (d:Z):(aoi b (e+1) a (.int .i64 d)).run P w=.ok () w:=by simp[aoi,bY,b8 c]
theorem hn.find (j:hn M w t b l c eY L) (u:P.underlying a=Y (.int v)) (d:Z):(fM l d=bq/\(∀o∈L,o.1≠d)/\∀f,(alS a (.int .i64 d) eY.toList).run P f=.ok bq f)\/∃h m i g,fM l d=Y i/\L[h]?=Y (d,m,i)/\g.length=t.size/\eY[h]?=Y ⟨.int .i64 d,cV t g,m⟩/\aT M w t g i []/\∀f,(alS a (.int .i64 d) eY.toList).run P f=.ok (Y (h,cV t g)) f:=by
 by_cases k:d∈L.map (·.1)
 ·obtain⟨h,q,r,s,B⟩:=Oj (kd:=v) d eY.toList _ 0 j.keys k;rw[jI] at r;obtain⟨⟨C,m,i⟩,n,rfl⟩:=fl.1 r;obtain⟨g,x,p,y⟩:=j.e h _ n;rw[Cc,p] at s;cases s;refine .inr ⟨h,m,i,g,j.pe.mem (jg n),n,x,p,y,λf=>KT u ?_⟩;grind
 refine .inl ⟨?_,λo A q=>k (fe.2 ⟨o,A,q⟩),λf=>KT u (Oi d _ _ 0 j.keys k)⟩;cases z:fM l d with
 |none=>rfl
 |some i=>exact absurd (j.pe.keys.mem_iff.2 (fe.2 ⟨_,Fg z,bo⟩)) k
theorem hn.empty (M:dh->X->Prop) (t:ai) (a:w.heap[b]?=Y (.map #[] 0)):hn M w t b [] 0 #[] []:=
 ⟨⟨.nil,.refl _,.nil,ac⟩,a,bo,ac⟩
def vP {α:Type} (L:bn (Z×X×α)) (a:Z) (d:α) (c:X):bn (Z×X×α)×X:=
 if a∈L.map (·.1) then(L.map λb=>if b.1=a then(a,b.2.1,d) else b,c) else(L++[(a,c,d)],c+1)
theorem Rl {α:Type} {c:Z} {g:α}:∀{b:bn (Z×α)},(b.map (·.1)).Nodup->c∈b.map (·.1)->(b.map λd=>if d.1=c then(c,g) else d).Perm ((c,g)::jn b c)
 |[],_,e=>by cases e
 |(a,u)::b,e,j=>by
  simp only[hX,kp] at e;simp only[hX];by_cases h:a=c
  ·subst h;rw[ax bo];have i:(b.map λd=>if d.1=a then(a,g) else d)=b:=by
    conv=>rhs;rw[<-List.map_id b]
    refine ju λd k=>?_;grind
   have f:jn ((a,u)::b) a=b:=(by unfold jn;rw[pD,aw ac,mU];grind);rw[i,f]
  rw[aw h];have f:jn ((a,u)::b) c=(a,u)::jn b c:=(by simp_all [pD,ax,jn]);rw[f];refine((Rl e.2 ?_).cons _).trans (.swap _ _ _);grind
theorem kH.put {α:Type} {L:bn (Z×X×α)} {l:bn (Z×α)} {c:X} (e:kH L l c) (d:Z) (g:α):kH (vP L d g c).1 (kh l d g) (bif (fM l d).isSome then c else c+1)/\(vP L d g c).2=(bif (fM l d).isSome then c else c+1):=by
 have i:(fM l d).isSome=bu (d∈L.map (·.1)):=by
  by_cases h:d∈L.map (·.1)
  ·obtain⟨a,f,rfl⟩:=fe.1 h;rw[e.mem f,aj8 h];rfl
  rw[akw h];cases i:fM l d with
  |none=>rfl
  |some v=>exact absurd (e.keys.mem_iff.2 (fe.2 ⟨_,Fg i,bo⟩)) h
 rw[i];unfold vP;have n:((L.map λa=>(a.1,a.2.2)).filter λa=>bu (a.1≠d)).Perm (jn l d):=e.2.1.filter _;by_cases h:d∈L.map (·.1)
 ·rw[ax h,aj8 h];refine⟨⟨Jr e.1,?_,?_,?_⟩,bo⟩
  ·have ao:((L.map λa=>if a.1=d then(d,a.2.1,g) else a).map λa=>(a.1,a.2.2))=(L.map λa=>(a.1,a.2.2)).map λa=>if a.1=d then(d,g) else a:=by
    simp only[ui];refine ju λa _=>?_;grind
   show((L.map λa=>if a.1=d then(d,a.2.1,g) else a).map λa=>(a.1,a.2.2)).Perm _;rw[ao];refine(Rl ?_ ?_).trans ((n.cons _).trans (Jq e.1).symm)
   ·rw[ui];exact e.nd
   grind
  ·have ao:((L.map λa=>if a.1=d then(d,a.2.1,g) else a).map λa=>a.2.1)=L.map λa=>a.2.1:=by
    grind [akt,List.map_map]
   show((L.map λa=>if a.1=d then(d,a.2.1,g) else a).map λa=>a.2.1).Nodup;rw[ao];exact e.2.2.1
  intro a f;obtain⟨p,o,rfl⟩:=fe.1 f;have:=e.2.2.2 p o;grind
 rw[aw h,akw h];refine⟨⟨Jr e.1,?_,?_,?_⟩,bo⟩
 ·have j:jn l d=l:=by
   unfold jn;rw[mU];intro a f;simp only[akn];rintro rfl;exact h (e.keys.mem_iff.2 (fe.2 ⟨a,f,bo⟩))
  have:=Jq (k:=d) (v:=g) e.1;rw[j] at this;refine List.Perm.trans ?_ this.symm;show((L++[(d,c,g)]).map λa=>(a.1,a.2.2)).Perm _;rw[j4];exact List.perm_append_comm.trans ((e.2.1).cons _)
 ·show((L++[(d,c,g)]).map λa=>a.2.1).Nodup;rw[j4,ji];refine⟨e.2.2.1,ac,λq m b s r=>?_⟩;obtain⟨a,f,rfl⟩:=fe.1 m;have:=e.2.2.2 a f;grind
 intro a f;rcases ha.1 f with f|f
 ·have:=e.2.2.2 a f;grind
 grind
theorem Of {α:Type} {h:Z}:∀{b:bn α} (a:α->Z) {f:X} {d:α},(b.map a).Nodup->b[f]?=Y d->a d=h->b.eraseIdx f=b.filter λi=>bu (a i≠h)
 |[],a,f,d,_,c,_=>by grind
 |x::b,a,0,d,e,c,g=>by simp only[qA,eT] at c;subst c;simp only[hX,kp] at e;rw[List.eraseIdx_cons_zero,pD,aw (by grind),mU.2];grind
 |x::b,a,f+1,d,e,c,g=>by simp only[wK] at c;simp only[hX,kp] at e;rw[List.eraseIdx_cons_succ,pD,ax,Of a e.2 c g];grind
def kH.del {α:Type} {L:bn (Z×X×α)} {l:bn (Z×α)} {c:X} (b:kH L l c) (d:Z):kH (L.filter λa=>bu (a.1≠d)) (jn l d) c:=by
 refine⟨YN b.1,?_,?_,λa e=>b.2.2.2 a (iF.1 e).1⟩
 ·have:=b.2.1.filter (λa=>bu (a.1≠d));rw[List.filter_map] at this;exact this
 exact b.2.2.1.sublist (Cn.map _)
def aT.PV (a:hn M w t b l c eY L):aT M w (.mp t) [.map (Y b)] (Y (l,c)) [b]:=⟨b,eY,L,bo,bo,a.pe,nL.2 a.h,a.n,a.e⟩
def aT.PU (a:aT M w (.mp t) g (Y (l,c)) k):∃b eY L,g=[.map (Y b)]/\k=[b]/\hn M w t b l c eY L:=by obtain⟨b,eY,L,d,e,f,h,i,j⟩:=a;exact⟨b,eY,L,d,e,f,nL.1 h,i,j⟩
def aT.af3 {a:dh} (d:aT M w (.e1 a t) g (Y (l,c)) k):∃b eY L,g=[.map (Y b)]/\k=[]/\M a b/\hn M w t b l c eY L:=by obtain⟨b,eY,L,e,f,h,n,i,j,m⟩:=d;exact⟨b,eY,L,e,f,n,h,nL.1 i,j,m⟩
def gG (w:bD) (b:X) (eY:bU cl) (c:X):World:={w with heap:=w.heap.setIfInBounds b (.map eY c)}
theorem oP (a:w.heap[b]?=Y (.map eY c)):(gG w b o i).heap[b]?=Y (.map o i):=by grind [Array.getElem?_eq_some_iff,gG]
theorem BQ {a:X} (c:i≠b):(gG w b o a).heap[i]?=w.heap[i]?:=by grind [Array.getElem?_setIfInBounds_ne,gG]
theorem Ss:(gG w b o i).heap.size=w.heap.size:=by simp[gG]
theorem aex {es':bU cl} {c':X} (d:w.heap[b]?=Y (.map eY c)) (a:Addr):(gG w b es' c').cell? a=w.cell? a:=by grind [aoc,BQ,oP,ak6]
theorem aey {es':bU cl} {c':X} (d:w.heap[b]?=Y (.map eY c)) (a:Addr):(gG w b es' c').frozen? a=w.frozen? a:=by grind [aod,BQ,oP,amn]
def Ge {a:X} (c:i≠b):c6 w (gG w b o a) i:=.of_heap (BQ c)
theorem hn.update (f:hn M w t b l c eY L) (I:P.underlying x=Y (.map a T)) (E:P.underlying a=Y (.int v)) (d:Z) {o:t.den} (ap:g.length=t.size) (ce:aT M w t g o []):∃u K,(akL x (.map (Y b)) (.int .i64 d) (cV t g)).run P w=.ok () (gG w b u (bif (fM l d).isSome then c else c+1))/\(∀{y:dh->X->Prop},(∀r d,M r d->y r d/\d≠b)->hn y (gG w b u (bif (fM l d).isSome then c else c+1)) t b (kh l d o) (bif (fM l d).isSome then c else c+1) u K)/\k5 w (gG w b u (bif (fM l d).isSome then c else c+1)) b:=by
 have a4:∀{y:dh->X->Prop} {u:bU cl} {N:X},(∀r d,M r d->y r d/\d≠b)->∀{g:ajT} {o:t.den},aT M w t g o []->aT y (gG w b u N) t g o []:=
  λz _ _ bx=>bx.mono (λr d C=>⟨(z r d C).1,Ge (z r d C).2⟩) ac
 obtain⟨q,cs⟩:=f.pe.put d o;rcases f.find (P:=P) E d with⟨D,G,H⟩|⟨B,c2,dg,ci,D,G,H,ad,co,am⟩
 ·rw[D] at q|-;have C:d∉L.map (·.1):=λcv=>(by grind);simp only[ane,bR] at q|-;have ao:(vP L d o c).1=L++[(d,c,o)]:=(by simp_all [aw,vP]);rw[ao] at q;refine⟨eY.push ⟨.int .i64 d,cV t g,c⟩,L++[(d,c,o)],?_,λz=>⟨q,oP f.h,by simp[f.n],λm k p=>?_⟩,?_⟩
  ·simp only[akL,bY,b8 I,b2,run_getObj_map f.h,oO E,H];exact qi f.h
  ·rcases cR m L.length with F|F
   ·rw[ug F] at p;obtain⟨U,Q,R,S⟩:=f.e m k p;grind
   rw[sa F] at p;have a0:m-L.length=0:=(by grind);rw[a0] at p;simp only[qA,eT] at p;subst p;exact⟨g,ap,by rw[Array.getElem?_push,ax (by rw[f.n];omega)],a4 z ce⟩
  intro V O A;rw[nL.2 f.h] at A;cases A;refine⟨_,_,nL.2 (oP f.h),Nat.le_succ _,λm s av an=>?_⟩;grind
 rw[D] at q|-;have C:d∈L.map (·.1):=fe.2 ⟨_,jg G,bo⟩;simp only[amo,bH] at q|-;have ao:(vP L d o c).1=L.map λk=>if k.1=d then(d,k.2.1,o) else k:=by simp_all [ax,vP]
 rw[ao] at q;have c1:∀(m:X) (k:Z×X×t.den),L[m]?=Y k->k.1=d->m=B:=λm k p s=>(by have bl:=f.pe.nd;have a1:m<(L.map (·.1)).length:=(by grind);have:=amp a1 bl (i:=m) (j:=B);grind);refine⟨eY.modify B λs=>{s with key:=.int .i64 d,val:=cV t g},L.map λk=>if k.1=d then(d,k.2.1,o) else k,?_,λz=>⟨q,oP f.h,by simp[f.n],λm k p=>?_⟩,?_⟩
 ·have a3:(alr (((eY[B]?).map (·.key)).getD (.int .i64 d)) (.int .i64 d)).run P w=.ok (.int .i64 d) w:=by
   rw[ad];simp[alr,anf]
  simp only[akL,bY,b8 I,b2,run_getObj_map f.h,oO E,am,a3];exact qi f.h
 ·rw[jI] at p;obtain⟨J,bs,rfl⟩:=fl.1 p;by_cases s:J.1=d
  ·grind
  rw[aw s];obtain⟨U,Q,R,S⟩:=f.e m J bs;grind
 intro V O A;rw[nL.2 f.h] at A;cases A;refine⟨_,_,nL.2 (oP f.h),bd _,λm s av an=>?_⟩;grind
theorem hn.delete (d:hn M w t b l c eY L) (H:P.underlying x=Y (.map a T)) (u:P.underlying a=Y (.int v)) (f:Z) (av:bG) (O:bG):∃k N,(ang #[x,O] av #[.map (Y b),.int .i64 f]).run P w=.ok (.tuple #[]) (gG w b k c)/\(∀{p:dh->X->Prop},(∀g f,M g f->p g f/\f≠b)->hn p (gG w b k c) t b (jn l f) c k N)/\k5 w (gG w b k c) b:=by
 have a3:∀{p:dh->X->Prop} {k:bU cl} {Q:X},(∀g f,M g f->p g f/\f≠b)->∀{C:ajT} {K:t.den},aT M w t C K []->aT p (gG w b k Q) t C K []:=
  λr _ _ ap=>ap.mono (λg f J=>⟨(r g f J).1,Ge (r g f J).2⟩) ac
 rcases d.find (P:=P) u f with⟨V,s,F⟩|⟨o,bl,bs,a0,V,s,F,G,a1,ad⟩
 ·have ao:jn l f=l:=by
   unfold jn;rw[mU];intro j a4;simp only[akn];grind [PB]
  refine⟨eY,L,?_,λr=>⟨by rw[ao];exact d.pe,oP d.h,d.n,λi j m=>?_⟩,?_⟩
  ·simp only[ang,bY,b8 H,b2,run_getObj_map d.h,oO u,F,anh,qA,wK];rw[qi d.h];rfl
  ·obtain⟨D,z,A,B⟩:=d.e i j m;grind
  intro U R q;rw[nL.2 d.h] at q;cases q;exact⟨_,_,nL.2 (oP d.h),bd _,λi E I _=>⟨i,E,I,bo,bo⟩⟩
 have S:L.eraseIdx o=L.filter λj=>bu (j.1≠f):=Of (·.1) d.pe.nd s bo;refine⟨eY.eraseIdxIfInBounds o,L.eraseIdx o,?_,λr=>⟨by rw[S];exact d.pe.del f,oP d.h,?_,λi j m=>?_⟩,?_⟩
 ·simp only[ang,bY,b8 H,b2,run_getObj_map d.h,oO u,ad,anh,qA,wK];rw[qi d.h];rfl
 ·have y:o<eY.size:=(rV.1 G).1;have am:o<L.length:=(hN.1 s).1;rw[aoj,ak7 y,Array.size_eraseIdx,List.length_eraseIdx,ax am,d.n]
 ·have y:o<eY.size:=(rV.1 G).1;rw[List.getElem?_eraseIdx] at m;rw[aoj,ak7 y];split at m
  ·rename_i an;obtain⟨D,z,A,B⟩:=d.e i j m;grind
  rename_i an;obtain⟨D,z,A,B⟩:=d.e (i+1) j m;grind
 intro U R q;rw[nL.2 d.h] at q;cases q;refine⟨_,_,nL.2 (oP d.h),bd _,λi E I _=>?_⟩;grind
end
end
section
section
variable {E:fk} {C:eW} {st:aO} {a:Act} {w:bD} {I:X->Prop} {rt:X->ajT} {fp:X->ajZ} {o:bS} {Q:al->bn (X×aK)->Prop}
def ln (tt:bn (bG×ai)) (b:bG):bw ai:=match aq tt b with|some (.mp a)=>Y a|some (.e1 _ a)=>Y a|_=>bq
theorem ln.ok {c:bG} {f:ai} (d:ln E.tt c=Y f):∃a b,E.P.underlying c=Y (.map a b)/\E.P.underlying a=Y (.int .i64)/\e9 E.P f b:=by
 unfold ln at d;split at d
 ·rename_i k e;cases d;obtain⟨j,a,b,_,_,_,_,g,h,i⟩:=E.ok c _ e;grind
 ·rename_i l k e;cases d;obtain⟨j,a,b,_,_,_,_,g,h,i⟩:=E.ok c _ e;grind
 grind
def yr (tt:bn (bG×ai)) (d:bn (X×ai)) (e:bn (X×aK)) (a:X) (c:bG):hZ:=
 match ln tt c,aq d a,aq e a with
 |some f,Y (.mp b),bq=>bif a9 f b then .eV (.ref a []) [(a,⟨.mp b,Y ([],0)⟩)] else .bad
 |_,_,_=>.bad
theorem Zb (f:cM C st a.tmps w I rt fp) (k:o.op=.makeMap x bq) (c:(yr E.tt l st.h b x).K Q):Yields E C st a w I rt fp o Q:=by
 unfold yr at c;split at c
 case h_2=>exact c.elim
 rename_i m d p q g;cases e:a9 m d with
 |false=>rw[e] at c;exact c.elim
 |true=>
 rw[e] at c;have i:(w.alloc (.map #[] 0)).heap[w.heap.size]?=Y (.map #[] 0):=(by show(w.heap.push _)[w.heap.size]?=_;grind);refine⟨.map (Y w.heap.size),w.alloc (.map #[] 0),I,λ_=>[.map (Y w.heap.size)],λ_=>[w.heap.size],.ref b [],[(b,⟨.mp d,Y ([],0)⟩)],?_,.alloc w _,λ_ c=>c,λ_ c=>.inl c,.one g (aT.PV (hn.empty _ _ i)) ac (λn e=>?_),?_,c⟩
 ·simp[bO,k,Instr.makeMap,newObj,Sem.run]
 ·simp only[fg] at e;subst e;exact⟨bd _,ac,λc=>by have:=f.ib _ (.inl c);omega⟩
 have j:aq ([(b,(⟨.mp d,Y ([],0)⟩:aK))]++st.h) b=Y ⟨.mp d,Y ([],0)⟩:=(by rw[zi,de,ax bo]);refine .ref (t:=⟨.mp d,Y ([],0)⟩) (τ':=.mp d) (loc:=bq) (cs:=[.map (Y w.heap.size)]) j ?_;have:e8 [(b,(⟨.mp d,Y ([],0)⟩:aK))] (λ_=>[als (Y w.heap.size)]) rt b=[.map (Y w.heap.size)]:=(by simp[e8,de]);grind [aX.here]
def Fc (a:ai) (c:bw (bn (Z×a.den)×X)) (d:a.den) (b:Z):bA->al
 |true=>.e6 [.val a ((gy c b).getD d),.val .bool (gy c b).isSome]
 |false=>.val a ((gy c b).getD d)
def vJ (tt:bn (bG×ai)) (j:bn (X×aK)) (i:bG) (k c:al) (f:bA):hZ:=
 match ln tt i,c with
 |some h,.val (.int .i64) c=>match k with
  |.val (.e1 l a) b=>match mi a with
   |some d=>bif a9 h a then .eV (Fc a b d c f) [] else .bad
   |none=>.bad
  |.ref id g=>match aq j id with
   |some e=>match fb e.1 g with
    |some (.mp a)=>match mi a with
     |some d=>bif a9 h a then .part (bw (bn (Z×a.den)×X)) (λb=>eK e.1 e.2 g (.mp a) b) (λb=>(Fc a b d c f,[])) else .bad
     |none=>.bad
    |_=>.bad
   |none=>.bad
  |_=>.bad
 |_,_=>.bad
theorem Pu {k:bG} (r:E.P.underlying k=Y (.map x T)) (f:E.P.underlying x=Y (.int .i64)) (M:e9 E.P d T) {H:bP} {e:bA} (Q:o.op=.lookup k c H e) {n:Z} (O:a.eval H=.int .i64 n) {u:d.den} (S:mi d=Y u) {m:bw (bn (Z×d.den)×X)} (g:(m=bq/\a.eval c=.map bq)\/∃l s p z y,m=Y (s,p)/\a.eval c=.map (Y l)/\hn (bb I C.B) w d l s p z y):∃t,(bO a.eval o).run E.P w=.ok (.value t) w/\∀A:bn (X×aK),cQ (bb I C.B) w A rt fp (Fc d m u n e) t:=by
 obtain⟨G,v,ay,V,ad,a1⟩:=wv M S;have F:(akg T).run E.P w=.ok v w:=(by simp[akg,akr,ay,V]);have U:∃i,aT (bb I C.B) w d i ((gy m n).getD u) []/\(amq k (a.eval c) (.int .i64 n) e).run E.P w=.ok (if e then .tuple #[cV d i,.bool (gy m n).isSome] else cV d i) w:=by
  rcases g with⟨rfl,g⟩|⟨l,s,p,z,y,rfl,g,q⟩
  ·refine⟨v.cells.toList,by grind [gy],?_⟩;rw[g];have N:(alS x (.int .i64 n) []).run E.P w=.ok bq w:=KT f bo;simp only[amq,bY,b8 r,b2,ct,oO f,N,F];rw[<-ad];cases e<;>rfl
  rw[g];rcases q.find (P:=E.P) f n with⟨b,_,K⟩|⟨a0,a3,a4,J,b,_,an,ap,av,L⟩
  ·refine⟨v.cells.toList,by grind [gy],?_⟩;simp only[amq,bY,b8 r,b2,ct,run_getObj_map q.h,oO f,K,F];grind [ane,gy]
  refine⟨J,by grind [gy],?_⟩;simp only[amq,bY,b8 r,b2,ct,run_getObj_map q.h,oO f,L];grind [amo,gy]
 obtain⟨i,D,R⟩:=U;refine⟨_,by simp only[bO,Q,O,bY,R];rfl,λA=>?_⟩;cases e with
 |false=>exact .val D
 |true=>
  refine .e6 ac (λG am t b j=>?_)
  match G with
  |0=>simp at b j;subst b;subst j;exact .val D
  |1=>simp at b j;subst b;subst j;exact .bool _
  |n+2=>grind
theorem aT.JC {b:bw (bn (Z×d.den)×X)} (f:aT e w (.mp d) g b k):(b=bq/\g=[.map bq]/\k=[])\/∃a h c j i,b=Y (h,c)/\g=[.map (Y a)]/\k=[a]/\hn e w d a h c j i:=by
 cases b with
 |none=>exact .inl ⟨bo,f.2,f.1⟩
 |some l=>
  obtain⟨h,c⟩:=l;obtain⟨a,j,i,m,n,o⟩:=f.PU;grind
theorem aT.Th {l:dh} {a:bw (bn (Z×d.den)×X)} (j:aT e w (.e1 l d) g a k):(a=bq/\g=[.map bq])\/∃b f c i h,a=Y (f,c)/\g=[.map (Y b)]/\hn e w d b f c i h:=by
 cases a with
 |none=>exact .inl ⟨bo,j.2⟩
 |some m=>
  obtain⟨f,c⟩:=m;obtain⟨b,i,h,n,_,_,o⟩:=j.af3;grind
theorem YF (s:cM C st a.tmps w I rt fp) {j:bP} {J:bA} (F:o.op=.lookup x c j J) (b:(vJ E.tt st.h x (aU st.g c) (aU st.g j) J).K Q):Yields E C st a w I rt fp o Q:=by
 have f:=s.aU c;have t:=s.aU j;unfold vJ at b;split at b
 case h_2=>exact b.elim
 rename_i O bs R P;obtain⟨a0,a1,L,M,N⟩:=ln.ok R;rw[P] at t;generalize D:a.eval j=bl at t;cases t with|val ad=>
 obtain⟨_,rfl⟩:=ad;split at b
 ·rename_i av B y r;split at b
  case h_2=>exact b.elim
  rename_i ap u;cases e:a9 O B with
  |false=>rw[e] at b;exact b.elim
  |true=>
  rw[e] at b;rw[r] at f;generalize i:a.eval c=an at f;cases f with|val V=>
  obtain⟨am,z,A⟩:=Pu (rt:=rt) (fp:=fp) (I:=I) (C:=C) (E:=E) (w:=w) (a:=a) (m:=y) L M (N.lay e) F D u (by
   rcases V.Th with⟨ao,d⟩|⟨l,v,n,q,k,ao,d,p⟩
   ·exact .inl ⟨ao,by rw[i,d];rfl⟩
   exact .inr ⟨l,v,n,q,k,ao,by rw[i,d];rfl,p⟩)
  exact .pure z (A _) b
 ·rename_i id bx r;split at b
  case h_2=>exact b.elim
  rename_i ce G;split at b
  case h_2=>exact b.elim
  rename_i B a4;split at b
  case h_2=>exact b.elim
  rename_i ap u;cases e:a9 O B with
  |false=>rw[e] at b;exact b.elim
  |true=>
  rw[e] at b;obtain⟨y,S,b⟩:=b;rw[r] at f;generalize i:a.eval c=an at f;cases f with|ref H T=>
  rw[G] at H;cases H;obtain⟨rfl,a3,U,_⟩:=s.lj G S T;obtain⟨am,z,A⟩:=Pu (rt:=rt) (fp:=fp) (I:=I) (C:=C) (E:=E) (w:=w) (a:=a) (m:=y) L M (N.lay e) F D u (by
   rcases U.JC with⟨ao,d,_⟩|⟨l,v,n,q,k,ao,d,_,p⟩
   ·exact .inl ⟨ao,by rw[i,d];rfl⟩
   exact .inr ⟨l,v,n,q,k,ao,by rw[i,d];rfl,p⟩)
  exact .pure z (A _) b
 exact b.elim
def vN (tt:bn (bG×ai)) (f:bn (X×aK)) (e:bG) (g:al):hZ:=
 match ln tt e with
 |none=>.bad
 |some _=>match g with
  |.val (.e1 _ b) a=>.eV (.val (.int .i64) (yo (α:=b.den) a)) []
  |.ref id d=>match aq f id with
   |some c=>match fb c.1 d with
    |some (.mp b)=>.part (bw (bn (Z×b.den)×X)) (λa=>eK c.1 c.2 d (.mp b) a) (λa=>(.val (.int .i64) (yo a),[]))
    |_=>.bad
   |none=>.bad
  |_=>.bad
def PR {q:bG} (l:E.P.underlying x=Y (.map T q)) (p:o.op=.call {callee:=.builtin .len,args:=#[c],argTypes:=#[x]}) {m:bw (bn (Z×d.den)×X)} (b:(m=bq/\a.eval c=.map bq)\/∃f e g i k,m=Y (e,g)/\a.eval c=.map (Y f)/\hn (bb I C.B) w d f e g i k):(bO a.eval o).run E.P w=.ok (.value (.int .i64 (yo m))) w:=by
 rcases b with⟨rfl,b⟩|⟨f,e,g,i,k,rfl,b,j⟩
 ·simp[bO,p,akC,invoke,akU,b,am7,b8 l,goInt,yo]
 have r:i.size=e.length:=(by rw[j.n,j.pe.len]);simp only[bO,p,akC,invoke,akU,bY,ct,b2,amr,hX,qD,b,am7,anh,qA,b8 l,run_getObj_map j.h,goInt,yo,r]
theorem Zd (s:cM C st a.tmps w I rt fp) (t:o.op=.call {callee:=.builtin .len,args:=#[c],argTypes:=#[x]}) (b:(vN E.tt st.h x (aU st.g c)).K Q):Yields E C st a w I rt fp o Q:=by
 have e:=s.aU c;unfold vN at b;split at b
 ·exact b.elim
 rename_i S z;obtain⟨J,L,y,P,R⟩:=ln.ok z;generalize f:a.eval c=T at e;split at b
 ·rename_i H G r p;rw[p] at e;cases e with|val F=>
  refine .pure (PR (I:=I) (C:=C) (m:=r) y t ?_) (.int _ _) b;rcases F.Th with⟨ao,d⟩|⟨j,q,k,n,i,ao,d,l⟩
  ·exact .inl ⟨ao,by rw[f,d];rfl⟩
  exact .inr ⟨j,q,k,n,i,ao,by rw[f,d];rfl,l⟩
 ·rename_i id O p;split at b
  case h_2=>exact b.elim
  rename_i U u;split at b
  case h_2=>exact b.elim
  rename_i G N;obtain⟨r,A,b⟩:=b;rw[p] at e;cases e with|ref v B=>
  rw[u] at v;cases v;obtain⟨rfl,M,D,_⟩:=s.lj u A B;refine .pure (PR (I:=I) (C:=C) (m:=r) y t ?_) (.int _ _) b;rcases D.JC with⟨ao,d,_⟩|⟨j,q,k,n,i,ao,d,_,l⟩
  ·exact .inl ⟨ao,by rw[f,d];rfl⟩
  exact .inr ⟨j,q,k,n,i,ao,by rw[f,d];rfl,l⟩
 exact b.elim
end
end
section
section
variable {E:fk} {C:eW} {st:aO} {a:Act} {w:bD} {I:X->Prop} {rt:X->ajT} {fp:X->ajZ} {o:bS} {Q:al->bn (X×aK)->Prop}
def FP (b c d:al):hZ:=
 match b with
 |.val .bool b=>.part bA (λa=>b=a) (λa=>(match a with|true=>c|false=>d,[]))
 |_=>.bad
theorem acZ (e:cM C st a.tmps w I rt fp) {d:bP} (m:o.op=.pick c h d) (b:(FP (aU st.g c) (aU st.g h) (aU st.g d)).K Q):Yields E C st a w I rt fp o Q:=by
 have f:=e.aU c;unfold FP at b;split at b
 case h_2=>exact b.elim
 rename_i i j;obtain⟨i,rfl,b⟩:=b;rw[j] at f;generalize n:a.eval c=l at f;cases f with|val k=>
 obtain⟨_,rfl⟩:=k;cases i
 ·exact .pure (v:=a.eval d) (by simp_all [bO,cV,asBool]) (e.aU d) b
 exact .pure (v:=a.eval h) (by simp_all [bO,cV,asBool]) (e.aU h) b
def Lo (e:UnOp) (c:al):hZ:=
 match e,c with
 |.neg,.val (.int a) c=>.part Z (λb=>a.wrap (0-c)=b) (λb=>(.val (.int a) b,[]))
 |.xor,.val (.int a) c=>.part Z (λb=>a.wrap (ch a.bits (if a.signed then-1 else a.max)^^^ch a.bits c).toNat=b) (λb=>(.val (.int a) b,[]))
 |.not,.val .bool d=>.eV (.val .bool (!d)) []
 |_,_=>.bad
theorem afA (j:cM C st a.tmps w I rt fp) {i:UnOp} (p:o.op=.unOp i x c) (b:(Lo i (aU st.g c)).K Q):Yields E C st a w I rt fp o Q:=by
 have d:=j.aU c;unfold Lo at b;generalize q:a.eval c=m at d;split at b
 ·rename_i f k e;obtain⟨l,rfl,b⟩:=b;rw[e] at d;cases d with|val h=>
  obtain⟨_,rfl⟩:=h;exact .pure (v:=.int f _) (by simp_all [bO,cV,ani,Op.intArith]) (.int f _) b
 ·rename_i f k e;obtain⟨l,rfl,b⟩:=b;rw[e] at d;cases d with|val h=>
  obtain⟨_,rfl⟩:=h;exact .pure (v:=.int f _) (by simp_all [bO,cV,ani,Op.intBits]) (.int f _) b
 ·rename_i n e;rw[e] at d;cases d with|val h=>
  obtain⟨_,rfl⟩:=h;exact .pure (v:=.bool _) (by simp_all [bO,cV,ani]) (.bool _) b
 exact b.elim
def CX (tt:bn (bG×ai)) (e d:bG) (a:al):hZ:=
 match aq tt e,aq tt d,a with
 |some (.int _),Y (.int c),.val (.int _) a=>.part Z (λb=>c.wrap a=b) (λb=>(.val (.int c) b,[]))
 |_,_,_=>.bad
theorem VV (j:cM C st a.tmps w I rt fp) (m:o.op=.convert T x c) (b:(CX E.tt T x (aU st.g c)).K Q):Yields E C st a w I rt fp o Q:=by
 have d:=j.aU c;unfold CX at b;split at b
 case h_2=>exact b.elim
 rename_i p e q r h i f;obtain⟨u,rfl,b⟩:=b;generalize n:a.eval c=l at d;rw[f] at d;cases d with|val k=>
 obtain⟨_,rfl⟩:=k;obtain⟨_,_,_,_,_,s⟩:=E.ok T _ h;obtain⟨_,_,_,_,_,t⟩:=E.ok x _ i;exact .pure (v:=.int e _) (by simp_all [b8,bO,cV,convert,Conv.intToInt]) (.int e _) b
def qn (c:ByteArray) (a:Z):ajU:=if 0<=a then(c[a.toNat]?).map λb=>(b.toNat:Z) else bq
def Fa:ByteArray:=⟨#[0,1,2,2,3,3,3,3,4,4,4,4,4,4,4,4,5,5,5,5,5,5,5,5,5,5,5,5,5,5,5,5,6,6,6,6,6,6,6,6,6,6,6,6,6,6,6,6,6,6,6,6,6,6,6,6,6,6,6,6,6,6,6,6,7,7,7,7,7,7,7,7,7,7,7,7,7,7,7,7,7,7,7,7,7,7,7,7,7,7,7,7,7,7,7,7,7,7,7,7,7,7,7,7,7,7,7,7,7,7,7,7,7,7,7,7,7,7,7,7,7,7,7,7,7,7,7,7,8,8,8,8,8,8,8,8,8,8,8,8,8,8,8,8,8,8,8,8,8,8,8,8,8,8,8,8,8,8,8,8,8,8,8,8,8,8,8,8,8,8,8,8,8,8,8,8,8,8,8,8,8,8,8,8,8,8,8,8,8,8,8,8,8,8,8,8,8,8,8,8,8,8,8,8,8,8,8,8,8,8,8,8,8,8,8,8,8,8,8,8,8,8,8,8,8,8,8,8,8,8,8,8,8,8,8,8,8,8,8,8,8,8,8,8,8,8,8,8,8,8,8,8,8,8,8,8]⟩
def Gj (tt:bn (bG×ai)) (d:bG) (f e:al):hZ:=
 match aq tt d,f,e with
 |some .str,.dd (.string c),.val (.int _) b=>.part Z (λa=>qn c b=Y a) (λa=>(.val (.int .u8) a,[]))
 |some .str,.val .str c,.val (.int _) b=>.part Z (λa=>qn c b=Y a) (λa=>(.val (.int .u8) a,[]))
 |_,_,_=>.bad
theorem ae1 (y:cM C st a.tmps w I rt fp) (H:o.op=.index x h c) (l:(Gj E.tt x (aU st.g h) (aU st.g c)).K Q):Yields E C st a w I rt fp o Q:=by
 have j:=y.aU h;have i:=y.aU c;have u:∀(f:ByteArray) (k:cr) (e b:Z),aq E.tt x=Y .str->a.eval h=.string f->a.eval c=.int k e->qn f e=Y b->Q (.val (.int .u8) b) []->Yields E C st a w I rt fp o Q:=by
  intro f k e b m q p d n;obtain⟨_,_,_,_,_,z⟩:=E.ok x _ m;refine .pure (v:=.int .u8 b) ?_ (.int .u8 b) n;unfold qn at d;split at d
  case isFalse=>cases d
  rename_i F;obtain⟨D,G,rfl⟩:=fl.1 d;simp_all [b8,bO,Instr.index,ak4]
 unfold Gj at l;split at l
 ·rename_i f k e m q p;obtain⟨b,d,n⟩:=l;rw[q] at j;rw[p] at i;generalize s:a.eval h=A at j;generalize r:a.eval c=z at i;cases j;cases i with|val t=>
  obtain⟨_,rfl⟩:=t;exact u f k e b m s r d n
 ·rename_i f k e m q p;obtain⟨b,d,n⟩:=l;rw[q] at j;rw[p] at i;generalize s:a.eval h=A at j;generalize r:a.eval c=z at i;cases j with|val B=>
  obtain⟨_,rfl⟩:=B;cases i with|val t=>
  obtain⟨_,rfl⟩:=t;exact u f k e b m s r d n
 exact l.elim
def EE (d:al) (c:X):hZ:=
 match d with
 |.e6 b=>match b[c]? with
  |some a=>.eV a []
  |none=>.bad
 |_=>.bad
theorem WM (j:cM C st a.tmps w I rt fp) (q:o.op=.extract c b) (d:(EE (aU st.g c) b).K Q):Yields E C st a w I rt fp o Q:=by
 have f:=j.aU c;unfold EE at d;generalize r:a.eval c=n at f;split at d
 case h_2=>exact d.elim
 rename_i s i;split at d
 case h_2=>exact d.elim
 rename_i h l;rw[i] at f;cases f with|e6 p k=>
 rename_i e;have m:b<e.size:=(by grind);have:e[b]?=Y e[b]:=Cb m;exact .pure (v:=e[b]) (by simp_all [bO,Instr.extract]) (k b h _ l this) d
def yt (c:bA) (a:al):bn al->hZ
 |[]=>.eV a []
 |y::d=>match a,y with
  |.val (.int b) a,.val (.int e) y=>if b=e then(match c with|true=>yt c (.val (.int b) (if y>a then y else a)) d|false=>yt c (.val (.int b) (if y<a then y else a)) d) else .bad
  |_,_=>.bad
def Fl (j:cM C st a.tmps w I rt fp) (m:bA):∀(e:bn bP) (i:al) (f:Value),cQ (bb I C.B) w st.h rt fp i f->(yt m i (e.map (aU st.g))).K Q->∃d c,((e.map a.eval).foldlM (match m with|true=>Builtin.max2|false=>Builtin.min2) f).run E.P w=.ok d w/\cQ (bb I C.B) w st.h rt fp c d/\Q c []
 |[],i,f,k,b=>⟨f,i,bo,k,b⟩
 |y::e,i,f,k,b=>by
  have l:=j.aU y;simp only[hX,yt] at b;generalize p:a.eval y=A at l;split at b
  case h_2=>exact b.elim
  rename_i q x v z r;split at b
  case isFalse=>exact b.elim
  rename_i s;subst s;rw[r] at l;cases k with|val t=>cases l with|val u=>
  obtain⟨_,rfl⟩:=t;obtain⟨_,rfl⟩:=u;cases m
  ·obtain⟨d,c,ay,n,o⟩:=Fl j br e _ _ (.int q _) b;refine⟨d,c,?_,n,o⟩;simp only[hX,aok,p,bY];exact ay
  obtain⟨d,c,ay,n,o⟩:=Fl j bp e _ _ (.int q _) b;refine⟨d,c,?_,n,o⟩;simp only[hX,aok,p,bY];exact ay
def I2:al->bA
 |.val _ _|.dd _|.da _ _=>bp
 |_=>br
def gY (tt:bn (bG×ai)) (i:bn (X×ai)) (d:bn (X×aK)) (b:bP->al) (g:X) (h:Op):hZ:=
 match h with
 |.move a=>.eV (b a) []
 |.assign a=>bif I2 (b a) then .eV (b a) [] else .bad
 |.pick f a n=>FP (b f) (b a) (b n)
 |.alloc c=>w5 tt i d g c
 |.box c a=>zG tt d g c (b a)
 |.build c l=>zF tt b c l.toList
 |.buildSlice c e l=>xg tt i d b g c e l.toList
 |.load c a=>vI tt d c (b a)
 |.nilCheck a=>vQ d (b a)
 |.binOp h c a n _=>match b a,b n with
  |.val .bool x,.val .bool y=>match aq tt c with
   |some .bool=>Hh h (.val .bool x) (.val .bool y)
   |_=>.bad
  |.val (.int k) v,.val (.int s) e=>l0 h k v s e
  |_,_=>.bad
 |.unOp h _ a=>Lo h (b a)
 |.convert z g a=>CX tt z g (b a)
 |.makeSlice c t f=>vK tt i d g c (b t) (b f)
 |.slice c a u r bq=>wi tt d c (b a) (u.map b) (r.map b)
 |.fieldAddr c a e=>vu tt d c (b a) e
 |.field c a e=>x2 tt d c (b a) e
 |.indexAddr c a j=>vA tt d c (b a) (b j)
 |.index c a j=>Gj tt c (b a) (b j)
 |.extract a e=>EE (b a) e
 |.call f=>match f.callee,f.args.toList,f.argTypes.toList with
  |.builtin .len,[a],[c]=>match gR tt c with
   |some _=>vG tt d c (b a)
   |none=>vN tt d c (b a)
  |.builtin .max,a::m,_=>yt bp (b a) (m.map b)
  |.builtin .min,a::m,_=>yt br (b a) (m.map b)
  |_,_,_=>.bad
 |.makeMap c bq=>yr tt i d g c
 |.lookup c a k w=>vJ tt d c (b a) (b k) w
 |.makeFunc (.func p) q o=>bif q.isEmpty then .eV (.da p (o.toList.map b)) [] else .bad
 |_=>.bad
theorem WH (f:cM C st a.tmps w I rt fp) (c:(gY E.tt l st.h (aU st.g) b o.op).K Q):Yields E C st a w I rt fp o Q:=by
 unfold gY at c;split at c
 ·rename_i d e;exact .pure (v:=a.eval d) (by simp[bO,e]) (f.aU d) c
 ·rename_i d e;cases z:I2 (aU st.g d) with
  |false=>rw[z] at c;exact c.elim
  |true=>rw[z] at c;exact .pure (v:=a.eval d) (by simp[bO,e]) (f.aU d) c
 ·grind [acZ]
 ·grind [UJ]
 ·grind [Vi]
 ·grind [Vf]
 ·grind [Vm]
 ·grind [YC]
 ·grind [Zn]
 ·rename_i am k d r an e;split at c
  ·rename_i L M s t;split at c
   ·rename_i J;refine MF f e (λ_ _ _ _=>?_) (by grind);exact(E.ok k _ J).choose_spec.2.2.2.2
   exact c.elim
  ·rename_i s t;refine MF f e (λL M _ T=>?_) (by rw[s,t];exact c);grind
  exact c.elim
 ·grind [afA]
 ·grind [VV]
 ·grind [YT]
 ·grind [aeJ]
 ·grind [W3]
 ·grind [W5]
 ·grind [XO]
 ·grind [ae1]
 ·grind [WM]
 ·rename_i F e;obtain⟨P,m,B⟩:=F;simp only at c;split at c
  ·rename_i d k ao R;have j:m=#[d]:=(by grind);have S:B=#[k]:=(by grind);grind [Zd,Yw]
  ·rename_i d i ao;have j:m=(d::i).toArray:=(by grind);obtain⟨q,D,ay,n,p⟩:=Fl (E:=E) f bp i _ _ (f.aU d) c;refine .pure (v:=q) ?_ n p;simp only[bO,e,akC,invoke,akU,bY,ct,b2,j,Builtin.max_];simp_all
  ·rename_i d i ao;have j:m=(d::i).toArray:=(by grind);obtain⟨q,D,ay,n,p⟩:=Fl (E:=E) f br i _ _ (f.aU d) c;refine .pure (v:=q) ?_ n p;simp only[bO,e,akC,invoke,akU,bY,ct,b2,j,Builtin.min_];simp_all
  exact c.elim
 ·grind [Zb]
 ·grind [YF]
 ·rename_i H u G e;cases A:u.isEmpty with
  |false=>rw[A] at c;exact c.elim
  |true=>
   rw[A] at c;obtain rfl:u=#[]:=(by grind);refine .pure (v:=.func (.func H) #[] (G.map a.eval)) (by simp[bO,e,Instr.makeFunc]) (.da ac (λad d O x y=>?_)) c;rw[jI] at x;rw[Array.getElem?_map] at y;obtain⟨r,U,rfl⟩:=fl.1 x;obtain⟨N,V,rfl⟩:=fl.1 y;obtain rfl:r=N:=(by grind);exact f.aU r
 exact c.elim
end
end
def eQ (b:X) (a:ajZ):bA:=a.any λc=>bI c b
theorem g8:eQ b k=bp↔b∈k:=by grind [alT,akJ,aol,eQ]
def al.fc (a:ajZ) (b:al):bA:=b.ids.any λc=>eQ c a
def wg:bn aZ->bw (bn aZ)
 |.unst::a=>(wg a).map λb=>.unst::b
 |.fst::_=>Y [.snd]
 |.snd::_=>Y [.fst]
 |_=>bq
def rK:bn aZ->bn aZ->bw (bn aZ)
 |p,[]=>wg p
 |.idx _::p,.idx _::a=>rK p a
 |.deref::p,.deref::a=>rK p a
 |.unst::p,.unst::a=>rK p a
 |.fst::p,.fst::a=>rK p a
 |.snd::p,.snd::a=>rK p a
 |_,_=>bq
def I5 (a b:bn aZ):bA:=g7 a b||(rK a b).isSome
def SB:∀{p b:bn aZ},wg p=Y b->g7 p b=bp
 |.unst::p,b,a=>by obtain⟨d,c,rfl⟩:=fl.1 a;exact SB (p:=p) c
 |.fst::_,_,a=>by cases a;rfl
 |.snd::_,_,a=>by cases a;rfl
 |[],_,a=>by cases a
 |.idx _::_,_,a=>by cases a
 |.deref::_,_,a=>by cases a
def SA:∀{q p b:bn aZ},rK p q=Y b->g7 p (q++b)=bp
 |[],p,b,a=>by have c:wg p=Y b:=(by cases p<;>exact a);exact SB c
 |s::q,p,b,a=>by
  cases p with
  |nil=>cases s<;>cases a
  |cons d p=>cases s<;>cases d<;>first|(cases a;done)|exact SA (q:=q) (p:=p) a
theorem SC:∀{p e:bn aZ} {τ h:ai},fb τ p=Y h->wg p=Y e->∃(o:ai) (m:X),∀(i:bD) (c:Loc) (g:ajT),∃k,aX i τ c g e o (c.map λd=>(d.1,d.2+m)) k
 |.unst::p,e,τ,h,b,a=>by
  obtain⟨q,l,rfl⟩:=fl.1 a;cases τ with
  |st n=>exact SC (p:=p) (τ:=n) b l
  |_=>cases b
 |.fst::p,e,τ,h,b,a=>by
  cases a;cases τ with
  |pr f j=>exact⟨j,f.size,λi c g=>⟨_,aX.here⟩⟩
  |_=>cases b
 |.snd::p,e,τ,h,b,a=>by
  cases a;cases τ with
  |pr f j=>
   refine⟨f,0,λi c g=>⟨g.take f.size,?_⟩⟩;have:(c.map λd=>(d.1,d.2+0))=c:=(by simp_all);rw[this];exact aX.here
  |_=>cases b
 |[],_,_,_,_,a=>by cases a
 |.idx _::_,_,_,_,_,a=>by cases a
 |.deref::_,_,_,_,_,a=>by cases a
theorem yT {n:bD}:∀{q p d:bn aZ} {e f:ai} {j:Loc} {i:ajT} {g:ai} {k:Loc} {h:ajT},fb e p=Y f->rK p q=Y d->aX n e j i q g k h->∃l,fb g l=Y f/\wg l=Y d
 |[],p,d,e,f,j,i,g,k,h,c,b,a=>by obtain⟨rfl,_,_⟩:=aX.gq.1 a;have o:wg p=Y d:=(by cases p<;>exact b);grind
 |s::q,p,d,e,f,j,i,g,k,h,c,b,a=>by
  cases p with
  |nil=>cases s<;>cases b
  |cons m p=>
   cases e<;>cases s<;>simp only[aX] at a<;>cases m<;>first|(cases b;done)|skip
   case osl.idx.idx=>obtain⟨_,_,_,_,_,_,_,_,_,a⟩:=a;exact yT (q:=q) (p:=p) c b a
   case optr.deref.deref=>obtain⟨_,_,_,_,_,_,a⟩:=a;exact yT (q:=q) (p:=p) c b a
   case st.unst.unst=>exact yT (q:=q) (p:=p) c b a
   case pr.fst.fst=>exact yT (q:=q) (p:=p) c b a
   case pr.snd.snd=>exact yT (q:=q) (p:=p) c b a
def aX.split {u:bD}:∀{q j:bn aZ} {d k:ai} {g i:Loc} {f h:ajT},aX u d g f (q++j) k i h->∃e c b,aX u d g f q e c b/\aX u e c b j k i h
 |[],j,d,k,g,i,f,h,a=>⟨d,g,f,aX.here,a⟩
 |s::q,j,d,k,g,i,f,h,a=>by
  rw[n1] at a;cases d<;>cases s<;>simp only[aX] at a
  case osl.idx=>
   obtain⟨l,t,x,v,m,ao,n,o,w,a⟩:=a;obtain⟨e,c,b,p,r⟩:=aX.split (q:=q) a;exact⟨e,c,b,⟨l,t,x,v,m,ao,n,o,w,p⟩,r⟩
  case optr.deref=>
   obtain⟨l,t,m,ao,n,o,a⟩:=a;obtain⟨e,c,b,p,r⟩:=aX.split (q:=q) a;exact⟨e,c,b,⟨l,t,m,ao,n,o,p⟩,r⟩
  case st.unst=>exact aX.split (q:=q) a
  case pr.fst=>exact aX.split (q:=q) a
  case pr.snd=>exact aX.split (q:=q) a
theorem aX.upper {B:ai} {c A:bn aZ} (z:fb d c=Y B) (h:rK c n=Y A) (a:aX f d bq y n r (Y (b,i)) g) (x:∀(n:bn aZ) (r:ai) (k:Loc) (g:ajT),g7 c n=bp->aX f d bq y n r k g->aX m d bq y n r k g):∃o,aX m d bq y n r (Y (b,i)) o:=by
 obtain⟨F,q,s⟩:=yT z h a;obtain⟨I,E,e⟩:=SC q s;obtain⟨C,t⟩:=e f (Y (b,i)) g;obtain⟨H,j,l,u,v⟩:=aX.split (x _ _ _ _ (SA h) (a.append t));have ao:=u.ty;rw[a.ty] at ao;obtain rfl:=gb ao;obtain⟨D,w⟩:=e m j l;obtain⟨_,p,_⟩:=v.kR w;cases j with
 |none=>cases p
 |some G=>
  grind
def lp (c:bn (X×bn aZ)):al->bA
 |.ref id []=>c.any λa=>bI a.1 id
 |.ref id b=>c.any λa=>bI a.1 id&&g7 a.2 b
 |.addr id b=>c.any λa=>bI a.1 id&&I5 a.2 b
 |.view id b _ _=>c.any λa=>bI a.1 id&&g7 a.2 b
 |_=>br
def kz (c:ajZ) (b:bn (X×bn aZ)):al->bA
 |.da _ f=>f.all λa=>!(a.fc c)||lp b a
 |.hz a=>lp b a
 |.app id h _ _ g=>(g.all λe=>!(eQ e c))&&b.any λd=>bI d.1 id&&lf d.2 h
 |a=>lp b a
def e5 (b:ajZ) (c:bn (X×bn aZ)) (a:al):al:=bif a.fc b&&!(kz b c a) then .dead else a
def fC (b:ajZ) (c:bn (X×bn aZ)):al->al
 |.e6 d=>.e6 (d.map (e5 b c))
 |a=>e5 b c a
def kill (b:ajZ) (d:bn (X×bn aZ)) (c:bn (X×al)):bn (X×al):=c.map λa=>(a.1,fC b d a.2)
def del (a:ajZ) (b:bn (X×aK)):bn (X×aK):=b.filter λc=>!(eQ c.1 a)
theorem E4 (a:bn aZ):g7 [] a=br:=by grind [g7,nH]
def ye (b:ajZ):bn (X×bn aZ):=b.map λa=>(a,[])
theorem p7 (c:ajZ) (e:bn (X×bn aZ)):∀(d:bn (X×al)) (b:X),gt (kill c e d) b=fC c e (gt d b)
 |[],b=>by simp[kill,gt,aq,fC,e5,al.fc,al.ids]
 |(f,a)::d,b=>by
  show gt ((f,fC c e a)::kill c e d) b=_;rw[i4,i4];split
  ·rfl
  exact p7 c e d b
theorem m7 (a:ajZ):∀(c:bn (X×aK)) (b:X),aq (del a c) b=if b∈a then bq else aq c b
 |[],b=>by simp[del,aq]
 |(d,t)::c,b=>by
  have f:=m7 a c b;simp only[del] at f|-;rw[pD];cases e:eQ d a with
  |true=>
   have:d∈a:=g8.1 e;simp only[gI,Bool.false_eq_true,akT];grind [de]
  |false=>
   have:d∉a:=λc=>(by grind [g8]);simp only[ml,cg];grind [de]
theorem Lr (a:V.fc k=br):∀id∈V.ids,id∉k:=λid c b=>by grind [aol,g8,al.fc]
structure ns (C:eW) (st:aO) (w w':bD) (I I':X->Prop) (rt:X->ajT) (fp:X->ajZ) (S:ajZ) (Pa:bn (X×bn aZ)) (new:bn (X×aK)) (rtn:X->ajT) (fpn:X->ajZ):Prop where
 size:w.heap.size<=w'.heap.size
 os:w'.os=w.os
 tape:w'.tape=w.tape
 output:w'.output=w.output
 heap:∀b,b<w.heap.size->(∀id∈S,∀t,aq st.h id=Y t->b∉fp id)->w'.heap[b]?=w.heap[b]?
 evo:∀b,b<w.heap.size->k5 w w' b
 i:∀b,I b->I' b
 i2:∀b,I' b->I b\/(b<w'.heap.size/\(w.heap.size<=b\/∃id∈S,∃t,aq st.h id=Y t/\b∈fp id))
 tree:∀id t,aq new id=Y t->(id∈S\/aq st.h id=bq)/\aT (bb I' C.B) w' t.1 (rtn id) t.2 (fpn id)/\(fpn id).Nodup/\∀b∈fpn id,¬I' b/\b<w'.heap.size/\(w.heap.size<=b\/∃OT∈S,∃t',aq st.h OT=Y t'/\b∈fp OT)
 dis:∀i j t u,aq new i=Y t->aq new j=Y u->i≠j->∀b∈fpn i,b∉fpn j
 keep:∀e∈Pa,∀t,aq st.h e.1=Y t->∃t',aq new e.1=Y t'/\t'.1=t.1/\rtn e.1=rt e.1/\(∃agx,fb t.1 e.2=Y agx)/\∀(q:bn aZ) (Tt:ai) (Pz:Loc) (Nm:ajT),g7 e.2 q=bp->aX w t.1 bq (rt e.1) q Tt Pz Nm->aX w' t.1 bq (rt e.1) q Tt Pz Nm
 app:∀e∈Pa,∀t,aq st.h e.1=Y t->∀(q:bn aZ) (τ:ai) (xs:bn τ.den) (loc:Loc) (zI:ajT) (f1:ajZ),lf e.2 q=bp->τ.kW=bp->aX w t.1 bq (rt e.1) q (.osl τ) loc zI->eK t.1 t.2 q (.osl τ) xs->aT (bb I C.B) w (.osl τ) zI xs f1->∃t',aq new e.1=Y t'/\eK t'.1 t'.2 q (.osl τ) xs/\∀b∈f1,b∈fpn e.1/\c6 w w' b
theorem cM.eI {w':bD} {I':X->Prop} {rtn:X->ajT} {fpn:X->ajZ} {S:ajZ} {keep:bn (X×bn aZ)} {new:bn (X×aK)} (e:cM U O z f j p q) (l:ns U O f w' j I' p q S keep new rtn fpn):cM U ⟨kill S keep O.g,new++del S O.h⟩ z w' I' (e8 new rtn p) (e8 new fpn q):=by
 have V:∀a0 a,bb j U.B a0 a->bb I' U.B a0 a/\c6 f w' a:=λa0 a b=>by
  refine⟨?_,.of_heap (l.heap a (e.ib a (m8 b)) (λid _ c k fp=>e.notM k a fp a0 b))⟩;cases a0
  ·exact l.i a b
  exact b.imp (l.i a) id
 have ci:∀id c,aq (new++del S O.h) id=Y c->(aq new id=Y c/\e8 new rtn p id=rtn id/\e8 new fpn q id=fpn id)\/(aq new id=bq/\id∉S/\aq O.h id=Y c/\e8 new rtn p id=p id/\e8 new fpn q id=q id):=λid c k=>by
  rw[kV,m7] at k;cases J:aq new id with
  |none=>
   rw[J] at k;simp only[Option.none_or] at k;split at k
   ·cases k
   rename_i D;exact .inr ⟨bo,D,k,by simp[e8,J],by simp[e8,J]⟩
  |some l=>grind [e8]
 have dg:∀id c,aq O.h id=Y c->id∉S->∀a∈q id,c6 f w' a:=λid c k D a b=>.of_heap (l.heap a ((e.tree id c k).2.2 a b).2.2.1 (λI av r H A=>
  e.dis id I c r k H (λd=>D (by grind)) a b A))
 have em:∀id c,aq O.h id=Y c->id∉S->∀a∈q id,¬I' a:=λid c k D a b K=>by
  have u:=(e.tree id c k).2.2 a b;rcases l.i2 a K with K|⟨_,K|⟨I,av,r,H,A⟩⟩
  ·grind
  ·omega
  exact e.dis id I c r k H (λd=>D (by grind)) a b A
 refine{n:=e.n,i0:=λa b=>l.i a (e.i0 a b),i1:=?_,ib:=?_,tree:=?_,dis:=?_,tmp:=?_,frame:=?_,evo:=λa b=>(e.evo a b).trans (l.evo a (iT b e.size)),size:=di e.size l.size,os:=l.os.trans e.os,tape:=l.tape.trans e.tape,output:=l.output.trans e.output,pin:=e.pin}
 ·intro a b;rcases l.i2 a b with b|⟨_,b|⟨I,av,r,H,A⟩⟩
  ·exact e.i1 a b
  ·exact .inr (.inl (di e.size b))
  exact .inr ((e.tree I r H).2.2 a A).2.2.2
 ·intro a b;rcases b with b|b
  ·rcases l.i2 a b with b|⟨b,_⟩
   ·exact iT (e.ib a (.inl b)) l.size
   omega
  exact iT (e.ib a (.inr b)) l.size
 ·intro id c k;rcases ci id c k with⟨s,m,w⟩|⟨d9,D,s,m,w⟩
  ·obtain⟨_,ay,y,C⟩:=l.tree id c s;rw[m,w];refine⟨ay,y,λa b=>?_⟩;obtain⟨a1,a3,ap⟩:=C a b;rcases ap with ap|⟨I,av,r,H,A⟩
   ·exact⟨a1,λek=>by have:=e.ib a (.inr ek);omega,a3,.inl (di e.size ap)⟩
   have u:=(e.tree I r H).2.2 a A;grind
  obtain⟨ay,y,C⟩:=e.tree id c s;rw[m,w];refine⟨ay.mono V (dg id c s D),y,λa b=>?_⟩;obtain⟨a1,a3,ap,aL⟩:=C a b;exact⟨em id c s D a b,a3,iT ap l.size,aL⟩
 ·intro o ad c M K fs ds a b;rcases ci o c K with⟨s,_,w⟩|⟨d9,D,s,_,w⟩<;>rcases ci ad M fs with⟨am,_,d5⟩|⟨gi,E3,am,_,d5⟩<;>rw[w] at b<;>rw[d5]
  ·exact l.dis o ad c M s am ds a b
  ·intro A;rcases((l.tree o c s).2.2.2 a b).2.2 with u|⟨I,av,r,H,ce⟩
   ·have:=((e.tree ad M am).2.2 a A).2.2.1;omega
   exact e.dis ad I M r am H (λd=>E3 (by grind)) a A ce
  ·intro A;rcases((l.tree ad M am).2.2.2 a A).2.2 with u|⟨I,av,r,H,ce⟩
   ·have:=((e.tree o c s).2.2 a b).2.2.1;omega
   exact e.dis o I c r s H (λd=>D (by grind)) a b ce
  exact e.dis o ad c M s am ds a b
 ·intro a4;show cQ _ _ _ _ _ (gt (kill S keep O.g) a4) _;rw[p7];have x:=e.tmp a4;generalize gt O.g a4=v at x;generalize z.getD a4 bW=P at x;suffices d8:∀(v:al) (P:Value),cQ (bb j U.B) f O.h p q v P->cQ (bb I' U.B) w' (new++del S O.h) (e8 new rtn p) (e8 new fpn q) (e5 S keep v) P by
   cases v with
   |e6 f1=>
    cases x with|e6 d0 J=>
    refine .e6 (by grind) (λo T M s m=>?_);grind
   |_=>exact d8 _ _ x
  clear x;have bs:∀(v:al) (P:Value),cQ (bb j U.B) f O.h p q v P->v.fc S=br\/lp keep v=bp->cQ (bb I' U.B) w' (new++del S O.h) (e8 new rtn p) (e8 new fpn q) v P:=by
   intro v P x fT;cases d4:v.fc S with
   |false=>
    refine x.tu V (λid co c k=>?_);have D:=Lr d4 id co;have fz:aq new id=bq:=by
     cases J:aq new id with
     |none=>rfl
     |some c1=>
      rcases(l.tree id c1 J).1 with u|u
      ·grind
      grind
    refine⟨by simp_all [kV,m7,aw],by grind [e8],by grind [e8],(e.tree id c k).1,dg id c k D⟩
   |true=>
    have L:lp keep v=bp:=fT.resolve_left (by grind);have bl:∀(id:X) (c:aK),aq O.h id=Y c->∀d∈keep,d.1=id->∃r,aq (new++del S O.h) id=Y r/\r.1=c.1/\e8 new rtn p id=p id/\(∃f8,fb c.1 d.2=Y f8)/\
     ∀(u:bn aZ) (d7:ai) (d6:Loc) (bx:ajT),g7 d.2 u=bp->aX f c.1 bq (p id) u d7 d6 bx->aX w' c.1 bq (p id) u d7 d6 bx:=by
     intro id c k d E co;subst co;obtain⟨r,ay,y,C,an,R⟩:=l.keep d E _ k;grind [kV]
    have c2:∀(id:X) (u:bn aZ),(keep.any λd=>bI d.1 id&&g7 d.2 u)=bp->∃d∈keep,d.1=id/\g7 d.2 u=bp:=(by simp_all);cases v with
    |ref id Q=>
     cases Q with
     |nil=>
      obtain⟨d,E,m⟩:=pA.1 (show(keep.any λd=>bI d.1 id)=bp from L);have m:=ff m;cases x with|ref k F=>
      obtain⟨rfl,rfl,rfl⟩:=aX.gq.1 F;obtain⟨r,ay,y,C,_⟩:=bl id _ k d E m;rw[<-y];refine .ref (loc:=bq) ay ?_;grind [aX.here]
     |cons f6 Q=>
      obtain⟨d,E,m,w⟩:=c2 id (f6::Q) L;cases x with|ref k F=>
      obtain⟨r,ay,y,C,an,R⟩:=bl id _ k d E m;have G:=R _ _ _ _ w F;rw[<-C,<-y] at G;exact .ref ay G
    |addr id Q=>
     obtain⟨d,E,m⟩:=pA.1 (show(keep.any λd=>bI d.1 id&&I5 d.2 Q)=bp from L);simp only[cE] at m;obtain⟨m,w⟩:=m;have m:=ff m;cases x with|addr k F=>
     obtain⟨r,ay,y,C,an,R⟩:=bl id _ k d E m;rcases Cd.1 w with w|w
     ·have G:=R _ _ _ _ w F;rw[<-C,<-y] at G;exact .addr ay G
     obtain⟨go,N⟩:=GL.1 w;obtain⟨_,an⟩:=an;obtain⟨bx,G⟩:=aX.upper an N F R;rw[<-C,<-y] at G;exact .addr ay G
    |view id Q gl K=>
     obtain⟨d,E,m,w⟩:=c2 id Q L;cases x with|mg=>(exact .mg _ _)|view k F f2 f3 f4=>
     obtain⟨r,ay,y,C,an,R⟩:=bl id _ k d E m;have G:=R _ _ _ _ w F;rw[<-C,<-y] at G;exact .view ay G f2 f3 f4
    |_=>cases L
  intro v P x;unfold e5;cases d4:v.fc S with
  |false=>grind
  |true=>
   cases L:kz S keep v with
   |false=>simp only[ml,Bool.and_self,bH];exact .dead _
   |true=>
    simp only[gI,Bool.and_false,bR];cases v with
    |da f9 f1=>
     cases x with|da d0 J=>
     refine .da d0 (λo T M s m=>bs T M (J o T M s m) ?_);have:=gU.1 L T (jg s);grind
    |hz T=>
     cases x with|hz b ex cs eq=>
     exact .hz (V _ _ b).1 (by rw[((V _ _ b).2.1 0).1];exact ex) cs (bs T _ eq (.inr L))
    |app id u f7 hi cv=>
     cases x with|app k d3 F fr s gc m f0 ge ft=>
     have N:((cv.all λo=>!(eQ o S))&&keep.any λd=>bI d.1 id&&lf d.2 u)=bp:=L;rw[cE] at N;obtain⟨cs,N⟩:=N;have cs:∀o∈cv,o∉S:=λo K d1=>(by grind [g8,ak1]);obtain⟨d,E,N⟩:=pA.1 N;simp only[cE] at N;obtain⟨fn,dl⟩:=N;obtain rfl:=ff fn;obtain⟨r,ay,y,C⟩:=l.app d E _ k u f7 _ _ _ _ dl d3 F fr s;obtain⟨gs,a1,a3,ap,_,f5⟩:=l.keep d E _ k;rw[ay] at a1;obtain rfl:=gb a1;have fz:∀o∈cv,aq new o=bq:=λo K=>by
      cases J:aq new o with
      |none=>rfl
      |some c1=>
       obtain⟨_,hc,gf⟩:=f0 o K;rcases(l.tree o c1 J).1 with u|u
       ·grind
       grind
     have d1:e8 new rtn p d.1=p d.1:=(by grind [e8]);have d2:=f5 u _ _ _ (Ic dl) F;rw[<-a3,<-d1] at d2;refine .app (t:=r) (by grind [kV]) d3 d2 y (s.mono V (λa b=>(C a b).2)) (λa b=>by grind [e8]) (m.mono V (λa b=>?_)) (λo K=>?_) (λa b=>?_) ft
     ·grind
     ·simp_all [kV,m7,aw]
     grind [e8]
    |_=>exact bs _ P x (.inr L)
 intro a b el;rw[l.heap a (iT b e.size)]
 ·exact e.frame a b el
 intro id _ c k A;have:=((e.tree id c k).2.2 a A).2.2.2;grind
section
def kG (k:dh->X->Prop) (i:bD) (a:ai) (l:bw Addr) (d:bn a.den) (g:ez):Prop:=
 g.length=d.length/\(d=[]\/∃e h,l=Y ⟨e,h,bq⟩/\∀(c:X) (j:a.den) (f:ajZ),d[c]?=Y j->g[c]?=Y f->∃b,b.length=a.size/\fd i e (h+c*a.size) b/\aT k i a b j f)
theorem kG.a6 {h:dh} {a:bn d.den} (c:aT e f (.a6 h d) [.slice s b i] a []):b=a.length/\kG e f d s a (bJ a.length []):=by obtain⟨_,j,k,g,_,_,c⟩:=c;simp only[hM,aj3,ca] at g;obtain⟨rfl,rfl,rfl⟩:=g;refine⟨bo,ac,c.imp id ?_⟩;grind
theorem kG.osl {l:bn d.den} (g:aT e f (.osl d) [.slice s i b] l k):i=l.length/\i<=b/\∃h,kG e f d s l h/\(∀j∈h.flatten,j∈k)/\(k.Nodup->h.flatten.Nodup)/\((s=bq/\b=0/\k=[])\/∃a c,s=Y ⟨a,c,bq⟩/\k=a::h.flatten/\iE f a c (c+b*d.size)):=by
 obtain⟨t,j,m,g⟩:=g;simp only[hM,aj3,ca] at m;obtain⟨rfl,rfl,rfl⟩:=m;rcases g with⟨rfl,rfl,rfl,rfl⟩|⟨a,c,n,rfl,rfl,ay,p,q,r⟩
 ·exact⟨bo,bd _,[],⟨bo,.inl bo⟩,ac,ac,.inl ⟨bo,bo,bo⟩⟩
 refine⟨bo,p,n,⟨ay,.inr ⟨a,c,bo,r⟩⟩,λj o=>g3 _ o,λg=>(kp.1 g).2,.inr ⟨a,c,bo,bo,q⟩⟩
theorem kG.cells {b:bn d.den} {q:ez} (j:kG e f d s b q) (v:0<d.size):∃n:ajT,n.length=b.length*d.size/\(∀i∈n,i.oneCell'=bp)/\(∀c,s=Y c->b≠[]->∀(k:X) i,n[k]?=Y i->f.cell? (c.add k)=Y i)/\∀(g:X) (o:d.den) (m:ajZ),b[g]?=Y o->q[g]?=Y m->aT e f d ((n.drop (g*d.size)).take d.size) o m:=by
 obtain⟨D,j⟩:=j;rcases j with rfl|⟨c,l,rfl,j⟩
 ·simp_all
 have C:∀a,a<b.length*d.size->∃i,f.cell? ⟨c,l+a,bq⟩=Y i/\i.oneCell'=bp:=by
  intro a B;have t:a/d.size<b.length:=(ams v).2 B;obtain⟨h,x,p,r⟩:=j (a/d.size) b[a/d.size] (q[a/d.size]'(by omega)) ac ac
  have E:=ak8 a v;have:h[a %d.size]?=Y (h[a %d.size]'(by omega)):=bk _
  refine⟨_,?_,r.one _ (cG (by omega:a %d.size<h.length))⟩;have:=p _ _ this;grind [amt,Nat.mul_comm]
 have A:∀a,((bL (b.length*d.size)).map λa=>(f.cell? ⟨c,l+a,bq⟩).getD bW)[a]?=if a<b.length*d.size then f.cell? ⟨c,l+a,bq⟩ else bq:=by grind
 refine⟨(bL (b.length*d.size)).map λa=>(f.cell? ⟨c,l+a,bq⟩).getD bW,ac,?_,?_,?_⟩
 ·grind
 ·grind [akR]
 intro g o m w z;obtain⟨h,x,p,r⟩:=j g o m w z;have t:g<b.length:=(hN.1 w).1;have:(((bL (b.length*d.size)).map λa=>(f.cell? ⟨c,l+a,bq⟩).getD bW).drop (g*d.size)).take d.size=h:=by
  apply il;intro k;rcases cR k d.size with u|u
  ·rw[sb u,qB,A];have y:(g+1)*d.size<=b.length*d.size:=hR _ t;rw[kq,jL] at y;rw[ax aa];have:h[k]?=Y (h[k]'(by omega)):=bk _
   rw[this,<-wO];exact p _ _ this
  grind
 grind
section
variable {P:b1}
theorem UU {w:bD} {ty:bG} {j:TypeInfo} (p:P.underlying x=Y (.slice a)) (A:e9 P d a) (i:P.info? a=Y j) (a3:d.size<=1300) {ad yd:bw Addr} {n cap m c:X} {olds news:ajT} (M:olds.length=n*d.size) (ap:∀b,ad=Y b->∀(f:X) (g:Value),olds[f]?=Y g->w.cell? (b.add f)=Y g) (av:∀b,ad=Y b->b.spot=bq) (J:n<=cap) (an:ad=bq->cap=0) (t:news.length=m*d.size) (H:∀g∈news,g.oneCell'=bp) (C:∀b,yd=Y b->0<m->∀(f:X) (g:Value),news[f]?=Y g->w.cell? (b.add f)=Y g) (a4:yd=bq->m=0) (L:∀b,ad=Y b->iE w b.block b.off (b.off+cap*d.size)) (U:n+m<=hB):∃F o,(alU #[x,x] ty #[.slice ad n cap,.slice yd m c]).run P w=.ok F o/\((
   n+m<=cap/\F=.slice ad (n+m) cap/\((ad=bq/\o=w)\/∃b,ad=Y b/\o=w.setCells b.block (b.off+n*d.size) news))\/
   ∃(e:X) (v:ajR),cap<n+m/\n+m<=e/\F=.slice (Y ⟨w.heap.size,0,bq⟩) (n+m) e/\hl w o/\o.heap[w.heap.size]?=Y (.cells v a (0,0))/\o.heap.size=w.heap.size+1/\e*d.size<=v.size/\∀(f:X) (g:Value),(olds++news)[f]?=Y g->v[f]?=Y g):=by
 obtain⟨bl,_,h,_⟩:=A.info;have G:=h.info;rw[i] at G;cases G;have a1:=A.pos;by_cases D:n+m<=cap
 ·by_cases q:m=0
  ·subst q;obtain rfl:news=[]:=r7 aa;have K:(aom d.size 0 (.slice yd 0 c)).run P w=.ok #[] w:=by
    cases yd with
    |none=>rfl
    |some b=>simp[aom,loadCells,loadCellsFrom]
   refine⟨.slice ad n cap,w,?_,.inl ⟨D,bo,?_⟩⟩
   ·cases ad with
    |none=>simp[alU,b8 p,akK,akr,i,aon,h.size,J,K]
    |some b=>simp[alU,b8 p,akK,akr,i,aon,h.size,J,K,storeCells]
   cases ad with
   |none=>grind
   |some b=>exact .inr ⟨b,bo,bo⟩
  cases ad with
  |none=>grind
  |some b=>
   cases yd with
   |none=>grind
   |some k=>
    obtain⟨N,O,Q⟩:=b;obtain rfl:Q=none:=av _ rfl;have V:(n+m)*d.size<=cap*d.size:=hR _ D;rw[kq] at V;have r:=run_append_room_cells (P:=P) w x ty a j p i N O n cap k m c news (by rw[h.size];exact t) (C k bo aa) H D (λf T=>(L _ rfl _ (by grind) (by rw[h.size];grind)).1) (λf T=>(L _ rfl _ (by grind) (by rw[h.size];grind)).2);rw[h.size] at r;grind
 obtain⟨l,a0,u⟩:=A.IS;have u:=u j i;have q:0<m:=aa;cases yd with
 |none=>grind
 |some k=>
  have I:(n+m)*j.bytes<=140737488355328:=(by have H:(n+m)*j.bytes<=hB*31200:=np U (by have:=h.bytes;omega);grind [hB]);have B:((n+m:X):Z)<=9223372036854775807:=(by grind [hB]);have z:∀(E:X),let e:=grownCap w (n+m) E a
   n+m<=e/\hl w (w.drew.alloc (.cells (olds.toArray++news.toArray++alV l.cells (e-(n+m))) a))/\
   (w.drew.alloc (.cells (olds.toArray++news.toArray++alV l.cells (e-(n+m))) a)).heap[w.heap.size]?=Y (.cells (olds.toArray++news.toArray++alV l.cells (e-(n+m))) a (0,0))/\
   e*d.size<=(olds.toArray++news.toArray++alV l.cells (e-(n+m))).size/\
   ∀(f:X) (g:Value),(olds++news)[f]?=Y g->(olds.toArray++news.toArray++alV l.cells (e-(n+m)))[f]?=Y g:=by
   intro E e;have S:n+m<=e:=grownCap_ge w (n+m) E a;refine⟨S,(hl.refl w).drew.trans (hl.alloc _ _),heap_alloc_new w.drew _,?_,?_⟩
   ·simp only[Array.size_append,uk,size_zeroCells,a0,M,t,<-kq];grind
   grind
  cases ad with
  |some b=>
   have r:=run_append_grow (P:=P) w x ty a j l p i u b n cap olds (by rw[h.size];exact M) (ap b bo) k m c news (by rw[h.size];exact t) (C k bo q) aa B (growslice_fits aa I);obtain⟨y,f2,s,f4,f5⟩:=z cap;exact⟨_,_,r,.inr ⟨_,_,aa,y,bo,f2,s,ac,f4,f5⟩⟩
  |none=>
   have R:=an bo;have am:n=0:=aa;subst R;subst am;obtain rfl:olds=[]:=r7 aa;simp only[mW] at B I z;have r:=run_append_nil (P:=P) w x ty a j l p i u k m c news (by rw[h.size];exact t) (C k bo q) q B aa;obtain⟨y,f2,s,f4,f5⟩:=z 0;simp only[jh,Array.empty_append] at y f2 s f4 f5;refine⟨_,_,r,.inr ⟨_,_,aa,aa,by rw[mW],f2,s,ac,f4,f5⟩⟩
end
end
theorem yR (b:X):∀(g:ajT) (d:X) (c:bD) (a:X),a≠b->(c.setCells b d g).heap[a]?=c.heap[a]?
 |[],_,_,_,_=>rfl
 |v::f,d,c,a,e=>by rw[amu,yR b f _ _ a e];simp only[aoo,Array.getElem?_modify];grind
theorem tM (b:X):∀(e:ajT) (c:X) (a:bD),(a.setCells b c e).heap.size=a.heap.size
 |[],_,_=>rfl
 |v::d,c,a=>by rw[amu,tM b d];simp
def po (b:X):∀(d:ajT) (c:X) (a:bD),(a.setCells b c d).os=a.os/\(a.setCells b c d).tape=a.tape/\(a.setCells b c d).output=a.output
 |[],_,_=>⟨bo,bo,bo⟩
 |v::e,c,a=>by rw[amu];exact po b e _ _
theorem KY (d:X) (e:ajT) (b:X) (f:bD) (g:∀c,c<e.length->(f.cell? ⟨d,b+c,bq⟩).isSome=bp) (a:X):((f.setCells d b e).cell? ⟨d,a,bq⟩).isSome=(f.cell? ⟨d,a,bq⟩).isSome:=by
 by_cases h:b<=a/\a<b+e.length
 ·obtain⟨c,rfl⟩:∃c,a=b+c:=⟨a-b,aa⟩;grind [alW]
 grind [amv]
theorem YU (b:bD) (c:Addr) (d:Value) (a:X):i6 (b.setCell c d) a=i6 b a:=by unfold i6 aoo;grind
def A3 (d:X):∀(f:ajT) (b:X) (c:bD) (a:X),i6 (c.setCells d b f) a=i6 c a
 |[],_,_,_=>rfl
 |v::e,b,c,a=>by rw[amu,A3 d e (b+1),YU]
theorem rJ {vs:ajT} {o:X} {w:bD} (a:i≠b):c6 w (w.setCells b o vs) i:=.of_heap (yR b vs o w i a)
theorem Ms {P:b1} {ty:bG} {d9:TypeInfo} (cv:P.underlying x=Y (.slice a)) (ap:e9 P d a) (d0:P.info? a=Y d9) (d5:d.size<=1300) {R:bw Addr} {c:X} {q I:bn d.den} {t:ez} (U:aT e f (.osl d) [.slice s i b] q k) (V:kG e f d R I t) (a4:k.Nodup) (co:∀h∈k,∀o,¬e o h) (f8:t.flatten.Nodup) (dg:∀h∈k,h∉t.flatten) (cs:∀o h,e o h->h<f.heap.size) (dl:∀h∈k,h<f.heap.size) (d8:∀h∈t.flatten,h<f.heap.size) (d2:q.length+I.length<=hB):∃an p f2,(alU #[x,x] ty #[.slice s i b,.slice R I.length c]).run P f=.ok an p/\aT e p (.osl d) [an] (q++I) f2/\aT e p (.osl d) [.slice s i b] q k/\f2.Nodup/\(∀h∈f2,h∈k\/h∈t.flatten\/(f.heap.size<=h/\h<p.heap.size))/\f.heap.size<=p.heap.size/\p.os=f.os/\p.tape=f.tape/\p.output=f.output/\(∀h,h<f.heap.size->h∉k->p.heap[h]?=f.heap[h]?)/\(∀o h,e o h->c6 f p h)/\(∀h∈t.flatten,c6 f p h)/\(∀h,h<f.heap.size->i6 p h=i6 f h):=by
 obtain⟨rfl,av,z,bx,fz,fT,d7⟩:=kG.osl U;have bl:=ap.pos;obtain⟨G,am,gf,eq,gi⟩:=bx.cells bl;obtain⟨v,ek,el,em,gc⟩:=V.cells bl;have a3:=bx.1;have f5:=V.1;obtain⟨an,p,T,c2⟩:=UU (P:=P) (w:=f) (ty:=ty) cv ap d0 d5 (ad:=s) (yd:=R) (n:=q.length) (cap:=b) (m:=I.length) (c:=c) (olds:=G) (news:=v) am (λh K l y A=>eq h K (by grind) l y A) (λh K=>by grind) av (λM=>by grind) ek el (λh K f6 l y A=>em h K (by grind) l y A) (λM=>by rcases V.2 with rfl|⟨h,ge,E,_⟩;rfl;grind) (λh K=>by
   grind) d2
 have ft:(z++t).flatten=z.flatten++t.flatten:=ac;have f7:(z++t).flatten.Nodup:=(by grind);have S:∀(g:X) (F:d.den) (C:ajZ),(q++I)[g]?=Y F->(z++t)[g]?=Y C->aT e f d (((G++v).drop (g*d.size)).take d.size) F C/\∀h∈C,h∈z.flatten\/h∈t.flatten:=by
  intro g F C j L;rcases cR g q.length with E|E
  ·rw[ug E] at j;rw[ug aa] at L;have u:(g+1)*d.size<=q.length*d.size:=hR _ E;rw[kq,jL] at u;rw[wH aa,um (by grind)];grind [alk,akf]
  rw[sa E] at j;rw[sa aa,a3] at L;have u:q.length*d.size<=g*d.size:=hR _ E;rw[List.drop_append,uf aa,jh,am,show g*d.size-q.length*d.size=(g-q.length)*d.size by rw[Nat.sub_mul]];grind [alk,akf]
 rcases c2 with⟨d4,rfl,d6⟩|⟨ce,ci,f1,f0,rfl,D,ds,f3,fs,fr⟩
 ·rcases d6 with⟨rfl,rfl⟩|⟨h,rfl,rfl⟩
  ·have fp:b=0:=(by grind);obtain rfl:q=[]:=r7 aa;obtain rfl:I=[]:=r7 aa;exact⟨_,p,k,T,by grind,U,a4,λh K=>.inl K,bd _,bo,bo,bo,λ_ _ _=>rfl,λ_ _ _=>c6.refl _ _,λ_ _=>c6.refl _ _,λ_ _=>rfl⟩
  rcases d7 with⟨M,_⟩|⟨r,B,M,rfl,a0⟩
  ·cases M
  cases M;have fn:r∉z.flatten:=(kp.1 a4).1;have c1:r∉t.flatten:=dg r ac;have d3:(q.length+I.length)*d.size<=b*d.size:=hR _ d4;rw[kq] at d3;have bs:∀l,l<v.length->(f.cell? ⟨r,B+q.length*d.size+l,bq⟩).isSome=bp:=λl A=>(a0 _ aa aa).1;have J:∀o g,e o g->e o g/\c6 f (f.setCells r (B+q.length*d.size) v) g:=λo g j=>⟨j,rJ (λO=>co r ac o (O▸j))⟩;have a1:iE (f.setCells r (B+q.length*d.size) v) r B (B+b*d.size):=λl u N=>(by rw[KY r v _ f bs,anj];exact a0 l u N);have ex:∀l y,(G++v)[l]?=Y y->(f.setCells r (B+q.length*d.size) v).cell? ⟨r,B+l,bq⟩=Y y:=by
   intro l y A;rcases cR l G.length with E|E
   ·grind [akR,amv,List.getElem?_append_left]
   rw[sa E] at A;obtain⟨H,rfl⟩:∃H,l=G.length+H:=⟨l-G.length,aa⟩;rw[Nat.add_sub_cancel_left] at A;have Q:H<v.length:=(hN.1 A).1;rw[am,<-wO,alW r v _ f bs H Q];grind
  refine⟨_,_,r::(z++t).flatten,T,?_,?_,?_,?_,by rw[tM];omega,(po _ _ _ _).1,(po _ _ _ _).2.1,(po _ _ _ _).2.2,?_,λo g j=>(J o g j).2,λg j=>rJ (λO=>c1 (by grind)),λg _=>A3 _ _ _ _ _⟩
  ·refine⟨Y ⟨r,B,bq⟩,b,ac,.inr ⟨r,B,z++t,bo,bo,by grind,by grind,a1,λg F C j L=>?_⟩⟩;obtain⟨u,N⟩:=S g F C j L;refine⟨_,u.len,λl y A=>?_,u.mono J (λH Q=>rJ (λO=>?_))⟩
   ·have d1:(G++v)[g*d.size+l]?=Y y:=by
     grind
    grind
   grind
  ·refine⟨Y ⟨r,B,bq⟩,b,bo,.inr ⟨r,B,z,bo,bo,a3,av,a1,λg F C j L=>?_⟩⟩;have f4:g<q.length:=(hN.1 j).1;obtain⟨u,N⟩:=S g F C (by grind) (by grind);refine⟨_,u.len,λl y A=>?_,u.mono J (λH Q=>rJ (λO=>?_))⟩
   ·have d1:(G++v)[g*d.size+l]?=Y y:=by
     grind
    grind
   grind
  ·grind
  ·grind
  grind [yR]
 have J:∀o g,e o g->e o g/\c6 f p g:=λo g j=>⟨j,.of_heap (D.heap g (cs o g j))⟩;have f9:∀l,p.cell? ⟨f.heap.size,l,bq⟩=ci[l]?/\p.frozen? ⟨f.heap.size,l,bq⟩=br:=λl=>(by simp[ak6,amn,ds]);refine⟨_,p,f.heap.size::(z++t).flatten,T,?_,U.mono J (λg j=>.of_heap (D.heap g (dl g j))),?_,?_,D.size,D.os,D.tape,D.output,λg j _=>D.heap g j,λo g j=>(J o g j).2,λg j=>.of_heap (D.heap g (d8 g j)),λg j=>(c6.of_heap (D.heap g j)).2⟩
 ·refine⟨Y ⟨f.heap.size,0,bq⟩,ce,ac,.inr ⟨f.heap.size,0,z++t,bo,bo,by grind,by grind,λl _ N=>?_,λg F C j L=>?_⟩⟩
  ·grind
  obtain⟨u,N⟩:=S g F C j L;refine⟨_,u.len,λl y A=>?_,u.mono J (λH Q=>.of_heap (D.heap H ?_))⟩
  ·grind
  grind
 ·grind
 grind
section
def e3.get:∀{p:bn aZ} {b:ai} {c j:b.den} {e:ai} {k:e.den},e3 b c p e k j->∃d,eK b c p e d
 |[],b,c,_,_,_,a=>by obtain⟨rfl,_⟩:=e3.gq.1 a;exact⟨c,eK.gq.2 ⟨bo,bo⟩⟩
 |s::p,b,_,_,_,_,a=>by
  cases b<;>cases s<;>simp only[e3] at a
  case osl.idx=>obtain⟨g,f,i,a,_⟩:=a;obtain⟨d,h⟩:=e3.get (p:=p) a;exact⟨d,g,i,h⟩
  case optr.deref=>exact e3.get (p:=p) a
  case st.unst=>exact e3.get (p:=p) a
  case pr.fst=>obtain⟨f,a,_⟩:=a;exact e3.get (p:=p) a
  case pr.snd=>obtain⟨f,a,_⟩:=a;exact e3.get (p:=p) a
theorem e3.same:∀{p:bn aZ} {c:ai} {b:c.den} {d:ai} {f:d.den},eK c b p d f->e3 c b p d f b
 |[],c,b,_,_,a=>by grind [e3.gq,eK.gq]
 |s::p,c,b,_,_,a=>by
  cases c<;>cases s<;>simp only[eK] at a
  case osl.idx i=>
   obtain⟨e,g,a⟩:=a;refine⟨e,e,g,e3.same (p:=p) a,?_⟩;grind [List.set_getElem_self,ak2]
  case optr.deref=>exact e3.same (p:=p) a
  case st.unst=>exact e3.same (p:=p) a
  case pr.fst=>exact⟨b.1,e3.same (p:=p) a,bo⟩
  case pr.snd=>exact⟨b.2,e3.same (p:=p) a,bo⟩
def Fj {a:N} {c:X->N}:e8 [(b,P)] (λ_=>a) c b=a:=by simp[e8,de]
section
variable {E:fk} {C:eW} {st:aO} {a:Act} {A:ajR} {w:bD} {I:X->Prop} {rt:X->ajT} {fp:X->ajZ} {o:bS}
theorem aev {c:X} (j:g.length=c) (f:iE w i b (b+c)) (d:X):rY w (w.setCells i b g) (Y (i,b)) c d:=by
 have k:∀a,a<g.length->(w.cell? ⟨i,b+a,bq⟩).isSome=bp:=λa h=>(f _ aa aa).1;refine⟨λa h=>amv i g b w _ (λe _=>?_),λa=>anj _ _ _ _ _,λa=>?_,A3 _ _ _ _ _⟩
 ·grind
 by_cases e:d=i
 ·grind [KY]
 rw[((rJ (w:=w) (o:=b) (vs:=g) e).1 a).1]
theorem cM.ae0 (q:cM C st A w I rt fp) {id:X} (r:aq st.h id=Y P) {F:ajT} (N:aX w P.1 bq (rt id) n d (Y (b,i)) F) {x:d.den} {s:P.1.den} (D:e3 P.1 P.2 n d x s) {p:ajZ} (E:aT (bb I C.B) w d y x p) (fr:p.Nodup) (a1:id∉k) (em:∀a∈p,(∃G,∃U:d.den,d.kW=bp/\aT (bb I C.B) w d F U G/\a∈G)\/∃c∈k,∃f,aq st.h c=Y f/\a∈fp c):iE w b i (i+d.size)/\∃rtn fpn,cM C ⟨kill (id::k) [(id,n)] st.g,(id,⟨P.1,s⟩)::del (id::k) st.h⟩ A (w.setCells b i y) I rtn fpn/\rtn id=rt id/\aX (w.setCells b i y) P.1 bq (rt id) n d (Y (b,i)) y:=by
 obtain⟨co,R,d9⟩:=q.tree id P r;obtain⟨U,ce⟩:=D.get;obtain⟨f0,d4,ad,T,am,d6,an,J,d7,ap,av⟩:=AO n (loc:=bq) co (λ_ _ j=>by cases j) R (λ_ _ j=>by cases j) (q.notM r) ce;obtain⟨_,ao,V⟩:=N.kR am;subst ao;subst V;obtain⟨_,z⟩:=an b i bo;have ek:b∈T:=(by grind);have a4:b∈fp id:=J.mem_iff.2 (by grind);have Q:=J.nodup_iff.1 R;rw[ji] at Q;obtain⟨ex,O,fn⟩:=Q;have el:∀a∈p,a∈ad\/∃c∈k,∃f,aq st.h c=Y f/\a∈fp c:=λa e=>(by grind [aT.uniq]);have fs:∀c∈k,∀f,aq st.h c=Y f->∀a∈fp c,a∉fp id:=λc m f l a e K=>q.dis c id f P l r (λo=>a1 (o▸m)) a e K;have bx:∀a∈p,a∉T:=λa e K=>(by grind);have a0:∀v a,bb I C.B v a->a≠b:=λv a e o=>q.notM r b a4 v (o▸e);have bl:=aev (w:=w) E.len z;have cv:aT (bb I C.B) (w.setCells b i y) d y x p:=E.mono (λv a e=>⟨e,rJ (a0 v a e)⟩) (λa e=>rJ (λo=>bx a e (by grind)));have ft:∀u,u<y.length->(w.cell? ⟨b,i+u,bq⟩).isSome=bp:=λu t=>(z _ aa (by have:=E.len;omega)).1;have d8:fd (w.setCells b i y) b i y:=λu d1 t=>(by grind [b0,alW,ak2]);obtain⟨d5,H,c1,_,dg,_,fz,dl,c2⟩:=ap (w.setCells b i y) (bb I C.B) y x p s (λ_ _ j=>j) (λa _=>bl a) cv (λj=>by cases j) (λd2 f1 o=>by grind) D;obtain rfl:=dg bo (.inl ac);have bs:∀a∈H,a∈fp id\/∃c∈k,∃f,aq st.h c=Y f/\a∈fp c:=λa e=>(by grind);have a3:=q.eI (S:=id::k) (keep:=[(id,n)]) (new:=[(id,⟨P.1,s⟩)]) (rtn:=λ_=>rt id) (fpn:=λ_=>H) (w':=w.setCells b i y) (I':=I) ⟨?_,(po _ _ _ _).1,(po _ _ _ _).2.1,(po _ _ _ _).2.2,?_,λa _=>.of_eq (A3 _ _ _ _ _),λ_ j=>j,λ_ j=>.inl j,?_,?_,?_,?_⟩
 ·exact⟨z,_,_,a3,by rw[Fj],dl⟩
 ·grind [tM]
 ·grind [yR]
 ·intro c f l;rw[de] at l;split at l
  ·rename_i o;subst o;cases l;refine⟨.inl ac,c1,?_,λa e=>?_⟩
   ·grind
   rcases bs a e with j|⟨c,m,f,l,j⟩
   ·grind [tM]
   obtain⟨ay,d0,f3,f4⟩:=(q.tree c f l).2.2 a j;grind [tM]
  cases l
 ·intro c u f d1 m t eq;rw[de] at m t;split at m
  ·split at t
   ·omega
   cases t
  cases m
 ·intro c m f l;simp only[fg] at m;subst m;rw[r] at l;obtain rfl:=gb l;refine⟨⟨P.1,s⟩,?_,bo,bo,⟨_,N.ty⟩,c2⟩;rw[de,ax bo]
 intro c m f l ds f6 f5 fT d3 f2 L ci O M cs;simp only[fg] at m;subst m;rw[r] at l;obtain rfl:=gb l;refine⟨⟨P.1,s⟩,by rw[de,ax bo],vk L D M,λa e=>?_⟩;obtain⟨ay,d0⟩:=av ds _ _ _ _ _ L (by exact ci) M O cs a e;grind [List.mem_append_right,rJ]
theorem cM.store (p:cM C st A w I rt fp) {id:X} (v:aq st.h id=Y P) {b:X} {c:ajT} (s:aX w P.1 bq (rt id) n d (Y (b,i)) c) {o:d.den} {m:P.1.den} (u:e3 P.1 P.2 n d o m) {S2:ajZ} (x:aT (bb I C.B) w d y o k) (t:k.Nodup) (q:id∉S2) (r:∀a∈k,(∃e,∃D:d.den,d.kW=bp/\aT (bb I C.B) w d c D e/\a∈e)\/∃j∈S2,∃z,aq st.h j=Y z/\a∈fp j):iE w b i (i+d.size)/\∃l f,cM C ⟨kill (id::S2) [(id,n)] st.g,(id,⟨P.1,m⟩)::del (id::S2) st.h⟩ A (w.setCells b i y) I l f:=by obtain⟨E,l,f,F,_⟩:=p.ae0 v s u x t q r;grind
inductive wU where
 |eV (s:aO)
 |part (α:Type) (φ:α->Prop) (f:α->aO)
 |bad
def wU.K (c:wU) (Q:aO->Prop):Prop:=
 match c with
 |.eV d=>Q d
 |.part e f b=>∃a:e,f a/\Q (b a)
 |.bad=>b7
def eX (E:fk) (C:eW) (o:bS) (st:aO) (Q:aO->Prop):Prop:=
 ∀(a:Act) (w:bD),gC C st a.tmps w->∀(next:Act->bD->Prop) (e:b6->Act->bD->Prop),(∀c b d,Q c->b.defers=a.defers->gC C c b.tmps d->next b d)->o.wp E.P a w next e
variable {Q:aO->Prop}
def eX.eval {an:bn (X×ai)} (j:o.dst=Y b) (l:C.ok b) (i:(gY E.tt an st.h (aU st.g) b o.op).K (λc e=>Q ⟨(b,c)::st.g,e++st.h⟩)):eX E C o st Q:=by
 rintro a w ⟨I,rt,fp,d⟩ next r m
 exact(WH d i).wp d j l (λc e f q n k p=>m _ f q n k p)
def rF (b:bn (X×aK)) (c:al):bw (X×bn aZ):=
 match c with
 |.addr id a=>Y (id,a)
 |.ref id a=>match aq b id with
  |some ⟨d,_⟩=>match fb d a with
   |some (.optr _)=>Y (id,a++[.deref])
   |_=>bq
  |none=>bq
 |_=>bq
def Gi (
 tt:bn (bG×ai)) (st:aO) (m:bG) (o v:al):wU:=
 match rF st.h o with
 |none=>.bad
 |some (
  id,p)=>match aq st.h id,aq tt m with
  |some ⟨b,e⟩,Y n=>match fb b p with
   |none=>.bad
   |some c=>bif a9 n c then match v with
    |.ref d i=>match aq st.h d with
     |some ⟨r,j⟩=>bif bI id d then .bad else
      .part (c.den×b.den) (λa=>eK r j i c a.1/\e3 b e p c a.1 a.2) (λa=>⟨kill [id,d] [(id,p)] st.g,(id,⟨b,a.2⟩)::del [id,d] st.h⟩)
     |none=>.bad
    |.app d i f q l=>if _e:c=.osl f then
     .part (bn f.den×b.den) (λa=>d=id/\i=p/\eK b e p (.osl f) a.1/\e3 b e p (.osl f) (a.1++q) a.2) (λa=>⟨kill (id::l) [(id,p)] st.g,(id,⟨b,a.2⟩)::del (id::l) st.h⟩) else .bad
    |v=>match coe c v with
     |some j=>.part b.den (λk=>e3 b e p c j k) (λk=>⟨kill [id] [(id,p)] st.g,(id,⟨b,k⟩)::del [id] st.h⟩)
     |none=>.bad
   else .bad
  |_,_=>.bad
theorem ac3 (m:cM C st a.tmps w I rt fp) {id:X} (b:rF st.h (aU st.g c)=Y (id,n)) (k:aq st.h id=Y P) (v:fb P.1 n=Y d):∃j q r,a.eval c=.pointer (Y ⟨j,q,bq⟩)/\aX w P.1 bq (rt id) n d (Y (j,q)) r:=by
 have i:=m.aU c;unfold rF at b;generalize B:a.eval c=E at i;split at b
 ·rename_i y A l;cases b;rw[l] at i;cases i with|addr f e=>
  rw[k] at f;cases f;have:=e.ty;grind
 ·rename_i y A l;split at b
  case h_2=>cases b
  rename_i G F p;split at b
  case h_2=>cases b
  rename_i D x;cases b;rw[k] at p;cases p;rw[l] at i;cases i with|ref f e=>
  rw[k] at f;cases f;have:=e.ty;rw[x] at this;cases this;obtain⟨j,z,u,rfl,s,t⟩:=ph (m.tree id _ k).1 e;have o:=e.append (aX.Ia s t);have:=o.ty;rw[v] at this;cases this;exact⟨j,z,u,bo,o⟩
 grind
theorem aeZ (k:aq E.tt x=Y d) (m:a9 d r=bp) (t:o.op=.store x h c) (u:a.eval h=.pointer (Y ⟨i,b,bq⟩)) (q:(a.eval c).cells=g.toArray) (s:g.length=r.size) (j:∀c∈g,c.oneCell'=bp) (f:iE w i b (b+r.size)):(bO a.eval o).run E.P w=.ok .skip (w.setCells i b g):=by have p:=(E.ok x d k).lay m;have n:=run_storeCells_cells (P:=E.P) i b g 0 w (λe l=>by simpa using(f (b+e) aa aa).1) (λe l=>by simpa using(f (b+e) aa aa).2) j;simp only[mV] at n;have:(storeVar x ⟨i,b,bq⟩ (a.eval c)).run E.P w=.ok () (w.setCells i b g):=(by simp only[storeVar,q,bY,p.sizeOf,b2];grind);simp_all [bO,Instr.storeAt,alo]
theorem aeY (c1:o.op=.store x h c) (a4:o.dst=bq) (b:(Gi E.tt st x (aU st.g h) (aU st.g c)).K Q):eX E C o st Q:=by
 rintro a w ⟨I,rt,fp,f⟩ next ap cv
 have i:=f.aU c;unfold Gi at b;split at b
 ·exact b.elim
 rename_i id fn dg;split at b
 case h_2=>exact b.elim
 rename_i f1 f0 am q S;split at b
 ·exact b.elim
 rename_i u d0;cases v:a9 am u with
 |false=>rw[v] at b;exact b.elim
 |true=>
 rw[v] at b;simp only[bH] at b;obtain⟨O,L,d7,d1,z⟩:=ac3 f dg q d0;have G:=(E.ok x am S).lay v;have F:∀(k:ajT) (M:aO) (e:X->ajT) (d:X->ajZ),(a.eval c).cells=k.toArray->k.length=u.size->(∀c∈k,c.oneCell'=bp)->iE w O L (L+u.size)->cM C M a.tmps (w.setCells O L k) I e d->Q M->o.wp E.P a w next ap:=by
  intro k M e d ao B a0 a1 ds dl;unfold aj9;rw[aeZ S v c1 d1 ao B a0 a1];show next (a.put o.dst bW) _
  rw[a4];exact cv _ _ _ dl bo ⟨I,e,d,ds⟩
 split at b
 ·rename_i j V D;split at b
  case h_2=>exact b.elim
  rename_i f3 fz A;cases T:bI id j with
  |true=>rw[T] at b;exact b.elim
  |false=>
   rw[T] at b;obtain⟨⟨N,an⟩,⟨bx,p⟩,b⟩:=b;have em:id≠j:=λR=>(by simp_all);rw[D] at i;generalize J:a.eval c=d5 at i;cases i with|ref r H=>
   rw[A] at r;cases r;obtain⟨t,ad,fr⟩:=f.tree j _ A;obtain⟨ex,d8,f2,fs,d3,s,_,U,_⟩:=EM V (τ':=u) (y:=N) t (loc:=bq) (λ_ _ b=>by cases b) ad (λ_ _ b=>by cases b) (f.notM A) bx;obtain⟨rfl,rfl,rfl⟩:=H.kR d3;have cs:f2.Nodup:=(ji.1 (U.nodup_iff.1 ad)).1;obtain⟨n,e,d,m⟩:=f.store q z p s cs (S2:=[j]) (by grind) (λav a3=>.inr ⟨j,ac,_,A,U.mem_iff.2 (by grind)⟩);exact F _ _ e d (by rw[J];exact oL G s.len s.one) s.len s.one n m b
 ·rename_i j V d6 fT d4 D;split at b
  case isFalse=>exact b.elim
  rename_i R;subst R;obtain⟨⟨ft,an⟩,⟨rfl,rfl,bl,p⟩,b⟩:=b;rw[D] at i;generalize J:a.eval c=d5 at i;cases i with|app r ci H bs d9 ek l c2 eq co=>
  rw[q] at r;cases r;obtain rfl:=eK.uniq bl bs;obtain⟨_,ao,B⟩:=z.kR H;subst ao;subst B;have el:(ai.osl d6).kW=bp:=ci;obtain⟨n,e,d,m⟩:=f.store q z p l co (S2:=d4) (λce=>(c2 _ ce).1 bo) (λav a3=>by
   grind)
  exact F _ _ e d (by rw[J];have:=oL G l.len l.one;exact this) l.len l.one n m b
 split at b
 case h_2=>exact b.elim
 rename_i N d2;obtain⟨an,p,b⟩:=b;have t:=HA G i d2;obtain⟨n,e,d,m⟩:=f.store q z p t ac (S2:=[]) ac ac;exact F _ _ e d ac t.len t.one n m b
end
end
section
theorem EK (a:bn (bn N)) (c b:X):((a.take b).drop c).flatten.Sublist a.flatten:=by have d:a.flatten=((a.take b).take c).flatten++((a.take b).drop c).flatten++(a.drop b).flatten:=(by grind [List.flatten_append,alu]);grind
section
variable {E:fk} {C:eW} {st:aO} {a:Act} {A:ajR} {w:bD} {I:X->Prop} {rt:X->ajT} {fp:X->ajZ} {o:bS} {Q:aO->Prop}
def CI (c:bn (X×ai)) (st:aO) (a:X) (i:al):wU:=
 match i with
 |.ref id []=>match aq st.h id with
  |some b=>.eV ⟨(a,.ref a [])::kill [id,a] [] st.g,(a,b)::del [id,a] st.h⟩
  |none=>.bad
 |.ref id f=>bif bI id a then .bad else .eV ⟨(a,.ref id f)::kill [a] [] st.g,del [a] st.h⟩
 |.view id [] e d=>match aq st.h id with
  |some ⟨.osl b,j⟩=>.eV ⟨(a,.ref a [])::kill [id,a] [] st.g,(a,⟨.osl b,(j.take d).drop e⟩)::del [id,a] st.h⟩
  |_=>.bad
 |.dd (.slice bq 0 0)=>match aq c a with
  |some (.osl b)=>.eV ⟨(a,.ref a [])::kill [a] [] st.g,(a,⟨.osl b,[]⟩)::del [a] st.h⟩
  |_=>.bad
 |_=>.bad
theorem ns.one {w':bD} {I':X->Prop} {S:ajZ} {d:X} {t:aK} {cs:ajT} {f:ajZ} (x:d∈S\/aq st.h d=bq) (j:w.heap.size<=w'.heap.size) (k:w'.os=w.os) (l:w'.tape=w.tape) (m:w'.output=w.output) (n:∀a,a<w.heap.size->(∀id∈S,∀t,aq st.h id=Y t->a∉fp id)->w'.heap[a]?=w.heap[a]?) (q:∀a,a<w.heap.size->i6 w' a=i6 w a) (o:∀a,I a->I' a) (p:∀a,I' a->I a\/(a<w'.heap.size/\(w.heap.size<=a\/∃id∈S,∃t,aq st.h id=Y t/\a∈fp id))) (A:aT (bb I' C.B) w' t.1 cs t.2 f) (y:f.Nodup) (g:∀a∈f,¬I' a/\a<w'.heap.size/\(w.heap.size<=a\/∃i∈S,∃u,aq st.h i=Y u/\a∈fp i)):ns C st w w' I I' rt fp S [] [(d,t)] (λ_=>cs) (λ_=>f):=by
 refine⟨j,k,l,m,n,λa g=>.of_eq (q a g),o,p,?_,?_,(λid r=>by grind),(λid r=>by grind)⟩
 ·intro s v e;rw[de] at e;split at e
  ·grind
  cases e
 intro s D v E b c z;rw[de] at b c;split at b
 ·split at c
  ·omega
  cases c
 cases b
theorem eX.UZ (d4:o.op=.assign c) (d0:o.dst=Y b) (ad:C.ok b) (e:(CI l st b (aU st.g c)).K Q):eX E C o st Q:=by
 rintro a w ⟨I,rt,fp,s⟩ next U d3
 have n:=s.aU c;have an:(bO a.eval o).run E.P w=.ok (.value (a.eval c)) w:=(by simp[bO,d4]);have H:∀(T:aO) (rtn:X->ajT) (fpn:X->ajZ),cM C T (a.tmps.setIfInBounds b (a.eval c)) w I rtn fpn->Q T->o.wp E.P a w next U:=by
  intro T rtn fpn x M;unfold aj9;rw[an];show next (a.put o.dst (a.eval c)) w
  rw[d0];exact d3 _ _ _ M bo ⟨I,rtn,fpn,x⟩
 have z:∀(S:ajZ) (i:aK) (A:ajT) (p:ajZ),b∈S->aT (bb I C.B) w i.1 A i.2 p->p.Nodup->(∀k∈p,∃a1∈S,∃d9,aq st.h a1=Y d9/\k∈fp a1)->a.eval c=cV i.1 A->Q ⟨(b,.ref b [])::kill S [] st.g,(b,i)::del S st.h⟩->o.wp E.P a w next U:=by
  intro S i A p d1 x D u d5 M;have v:=s.eI (ns.one (st:=st) (C:=C) (rt:=rt) (w':=w) (I':=I) (S:=S) (d:=b) (t:=i) (cs:=A) (f:=p) (.inl d1) (bd _) rfl rfl rfl (λ_ _ _=>rfl) (λ_ _=>rfl) (λ_ e=>e) (λ_ e=>.inl e) x D (λk dg=>by
   obtain⟨F,q,ek,v,dl⟩:=u k dg;obtain⟨ay,d7,a3,a4⟩:=(s.tree F ek v).2.2 k dl;grind))
  refine H _ _ _ (v.put ad (av:=.ref b []) ?_) M;rw[d5];refine .ref (t:=i) (loc:=bq) (by rw[kV,de,ax bo];rfl) ?_;rw[Fj];exact aX.here
 unfold CI at e;split at e
 ·rename_i id m;split at e
  case h_2=>exact e.elim
  rename_i i y;rw[m] at n;obtain⟨R,bl,d8⟩:=s.tree id i y;refine z [id,b] i (rt id) (fp id) ac R bl (λk u=>⟨id,ac,i,y,u⟩) ?_ e;generalize ap:a.eval c=bs at n;cases n with|ref N am=>
  grind [aX.gq]
 ·rename_i id O _ m;cases u:bI id b with
  |true=>rw[u] at e;exact e.elim
  |false=>
   rw[u] at e;have f2:id≠b:=λfs=>(by simp_all);have v:=s.eI (S:=[b]) (keep:=[]) (new:=[]) (rtn:=rt) (fpn:=fp) (w':=w) (I':=I) ⟨bd _,bo,bo,bo,λ_ _ _=>rfl,λ_ _=>.refl _ _,λ_ e=>e,λ_ e=>.inl e,(λ_ _ e=>by cases e),(λ_ _ _ _ e=>by cases e),(λ_ e=>by cases e),(λ_ e=>by cases e)⟩;refine H _ _ _ (v.put ad (av:=.ref id O) ?_) e;have:=v.aU (a:=a) c;have ft:aU (kill [b] [] st.g) c=.ref id O:=by
    cases c with
    |tmp i=>
     show gt (kill [b] [] st.g) i=_;rw[p7,show gt st.g i=.ref id O from m];grind [g8,fC,e5,al.fc,al.ids,eQ,absurd]
    |const el=>exact absurd m (by cases el<;>simp[aU])
    |global fz=>cases m
    |func p=>cases m
   grind
 ·rename_i id j q m;split at e
  case h_2=>exact e.elim
  rename_i i bx y;rw[m] at n;obtain⟨R,bl,d8⟩:=s.tree id _ y;generalize ap:a.eval c=bs at n z H an;cases n with|mg=>(exact z [id,b] ⟨.osl i,[]⟩ [.slice bq 0 0] [] ac ⟨bq,0,bo,.inl ⟨bo,bo,bo,bo⟩⟩ ac ac bo e)|view N am f3 f4 f5=>
  rename_i k G f6 r;rw[y] at N;cases N;obtain⟨ao,_,cv⟩:=aX.gq.1 am;cases ao;obtain⟨eq,fn,L,x⟩:=R;rw[cv] at L;simp only[hM,aj3,ca] at L;obtain⟨rfl,rfl,rfl⟩:=L;rcases x with⟨J,_⟩|⟨ex,f7,V,J,f0,ay,d7,a3,a4⟩
  ·cases J
  cases J;have d2:((bx.take q).drop j).length=q-j:=(by grind);refine z [id,b] ⟨.osl i,(bx.take q).drop j⟩ [.slice (Y ⟨k,if r=j then G else G+j*i.size,bq⟩) (q-j) (r-j)] (k::((V.take q).drop j).flatten) ac ?_ ?_ ?_ bo e
  ·refine⟨Y ⟨k,if r=j then G else G+j*i.size,bq⟩,r-j,by rw[d2],.inr ⟨k,_,(V.take q).drop j,bo,bo,by grind,by grind,?_,?_⟩⟩
   ·intro d6 c1 c2;by_cases ds:r=j
    ·grind
    rw[aw ds] at c1 c2;have:j*i.size+(r-j)*i.size=r*i.size:=(by rw[<-kq];grind);exact a3 d6 aa aa
   intro F em p a0 D;have f1:F<q-j:=(by grind);rw[qB,sb aa] at a0 D;obtain⟨co,ce,fr,ci⟩:=a4 (j+F) em p a0 D;refine⟨co,ce,?_,ci⟩;grind
  ·grind [List.nodup_cons,EK]
  grind [EK,amf]
 ·rename_i m;split at e
  case h_2=>exact e.elim
  rename_i i fT;rw[m] at n;refine z [b] ⟨.osl i,[]⟩ [.slice bq 0 0] [] ac ⟨bq,0,bo,.inl ⟨bo,bo,bo,bo⟩⟩ ac ac ?_ e;generalize ap:a.eval c=bs at n;cases n;rfl
 exact e.elim
end
end
section
inductive lZ (σ:ai) where
 |eV (ys:bn σ.den)
 |part (α:Type) (φ:α->Prop) (f:α->bn σ.den)
 |bad
def rU (g:bn (X×aK)) (b:ai) (k:al):lZ b:=
 match k with
 |.val (.a6 _ j) a=>if e:j=b then .eV (e▸a) else .bad
 |.dd (.slice bq 0 0)=>.eV []
 |.ref id c=>match aq g id with
  |some ⟨f,d⟩=>bif b.pure then .part (bn b.den) (λa=>eK f d c (.osl b) a) (λa=>a) else .bad
  |none=>.bad
 |.view id c i h=>match aq g id with
  |some ⟨f,d⟩=>bif b.pure then .part (bn b.den) (λa=>eK f d c (.osl b) a) (λa=>(a.take h).drop i) else .bad
  |none=>.bad
 |_=>.bad
def lZ.to {f:ai} (g:lZ f) (c:X->Prop) (b:bn f.den->aO):wU:=
 match g with
 |.eV e=>.part bt (λ_=>c e.length) (λ_=>b e)
 |.part h i d=>.part h (λa=>i a/\c (d a).length) (λa=>b (d a))
 |.bad=>.bad
def CG (
 tt:bn (bG×ai)) (t:bn (X×ai)) (st:aO) (a:X) (s:bG) (j k:al):wU:=
 match gR tt s with
 |none=>.bad
 |some o=>match j with
  |.ref id []=>match aq st.h id with
   |some ⟨.osl b,d⟩=>bif a9 o b&&b3 b.size 1300 then
    match b.pure,k with
    |false,.ref n []=>match aq st.h n with
     |some ⟨.osl v,c⟩=>if e:v=b then bif bI id n then .bad else .part bt (λ_=>d.length+c.length<=hB) (λ_=>⟨(a,.ref a [])::kill [id,n,a] [] st.g,(a,⟨.osl b,d++(e▸c)⟩)::del [id,n,a] st.h⟩) else .bad
     |_=>.bad
    |_,k=>(rU st.h b k).to (λl=>d.length+l<=hB) (λc=>⟨(a,.ref a [])::kill [id,a] [] st.g,(a,⟨.osl b,d++c⟩)::del [id,a] st.h⟩)
    else .bad
   |_=>.bad
  |.ref id f=>match aq st.h id,aq st.h a with
   |some ⟨m,j⟩,bq=>match fb m f with
    |some (.osl b)=>bif a9 o b&&b3 b.size 1300&&b.kW then
     match rU st.h b k with
     |.eV c=>.part (bn b.den) (λd=>eK m j f (.osl b) d/\d.length+c.length<=hB) (λ_=>⟨(a,.app id f b c [a])::kill [id] [(id,f),(id,[])] st.g,(a,⟨.eB,()⟩)::(id,⟨m,j⟩)::del [id] st.h⟩)
     |.part u w p=>.part (bn b.den×u) (λi=>eK m j f (.osl b) i.1/\w i.2/\i.1.length+(p i.2).length<=hB) (λi=>⟨(a,.app id f b (p i.2) [a])::kill [id] [(id,f),(id,[])] st.g,(a,⟨.eB,()⟩)::(id,⟨m,j⟩)::del [id] st.h⟩)
     |.bad=>.bad
     else .bad
    |_=>.bad
   |_,_=>.bad
  |.view id [] r q=>match aq st.h id with
   |some ⟨.osl b,d⟩=>bif a9 o b&&b3 b.size 1300 then
    (rU st.h b k).to (λl=>((d.take q).drop r).length+l<=hB) (λc=>⟨(a,.ref a [])::kill [id,a] [] st.g,(a,⟨.osl b,(d.take q).drop r++c⟩)::del [id,a] st.h⟩)
    else .bad
   |_=>.bad
  |.dd (.slice bq 0 0)=>match aq t a with
   |some (.osl b)=>bif a9 o b&&b3 b.size 1300 then
    (rU st.h b k).to (λl=>l<=hB) (λc=>⟨(a,.ref a [])::kill [a] [] st.g,(a,⟨.osl b,c⟩)::del [a] st.h⟩)
    else .bad
   |_=>.bad
  |_=>.bad
section
variable {E:fk} {C:eW} {st:aO} {a:Act} {A:ajR} {w:bD} {I:X->Prop} {rt:X->ajT} {fp:X->ajZ} {o:bS} {Q:aO->Prop}
def zu (I:X->Prop) (e:X->Prop) (w:bD) (d:ai) (g:Value) (c:bn d.den):Prop:=
 ∃b f a,g=.slice b c.length f/\kG (bb I e) w d b c a/\a.flatten=[]
def Iz {b:ez} (c:∀a∈b,a=[]):b.flatten=[]:=by
 induction b with
 |nil=>rfl
 |cons f g e=>rw[lV,c f ac,e (λa d=>c a (g3 _ d))];rfl
theorem kG.pure {f:dh->X->Prop} {e:ai} {g:bw Addr} {d:bn e.den} {c:ez} (i:e.pure=bp) (a:kG f w e g d c):c.flatten=[]:=by
 refine Iz (λm h=>?_);obtain⟨q,a⟩:=a;obtain⟨b,n,rfl⟩:=hG.1 h;rcases a with rfl|⟨k,o,_,a⟩
 ·grind
 have p:b<d.length:=aa;obtain⟨l,_,_,j⟩:=a b d[b] c[b] ac ac;exact j.pure i
def lZ.holds {c:ai} (e:lZ c) (b:bn c.den):Prop:=
 match e with
 |.eV f=>b=f
 |.part g h d=>∃a:g,h a/\b=d a
 |.bad=>b7
def lZ.Gp {f:lZ d} {g:bn d.den->aO} (b:(f.to j g).K Q):∃a,f.holds a/\j a.length/\Q (g a):=by
 unfold lZ.to at b;cases f with
 |eV a=>obtain⟨_,c,e⟩:=b;exact⟨a,bo,c,e⟩
 |part l m k=>obtain⟨h,⟨c,e⟩,i⟩:=b;exact⟨k h,⟨h,c,bo⟩,e,i⟩
 |bad=>exact b.elim
theorem wq (x:cM C st a.tmps w I rt fp) {s:bn d.den} (b:(rU st.h d (aU st.g c)).holds s):zu I C.B w d (a.eval c) s:=by
 have f:=x.aU c;unfold rU at b;generalize V:a.eval c=a4 at f;split at b
 ·rename_i av a3 q j;split at b
  case isFalse=>exact b.elim
  rename_i n;subst n;obtain rfl:s=q:=b;rw[j] at f;cases f with|val E=>
  have N:=E;obtain⟨_,t,m,rfl,_⟩:=N;obtain⟨_,e⟩:=kG.a6 E;exact⟨t,m,_,bo,e,ac⟩
 ·rename_i j;obtain rfl:s=[]:=b;rw[j] at f;cases f;exact⟨bq,0,[],bo,⟨bo,.inl bo⟩,bo⟩
 ·rename_i id M j;split at b
  case h_2=>exact b.elim
  rename_i P O o;cases k:d.pure with
  |false=>rw[k] at b;exact b.elim
  |true=>
   rw[k] at b;obtain⟨q,y,rfl⟩:=b;rw[j] at f;cases f with|ref p z=>
   rw[o] at p;cases p;obtain⟨rfl,u,r,_⟩:=x.lj o y z;have L:=r;obtain⟨t,m,rfl,_⟩:=L;obtain⟨_,_,v,e,_⟩:=kG.osl r;exact⟨t,m,v,bo,e,e.pure k⟩
 ·rename_i id M i l j;split at b
  case h_2=>exact b.elim
  rename_i P O o;cases k:d.pure with
  |false=>rw[k] at b;exact b.elim
  |true=>
   rw[k] at b;obtain⟨q,y,rfl⟩:=b;rw[j] at f;cases f with|mg=>(exact⟨bq,0,[],bo,⟨bo,.inl bo⟩,bo⟩)|view p z ad am an=>
   rename_i F a1 ap m;rw[o] at p;cases p;obtain⟨n,u,r,_⟩:=x.lj o y z;cases n;obtain⟨ao,_,v,e,_⟩:=kG.osl r;have K:((q.take l).drop i).length=l-i:=(by grind);show zu I C.B w d _ ((q.take l).drop i);refine⟨_,m-i,(v.take l).drop i,by rw[K],⟨by simp[e.1],?_⟩,?_⟩
   ·obtain⟨T,e⟩:=e;by_cases U:l=i
    ·grind
    right;rcases e with rfl|⟨Q,a0,n,e⟩
    ·grind
    cases n;refine⟨F,_,bo,λD c u f A=>?_⟩;have S:D<l-i:=(by grind);rw[qB,sb aa] at f A;obtain⟨J,G,R,H⟩:=e (i+D) c u f A;refine⟨J,G,?_,H⟩;grind
   have:=e.pure k;grind [EK]
 exact b.elim
theorem af2 {c f l a:X} {m:bn d.den} (p:aT e w (.osl d) [.slice (Y ⟨c,f,bq⟩) l i] m k) (B:k.Nodup) (D:b<=a) (E:a<=l) (F:l<=i):∃h,aT e w (.osl d) [.slice (Y ⟨c,if i=b then f else f+b*d.size,bq⟩) (a-b) (i-b)] ((m.take a).drop b) h/\h.Nodup/\∀o∈h,o∈k:=by
 obtain⟨y,A,n,u⟩:=p;simp only[hM,aj3,ca] at n;obtain⟨rfl,rfl,rfl⟩:=n;rcases u with⟨j,_⟩|⟨z,G,g,j,rfl,ay,H,x,I⟩
 ·cases j
 cases j;have t:((m.take a).drop b).length=a-b:=(by grind);have C:((g.take a).drop b).flatten.Sublist g.flatten:=EK _ _ _;refine⟨c::((g.take a).drop b).flatten,⟨Y ⟨c,if i=b then f else f+b*d.size,bq⟩,i-b,by rw[t],.inr ⟨c,_,(g.take a).drop b,bo,bo,by grind,aa,?_,?_⟩⟩,?_,?_⟩
 ·intro v q r;by_cases s:i=b
  ·grind
  rw[aw s] at q r;have:b*d.size+(i-b)*d.size=i*d.size:=(by rw[<-kq];grind);exact x v aa aa
 ·grind
 ·grind
 grind
def Mr (b:o.op=.call {callee:=.builtin .append,args:=#[c,h],argTypes:=#[x,x]}) (d:(alU #[x,x] o.type #[a.eval c,a.eval h]).run E.P w=.ok R f):(bO a.eval o).run E.P w=.ok (.value R) f:=by simp only[bO,b,akC,invoke,akU,bY,ct,b2,amr,hX,qD,d]
theorem eX.zy {K L:bP} (cv:o.op=.call {callee:=.builtin .append,args:=#[K,L],argTypes:=#[x,x]}) (ap:o.dst=Y b) (a3:C.ok b) (p:cM C st a.tmps w I rt fp) {next:Act->bD->Prop} {N:b6->Act->bD->Prop} (co:∀H z m,Q H->z.defers=a.defers->gC C H z.tmps m->next z m) {J:ai} (ad:gR E.tt x=Y J) (bx:a9 J r=bp) (dl:r.size<=1300) {S:ajZ} (a0:b∈S) {G A:X} {xs q:bn r.den} {f1:ajZ} {v:ez} {M:bw Addr} (fs:a.eval K=.slice s G A) (dg:aT (bb I C.B) w (.osl r) [.slice s G A] xs f1) (bl:f1.Nodup) (eq:∀e∈f1,∃j∈S,∃k,aq st.h j=Y k/\e∈fp j) (ft:a.eval L=.slice M q.length i) (a4:kG (bb I C.B) w r M q v) (bs:v.flatten.Nodup) (ex:∀e∈v.flatten,∃j∈S,∃k,aq st.h j=Y k/\e∈fp j) (a1:∀e∈f1,e∉v.flatten) (ce:xs.length+q.length<=hB) (c1:Q ⟨(b,.ref b [])::kill S [] st.g,(b,⟨.osl r,xs++q⟩)::del S st.h⟩):o.wp E.P a w next N:=by
 obtain⟨j,d9,ek,T,U⟩:=gR.ok ad;have D:=U.lay bx;obtain⟨fz,_,d0,_⟩:=D.info;have fr:∀j k,aq st.h j=Y k->∀e∈fp j,e<w.heap.size/\∀F,¬bb I C.B F e:=λj k y e l=>⟨((p.tree j k y).2.2 e l).2.2.1,p.notM y e l⟩;obtain⟨u,m,f2,f4,d2,_,aL,d3,d4,d5,d6,d7,d1,f5,_,d8⟩:=Ms (P:=E.P) (ty:=o.type) T D d0.info dl dg (c:=i) a4 bl (λe l=>by grind) bs a1 (λF e ci=>p.ib e (m8 ci)) (λe l=>by grind) (λe l=>by grind) ce;have c2:(bO a.eval o).run E.P w=.ok (.value u) m:=Mr (E:=E) cv (by grind);have an:∀e∈f2,(∃j∈S,∃k,aq st.h j=Y k/\e∈fp j)\/(w.heap.size<=e/\e<m.heap.size):=λe l=>by
  rcases d3 e l with n|n|n
  ·grind
  ·grind
  omega
 have ds:=p.eI (ns.one (st:=st) (C:=C) (rt:=rt) (w':=m) (I':=I) (S:=S) (d:=b) (t:=⟨.osl r,xs++q⟩) (cs:=[u]) (f:=f2) (.inl a0) d4 d5 d6 d7 (λe l el=>d1 e l (λem=>by grind)) d8 (λ_ n=>n) (λ_ n=>.inl n) d2 aL (λe l=>by
   rcases an e l with⟨j,fn,k,y,am⟩|⟨O,R⟩
   ·obtain⟨ay,fT,f0,f3⟩:=(p.tree j k y).2.2 e am;grind
   exact⟨λV=>by have:=p.ib e (.inl V);omega,R,.inl O⟩))
 unfold aj9;rw[c2];show next (a.put o.dst u) m
 rw[ap];refine co _ _ _ c1 bo ⟨I,_,_,ds.put a3 (av:=.ref b []) ?_⟩;have:u=cV (.osl r) [u]:=rfl;rw[this];refine .ref (t:=⟨.osl r,xs++q⟩) (loc:=bq) (by rw[kV,de,ax bo];rfl) ?_;rw[Fj];exact aX.here
end
end
section
section
variable {E:fk} {C:eW} {st:aO} {a:Act} {A:ajR} {w:bD} {I:X->Prop} {rt:X->ajT} {fp:X->ajZ} {o:bS} {Q:aO->Prop}
theorem Mu {a0 fz:bP} (i1:o.op=.call {callee:=.builtin .append,args:=#[a0,fz],argTypes:=#[x,x]}) (bx:o.dst=Y b) (hc:C.ok b) (p:cM C st a.tmps w I rt fp) {next:Act->bD->Prop} {fT:b6->Act->bD->Prop} (i0:∀fs a1 w',Q fs->a1.defers=a.defers->gC C fs a1.tmps w'->next a1 w') {ap:ai} (gf:gR E.tt x=Y ap) (ic:a9 ap r=bp) (i8:r.size<=1300) (c2:r.kW=bp) {id:X} (hi:aU st.g a0=.ref id n) {m:d.den} (u:aq st.h id=Y ⟨d,m⟩) (gt:aq st.h b=bq) {y O:bn r.den} (co:eK d m n (.osl r) y) {S2:ajZ} (kg:∃ds G A,a.eval fz=.slice ds O.length G/\kG (bb I C.B) w r ds O A/\A.flatten.Nodup/\∀e∈A.flatten,∃f∈S2,∃z,aq st.h f=Y z/\e∈fp f) (bs:∀f∈S2,f≠id/\∃ap,aq st.h f=Y ap) (ii:y.length+O.length<=hB) (d9:Q ⟨(b,.app id n r O (b::S2))::kill [id] [(id,n),(id,[])] st.g,(b,⟨.eB,()⟩)::(id,⟨d,m⟩)::del [id] st.h⟩):o.wp E.P a w next fT:=by
 obtain⟨f,os,bl,f8,f9⟩:=gR.ok gf;have d2:=f9.lay ic;obtain⟨rb,_,mo,_⟩:=d2.info;have dg:=p.aU a0;rw[hi] at dg;generalize kd:a.eval a0=rs at dg;cases dg with|ref q c1=>
 rename_i r1 d0 f0;rw[u] at q;cases q;simp only at c1;obtain⟨mp,ex,mt⟩:=p.tree id _ u;obtain⟨rg,o0,H,dl,f4,d1,f5,R,ps,f6,f7⟩:=AO n (loc:=bq) mp (λ_ _ j=>by cases j) ex (λ_ _ j=>by cases j) (p.notM u) co;obtain⟨f1,ao,f3⟩:=c1.kR f4;subst f1;subst ao;subst f3;have d8:=R.nodup_iff.1 ex;rw[ji] at d8;obtain⟨io,d7,is⟩:=d8;obtain⟨a3,a4,rfl,_⟩:=(show aT (bb I C.B) w (.osl r) f0 y H from d1);obtain⟨ds,G,A,lc,hr,hv,ci⟩:=kg;have V:∀e∈H,e∈fp id:=λe i=>R.mem_iff.2 (by grind);have cv:∀e∈fp id,e<w.heap.size/\∀M,¬bb I C.B M e:=λe i=>⟨(mt e i).2.2.1,p.notM u e i⟩;have lb:∀e∈A.flatten,e<w.heap.size:=λe i=>(by obtain⟨f,l,z,ad,T⟩:=ci e i;exact((p.tree f z ad).2.2 e T).2.2.1);obtain⟨ft,w',f2,m0,m1,fr,m2,nd,ne,no,nx,n7,fn,ro,_,of⟩:=Ms (P:=E.P) (ty:=o.type) f8 d2 mo.info i8 d1 (c:=G) hr io (λe i=>(cv e (V e i)).2) hv (λe i go=>by
  obtain⟨f,l,z,ad,T⟩:=ci e go;exact p.dis id f _ z u ad (bs f l).1.symm e (V e i) T)
  (λM e d6=>p.ib e (m8 d6)) (λe i=>(cv e (V e i)).1) lb ii
 have i3:(bO a.eval o).run E.P w=.ok (.value ft) w':=Mr (E:=E) i1 (by rw[kd,lc];exact m0);have ek:∀e∈dl,e<w.heap.size/\e∉H:=λe i=>⟨(cv e (R.mem_iff.2 (by grind))).1,λj=>is e j e i bo⟩;have el:∀e,(∃M,bb I C.B M e)\/e∈dl->c6 w w' e:=λe i=>by
  rcases i with⟨M,d6⟩|i
  ·grind
  exact .of_heap (fn e (ek e i).1 (ek e i).2)
 have gi:∀e N,d0=Y (e,N)->fd w' e N [.slice a3 y.length a4]:=λe N k=>(by have i:e∈dl:=(by grind);exact(f5 e N k).1.fV (el e (.inr i)));obtain⟨o1,J,rd,_,le,_,lk,lo⟩:=f6 w' (bb I C.B) [.slice a3 y.length a4] y H m (λ_ _ j=>j) (λe i=>by
  have U:c6 w w' e:=el e (by
   rcases i with j|j|⟨N,j⟩
   ·grind
   ·grind
   grind)
  exact⟨λv _=>(U.1 v).1,λv=>(U.1 v).2,λv=>by rw[(U.1 v).1],U.2⟩) fr (λ_ _=>rfl) gi (e3.same co)
 obtain rfl:=le bo (.inr bo);have pv:J.Perm (fp id):=lk.trans R.symm;have s:b≠id:=λk=>(by grind);have d4:∀e∈f2,e∈H\/e∈A.flatten\/(w.heap.size<=e/\e<w'.heap.size):=λe i=>nd e i
 let K:=f2.filter λe=>bu (w.heap.size<=e)
 have hs:∀e∈K,w.heap.size<=e/\e<w'.heap.size:=λe i=>by
  have gl:=iF.1 i;have bl:w.heap.size<=e:=(by grind);rcases d4 e gl.1 with j|j|j
  ·grind
  ·grind
  omega
 have jp:=p.eI (S:=[id]) (keep:=[(id,n),(id,[])]) (new:=[(b,⟨.eB,()⟩),(id,⟨d,m⟩)]) (rtn:=λf=>if f=b then[] else rt id) (fpn:=λf=>if f=b then K else J) (w':=w') (I':=I) ⟨ne,no,nx,n7,λe i ge=>fn e i (λj=>ge id ac _ u (V e j)),λe i=>.of_eq (of e i),λ_ j=>j,λ_ j=>.inl j,(by
   intro f F l;rw[de] at l;split at l
   ·rename_i k;subst k;cases l;refine⟨.inr gt,(by simp only[cg];exact bo),(by grind),λe i=>?_⟩;simp only[cg] at i;obtain⟨ay,an⟩:=hs e i;exact⟨λgc=>by have:=p.ib e (.inl gc);omega,an,.inl ay⟩
   ·rw[de] at l;split at l
    ·rename_i _ k;subst k;grind
    cases l),(by
   intro f v ol on l hw ra e i;have d3:∀am F,aq [(b,(⟨.eB,()⟩:aK)),(id,⟨d,m⟩)] am=Y F->am=b\/am=id:=λam F D=>by
    rw[de] at D;split at D
    ·omega
    rw[de] at D;split at D
    ·omega
    cases D
   have L:¬(id=b):=λk=>s k.symm;rcases d3 f ol l with rfl|rfl<;>rcases d3 v on hw with rfl|rfl
   ·omega
   ·grind
   ·grind
   omega),(by
   intro f l F q;have cs:f=(id,n)\/f=(id,[]):=(by grind);have bl:f.1=id:=(by grind);have q:aq st.h id=Y F:=(by grind);rw[u] at q;obtain rfl:=gb q;have L:¬(id=b):=λk=>s k.symm;refine⟨⟨d,m⟩,by rw[bl,de,aw s,de,ax bo],bo,by grind,(by rcases cs with rfl|rfl;exact⟨_,c1.ty⟩;exact⟨d,by cases d<;>rfl⟩),λeq _ _ _ D d9=>?_⟩;grind [E4]),(by
   intro f l F q eq sl r0 l2 oN pl bx c2 d7 d5 i2;have cs:f=(id,n)\/f=(id,[]):=(by grind);rcases cs with rfl|rfl
   ·rw[u] at q;obtain rfl:=gb q;have L:¬(id=b):=λk=>s k.symm;refine⟨⟨d,m⟩,by rw[de,aw s,de,ax bo],d5,λG gs=>?_⟩;obtain⟨ay,an⟩:=f7 eq _ _ _ _ _ bx (by exact c2) d5 d7 i2 G gs;grind
   grind [vj])⟩
 unfold aj9;rw[i3];show next (a.put o.dst ft) w'
 rw[bx];refine i0 _ _ _ d9 bo ⟨I,_,_,jp.put hc (av:=.app id n r O (b::S2)) ?_⟩;have L:¬(id=b):=λk=>s k.symm;have lt:aq ([(b,(⟨.eB,()⟩:aK)),(id,⟨d,m⟩)]++del [id] st.h) id=Y ⟨d,m⟩:=(by rw[kV,de,aw s,de,ax bo];rfl);have l2:aq ([(b,(⟨.eB,()⟩:aK)),(id,⟨d,m⟩)]++del [id] st.h) b=Y ⟨.eB,()⟩:=(by rw[kV,de,ax bo];rfl);have em:aq [(b,(⟨.eB,()⟩:aK)),(id,⟨d,m⟩)] id=Y ⟨d,m⟩:=(by rw[de,aw s,de,ax bo]);have mc:aq [(b,(⟨.eB,()⟩:aK)),(id,⟨d,m⟩)] b=Y ⟨.eB,()⟩:=(by rw[de,ax bo]);have pr:e8 [(b,(⟨.eB,()⟩:aK)),(id,⟨d,m⟩)] (λf=>if f=b then K else J) fp id=J:=(by simp only[e8,em,aw L]);have pm:e8 [(b,(⟨.eB,()⟩:aK)),(id,⟨d,m⟩)] (λf=>if f=b then K else J) fp b=K:=(by simp only[e8,mc,cg]);have mz:e8 [(b,(⟨.eB,()⟩:aK)),(id,⟨d,m⟩)] (λf=>if f=b then[] else rt id) rt id=rt id:=(by simp only[e8,em,aw L]);have ix:aX w' d bq (rt id) n (.osl r) d0 [.slice a3 y.length a4]:=lo.1;refine .app (t:=⟨d,m⟩) lt c2 (by rw[mz];exact ix) co fr (λe i=>by grind) m1 ?_ ?_ m2
 ·intro f l;rcases fG.1 l with rfl|l
  ·grind
  obtain⟨ay,or,an⟩:=bs f l;have ce:¬(b=f):=λk=>(by grind);refine⟨ay,or,?_⟩;rw[kV,de,aw ce,de,aw (λk=>ay k.symm),m7,aw (by grind),an];rfl
 intro e i;rcases d4 e i with j|j|j
 ·grind
 ·obtain⟨f,l,z,ad,T⟩:=ci e j;obtain⟨ay,_⟩:=bs f l;have ce:¬(b=f):=λk=>(by grind);have rl:aq [(b,(⟨.eB,()⟩:aK)),(id,⟨d,m⟩)] f=bq:=(by rw[de,aw ce,de,aw (λk=>ay k.symm)];rfl);exact .inr ⟨f,g3 _ l,by grind [e8]⟩
 grind
theorem Mt {p:bP} (N:o.op=.call {callee:=.builtin .append,args:=#[c,p],argTypes:=#[x,x]}) (A:o.dst=Y b) (F:C.ok b) (y:cM C st a.tmps w I rt fp) {next:Act->bD->Prop} (M:∀j e l,Q j->e.defers=a.defers->gC C j e.tmps l->next e l) {k:ai} (z:gR E.tt x=Y k) (J:a9 k d=bp) (R:d.size<=1300) (L:d.kW=bp) {id:X} (G:aU st.g c=.ref id n) {i:r.den} (S:aq st.h id=Y ⟨r,i⟩) (D:aq st.h b=bq) {m f:bn d.den} (H:eK r i n (.osl d) m) (T:zu I C.B w d (a.eval p) f) (K:m.length+f.length<=hB) (O:Q ⟨(b,.app id n d f [b])::kill [id] [(id,n),(id,[])] st.g,(b,⟨.eB,()⟩)::(id,⟨r,i⟩)::del [id] st.h⟩):o.wp E.P a w next t:=by obtain⟨U,q,s,u,v,V⟩:=T;exact Mu (S2:=[]) N A F y M z J R L G S D H ⟨U,q,s,u,v,by grind,by grind⟩ ac K O
end
end
section
section
variable {E:fk} {C:eW} {st:aO} {o:bS} {Q:aO->Prop}
theorem eX.app {ds:bn (X×ai)} {U:bG} {z L:bP} {s:X} (y:o.op=.call {callee:=.builtin .append,args:=#[z,L],argTypes:=#[U,U]}) (v:o.dst=Y s) (w:C.ok s) (a:(CG E.tt ds st s U (aU st.g z) (aU st.g L)).K Q):eX E C o st Q:=by
 rintro A J ⟨F,R,H,c⟩ next fs x
 have q:=c.aU z;unfold CG at a;split at a
 ·exact a.elim
 rename_i T u;split at a
 ·rename_i id t;split at a
  case h_2=>exact a.elim
  rename_i e l f;cases b:(a9 T e&&b3 e.size 1300) with
  |false=>rw[b] at a;exact a.elim
  |true=>
  rw[b] at a;simp only[cE] at b;obtain⟨j,d⟩:=b;have d:=gL d;simp only[bH] at a;rw[t] at q;generalize D:A.eval z=dg at q;cases q with|ref I ap=>
  rw[f] at I;cases I;obtain⟨ao,_,G⟩:=aX.gq.1 ap;subst ao;subst G;obtain⟨O,P,eq⟩:=c.tree id _ f;obtain⟨a1,ad,fT,_⟩:=(show aT (bb F C.B) J (.osl e) (R id) l (H id) from O);have cv:A.eval z=.slice a1 l.length ad:=(by rw[D];show(R id).headD bW=_;grind);have c2:aT (bb F C.B) J (.osl e) [.slice a1 l.length ad] l (H id):=(by grind);split at a
  ·rename_i k f3 d0;split at a
   case h_2=>exact a.elim
   rename_i dl r N;split at a
   case isFalse=>exact a.elim
   rename_i bl;subst bl;cases bs:bI id k with
   |true=>rw[bs] at a;exact a.elim
   |false=>
   rw[bs] at a;have d4:id≠k:=λbl=>(by grind [alT]);obtain⟨_,h,a⟩:=a;have av:=c.aU L;rw[d0] at av;generalize p:A.eval L=gc at av;cases av with|ref cs d3=>
   rw[N] at cs;cases cs;obtain⟨ao,_,G⟩:=aX.gq.1 d3;subst ao;subst G;obtain⟨ex,fp,f9⟩:=c.tree k _ N;obtain⟨a3,a4,f0,_⟩:=(show aT (bb F C.B) J (.osl dl) (R k) r (H k) from ex);have d5:A.eval L=.slice a3 r.length a4:=(by rw[p];show(R k).headD bW=_;grind);have fn:aT (bb F C.B) J (.osl dl) [.slice a3 r.length a4] r (H k):=(by grind);obtain⟨_,_,M,n,ce,d2,_⟩:=kG.osl fn;exact eX.zy y v w c x u j d (S:=[id,k,s]) ac cv c2 P (λm b=>⟨id,ac,_,f,b⟩) d5 n (d2 fp) (λm b=>⟨k,ac,_,N,ce m b⟩) (λm b d1=>c.dis id k _ _ f N d4 m b (ce m d1)) h a
  obtain⟨r,i,h,a⟩:=lZ.Gp a;obtain⟨a0,V,M,p,n,am⟩:=wq c i;exact eX.zy y v w c x u j d (S:=[id,s]) ac cv c2 P (λm b=>⟨id,ac,_,f,b⟩) p n (by grind) (by grind) (by grind) h a
 ·rename_i id f8 f4 t;split at a
  case h_2=>exact a.elim
  rename_i gi ge f bx;split at a
  case h_2=>exact a.elim
  rename_i e f5;cases b:(a9 T e&&b3 e.size 1300&&e.kW) with
  |false=>rw[b] at a;exact a.elim
  |true=>
  rw[b] at a;simp only[cE] at b;obtain⟨⟨j,d⟩,co⟩:=b;have d:=gL d;simp only[bH] at a;split at a
  ·rename_i r i;obtain⟨l,⟨an,h⟩,a⟩:=a;exact Mt y v w c x u j d co t f bx an (wq c (by rw[i];exact bo)) h a
  ·rename_i gf gl ft i;obtain⟨⟨l,ek⟩,⟨an,d6,h⟩,a⟩:=a;exact Mt y v w c x u j d co t f bx an (wq c (by rw[i];exact⟨ek,d6,bo⟩)) h a
  exact a.elim
 ·rename_i id c1 ci t;split at a
  case h_2=>exact a.elim
  rename_i e l f;cases b:(a9 T e&&b3 e.size 1300) with
  |false=>rw[b] at a;exact a.elim
  |true=>
  rw[b] at a;simp only[cE] at b;obtain⟨j,d⟩:=b;have d:=gL d;simp only[bH] at a;rw[t] at q;obtain⟨O,P,eq⟩:=c.tree id _ f;generalize D:A.eval z=dg at q;cases q with|mg=>(obtain⟨r,i,h,a⟩:=lZ.Gp a;obtain⟨a0,V,M,p,n,am⟩:=wq c i;exact eX.zy y v w c x u j d (S:=[id,s]) ac (xs:=[]) (f1:=[]) D ⟨bq,0,bo,.inl ⟨bo,bo,bo,bo⟩⟩ ac ac p n (by grind) (by grind) ac (by grind) (by grind))|view I ap d7 d8 d9=>
  rename_i m f7 f6 ad;rw[f] at I;cases I;obtain⟨ao,_,G⟩:=aX.gq.1 ap;cases ao;obtain⟨r,i,h,a⟩:=lZ.Gp a;obtain⟨a0,V,M,p,n,am⟩:=wq c i;rw[G] at O;obtain⟨fr,ay,el,em⟩:=af2 (show aT (bb F C.B) J (.osl e) _ l (H id) from O) P d7 d8 d9;have f2:((l.take ci).drop c1).length=ci-c1:=(by grind [kG.osl]);exact eX.zy y v w c x u j d (S:=[id,s]) ac D ay el (λm b=>⟨id,ac,_,f,em m b⟩) p n (by grind) (by grind) (by grind) h a
 ·rename_i t;split at a
  case h_2=>exact a.elim
  rename_i e fz;cases b:(a9 T e&&b3 e.size 1300) with
  |false=>rw[b] at a;exact a.elim
  |true=>
  rw[b] at a;simp only[cE] at b;obtain⟨j,d⟩:=b;have d:=gL d;simp only[bH] at a;rw[t] at q;generalize D:A.eval z=dg at q;cases q;obtain⟨r,i,h,a⟩:=lZ.Gp a;obtain⟨a0,V,M,p,n,am⟩:=wq c i;exact eX.zy y v w c x u j d (S:=[s]) ac (xs:=[]) (f1:=[]) D ⟨bq,0,bo,.inl ⟨bo,bo,bo,bo⟩⟩ ac ac p n (by grind) (by grind) ac (by grind) (by grind)
 exact a.elim
end
end
section
def h7 (E:fk) (C:eW) (A:bU bS) (g:ajZ) (st:aO) (Q:aO->Prop):Prop:=
 ∀(a:Act) (e:bD),gC C st a.tmps e->∀c:b6->Act->bD->Prop,(∀d b f,Q d->b.defers=a.defers->gC C d b.tmps f->c .normal b f)->wpOps E.P A c g a e
def k3 (A:bU bS) (st:aO) (d:bS) (a:bA):Prop:=
 match d.guard with
 |none=>a=bp
 |some (c,e)=>match(A[c]?).bind (·.dst) with
  |some b=>match gt st.g b with
   |.val .bool f=>(f==e)=a
   |.dd (.tuple _)=>a=br
   |_=>b7
  |none=>b7
section
variable {E:fk} {C:eW} {st:aO} {A:bU bS} {Q:aO->Prop}
theorem k3.ok {b:Act} (h:cM C st b.tmps f j p q) {l:bS} {g:bA} (d:k3 A st l g):amw l (yielded A b.tmps)=g:=by
 unfold k3 at d;unfold amw;split at d
 ·grind
 rename_i t w m;rw[m];split at d
 ·rename_i c i;split at d
  ·rename_i s e;have:=h.tmp c;rw[e] at this;generalize a:b.tmps.getD c bW=r at this;cases this with|val o=>
   obtain⟨_,rfl⟩:=o;have n:b.tmps[c]?=Y (.bool s):=by
    rw[ank] at a;cases k:b.tmps[c]? with
    |none=>rw[k] at a;cases a
    |some v=>rw[k] at a;simp only[us] at a;rw[a];rfl
   simp only[yielded,i,aI,n];rw[<-d];grind
  ·rename_i u e;have:=h.tmp c;rw[e] at this;generalize a:b.tmps.getD c bW=r at this;cases this;subst d;simp only[yielded,i,aI];rw[ank] at a;grind
  grind
 grind
def h7.nil (b:Q st):h7 E C A [] st Q:=λa e c _ d=>d st a e b bo c
def h7.op {a:bS} (p:A[b]?=Y a) (t:k3 A st a bp) (i:eX E C a st (λd=>h7 E C A k d Q)):h7 E C A (b::k) st Q:=by intro f v c e q;obtain⟨y,B,z,l⟩:=id c;simp only[wpOps,p];rw[t.ok l,ax bo];exact .inl (i f v c _ _ (λd g w o m r=>o g w r e (λu h x j n s=>q u h x j (n.trans m) s)))
theorem h7.skip {a:bS} (r:A[i]?=Y a) (o:a.dst=Y b) (q:C.ok b) (u:k3 A st a br) (l:h7 E C A k ⟨(b,.dd bW)::st.g,st.h⟩ Q):h7 E C A (i::k) st Q:=by intro z x n e s;obtain⟨d,v,j,c⟩:=id n;simp only[wpOps,r];rw[u.ok c,aw ac,o];exact l _ x ⟨d,v,j,c.put q (.dd bW)⟩ e (λw f y m p t=>s w f y m p t)
def gC.zK {b:ajR} {c:bD} {st a:aO} (f:gC C st b c) (j:o5 a.g st) (k:o6 a.h st) (l:mE a.g a.h=bp):gC C a b c:=by obtain⟨d,m,e,i⟩:=f;exact⟨d,m,e,i.zK j k (mE.get l)⟩
def J (E:fk) (C:eW) (e:Code) (st:aO) (Q:b6->aO->Prop):Prop:=
 ∀(a:Act) (d:bD),gC C st a.tmps d->a.defers=[]->e.wp E.P (λf b g=>∃c,Q f c/\gC C c b.tmps g/\b.defers=[]) a d
variable {R:b6->aO->Prop}
def J.af4 {a:Code} (f:o5 O.g st) (i:o6 O.h st) (j:mE O.g O.h=bp) (c:J E C a O R):J E C a st R:=λb k d e=>c b k (d.zK f i j) e
theorem J.region {id:X} (c:h7 E C A (bL A.size) st (λa=>R .normal a)):J E C (.region id A br) st R:=
 λb i d e=>wp_region (c b i d _ (λa _a' _w' g f h=>⟨a,g,h,f.trans e⟩))
theorem J.skip (a:R .normal st):J E C .skip st R:=λ_ _ b c=>wp_skip ⟨st,a,b,c⟩
theorem J.exit {id:X} (a:R (.exit id) st):J E C (.exit id) st R:=λ_ _ b c=>wp_exit ⟨st,a,b,c⟩
theorem J.ret (a:R .ret st):J E C .ret st R:=λ_ _ b c=>wp_ret ⟨st,a,b,c⟩
def aeu (E:fk) (C:eW) (b:Code) (R:b6->aO->Prop):b6->aO->Prop
 |.normal,a=>J E C b a R
 |e,a=>R e a
def J.seq {d e:Code} (i:J E C d st (aeu E C e R)):J E C (.seq d e) st R:=λf m j k=>by
 refine wp_seq (wp_mono (i f m j k) ?_);rintro h g n ⟨l,a,b,c⟩;cases h with
 |normal=>exact a g n b c
 |_=>exact⟨l,a,b,c⟩
def J.cond {a:bP} {l m:Code} {c:bA} (n:aU st.g a=.val .bool c) (p:c=bp->J E C l st R) (o:c=br->J E C m st R):J E C (.cond a l m) st R:=by
 rintro b k ⟨f,j,h,e⟩ i;have:=e.aU a;rw[n] at this;generalize q:b.eval a=s at this;cases this with|val r=>
 obtain⟨_,rfl⟩:=r;exact wp_cond_split q (λd=>p d b k ⟨f,j,h,e⟩ i) (λd=>o d b k ⟨f,j,h,e⟩ i)
def Hk (id:X) (R:b6->aO->Prop):b6->aO->Prop
 |.exit b,a=>match bI b id with
  |true=>R .normal a
  |false=>R (.exit b) a
 |e,a=>R e a
theorem J.block {id:X} {b:Code} (f:J E C b st (Hk id R)):J E C (.block id b) st R:=λd m i j=>by
 refine wp_block (wp_mono (f d m i j) ?_);rintro e n o ⟨l,a,g,h⟩;cases e with
 |exit c=>
  simp only[Exit.inBlock];simp only[Hk] at a;by_cases k:c=id
  ·subst k;rw[alT] at a;grind
  have:bI c id=br:=(by grind [akJ]);grind
 |_=>exact⟨l,a,g,h⟩
def kf {a c:Type} (b:a->bw (a⊕c)):X->a->bw c
 |0,_=>bq
 |n+1,e=>match b e with
  |none=>bq
  |some (.inl f)=>kf b n f
  |some (.inr d)=>Y d
open Classical in
def loop {σ ρ:Type} (a:σ->bw (σ⊕ρ)) (d:σ):bw ρ:=
 if h:∃c,∃b,kf a b d=Y c then Y h.choose else bq
theorem Jm {e g:Type} {f:e->bw (e⊕g)}:∀{n b:X} {d:e} {c:g},n<=b->kf f n d=Y c->kf f b d=Y c
 |0,_,_,_,_,a=>by cases a
 |n+1,0,_,_,a,_=>by omega
 |n+1,b+1,d,c,h,a=>by
  simp only[kf] at a|-;split at a
  ·cases a
  ·exact Jm aa a
  omega
theorem yk {c:N->bw (N⊕S)} {d:N} {b:S}:loop c d=Y b↔∃a,kf c a d=Y b:=by
 unfold loop;constructor
 ·intro g;split at g
  ·grind
  grind
 rintro⟨a,f⟩;have e:∃b,∃a,kf c a d=Y b:=⟨b,a,f⟩;rw[ak7 e];obtain⟨h,j⟩:=e.choose_spec;have i:=Jm (Nat.le_max_left a h) f;grind [Jm,Nat.le_max_right]
theorem Jo (c:N->bw (N⊕S)) (d:N):loop c d=match c d with
 |none=>bq
 |some (.inl f)=>loop c f
 |some (.inr e)=>Y e:=by
 apply Option.ext;intro e;rw[yk];cases i:c d with
 |none=>
  simp only[reduceCtorEq,iff_false];rintro⟨a,b⟩;cases a with
  |zero=>cases b
  |succ a=>grind [kf]
 |some g=>
  cases g with
  |inl f=>
   simp only;rw[yk];constructor
   ·rintro⟨a,b⟩;cases a with
    |zero=>cases b
    |succ a=>grind [kf]
   rintro⟨a,b⟩;exact⟨a+1,by grind [kf]⟩
  |inr j=>
   simp only;constructor
   ·rintro⟨a,b⟩;cases a with
    |zero=>cases b
    |succ a=>grind [kf]
   intro h;exact⟨1,by grind [kf]⟩
theorem J.loop {σ ρ K:Type} {b:Code} (lg:σ->aO) {z:σ->bw (σ⊕ρ)} {s:σ} {w:ρ->bw K} {I:K} (N:(loop z s).bind w=Y I) (T:o5 (lg s).g st) (U:o6 (lg s).h st) (V:mE (lg s).g (lg s).h=bp) (S:∀d q,z d=Y q->(match q with|.inl _=>True|.inr G=>w G=Y I)->J E C b (lg d) (λc t=>match q with
  |.inl r=>c=.normal/\o5 (lg r).g t/\o6 (lg r).h t/\mE (lg r).g (lg r).h=bp
  |.inr _=>(c=.normal->b7)/\R c t)):J E C (.loop b) st R:=by
 obtain⟨G,am,a4⟩:=eL.1 N;obtain⟨p,i⟩:=yk.1 am;have ap:∀(p:X) (d:σ) (e:Act) (l:bD),kf z p d=Y G->gC C (lg d) e.tmps l->e.defers=[]->∀(j:Frame) (w:bn Item) (k:bn Frame),
  ∃c v B,(∃t,R c t/\gC C t v.tmps B/\v.defers=[])/\Arrives E.P (lone (j.at e (.code b::.inLoop b::w)) k l) j w k c v B:=by
  intro p
  induction p with
  |zero=>intro d e l i;cases i
  |succ p an=>
   intro d e l i D F j A k;simp only[kf] at i;cases H:z d with
   |none=>grind
   |some q=>
    rw[H] at i;have Q:=S d q H (by
     grind)
    obtain⟨c,m,u,⟨y,a,o,n⟩,f⟩:=Q e l D F j (.inLoop b::A) k;cases q with
    |inl r=>
     simp only at i a;obtain⟨rfl,ay,av,a0⟩:=a;obtain⟨M,L,a1,ad,O⟩:=an r m u i (o.zK ay av a0) n j A k;exact⟨M,L,a1,ad,.of_steps (Steps.trans f (.one step_inLoop)) O⟩
    |inr bx=>
     obtain⟨bl,a⟩:=a;cases c with
     |normal=>grind
     |exit id=>exact⟨_,m,u,⟨y,a,o,n⟩,.pass (x:=.inLoop b) rfl (λ_ _=>.inl ac) f⟩
     |goto bs=>exact⟨_,m,u,⟨y,a,o,n⟩,.pass (x:=.inLoop b) rfl (λ_ _=>.inl ac) f⟩
     |ret=>exact⟨_,m,u,⟨y,a,o,n⟩,.pass (x:=.inLoop b) rfl (λ_ _=>.inl ac) f⟩
     |panic a3=>exact⟨_,m,u,⟨y,a,o,n⟩,.pass (x:=.inLoop b) rfl (λ_ _=>.inl ac) f⟩
     |outgrown=>exact⟨_,m,u,⟨y,a,o,n⟩,.pass (x:=.inLoop b) rfl (λ_ _=>.inl ac) f⟩
 refine J.af4 T U V (λe l D F j A k=>?_);obtain⟨c,v,B,a,f⟩:=ap p s e l i D F j A k;exact⟨c,v,B,a,.of_steps (.one step_loop) f⟩
end
end
def tq:dh->dh->bA
 |.be,_=>bp
 |.c7,.c7=>bp
 |.c7,.be=>br
def yb:dh->bA
 |.c7=>bp
 |.be=>br
def eF:ai->ai->bA
 |.int i,.int j=>if i=j then bp else br
 |.bool,.bool|.str,.str|.nil,.nil=>bp
 |.a6 c a,.a6 d b=>tq c d&&eF a b
 |.osl a,.a6 c b=>yb c&&eF a b
 |.ptr c a,.ptr d b=>tq c d&&eF a b
 |.st a,.st b=>eF a b
 |.pr e f,.pr g h=>eF e g&&eF f h
 |.mp a,.e1 c b=>yb c&&eF a b
 |.e1 c a,.e1 d b=>tq c d&&eF a b
 |.fn k a,.fn c b=>bI k c&&eF a b
 |_,_=>br
theorem tq.ok {f e:X->Prop} (h:∀b,j b->e b) {c d:dh} (g:tq c d=bp) (a:bb f j c b):bb f e d b:=by
 cases c<;>cases d
 ·exact a
 ·exact .inl a
 ·cases g
 exact a.imp id (h b)
theorem yb.ok {a:dh} (b:yb a=bp):a=.c7:=by cases a;cases b;rfl
theorem eF.den:∀{e b:ai},eF e b=bp->e.den=b.den:=by
 intro e
 induction e with
 |a6 f c d=>
  intro b a;cases b<;>simp only[eF] at a<;>try (cases a;done)
  grind
 |ptr f c d=>
  intro b a;cases b<;>simp only[eF] at a<;>try (cases a;done)
  grind
 |osl c d=>
  intro b a;cases b<;>simp only[eF] at a<;>try (cases a;done)
  grind
 |st c d=>
  intro b a;cases b with
  |st m=>grind [eF]
  |_=>simp only[eF] at a;cases a
 |pr g h i j=>
  intro b a;cases b<;>simp only[eF] at a<;>try (cases a;done)
  grind
 |int k=>intro b a;cases b<;>simp only[eF] at a<;>first|rfl|cases a
 |bool=>intro b a;cases b<;>simp only[eF] at a<;>first|rfl|cases a
 |str=>intro b a;cases b<;>simp only[eF] at a<;>first|rfl|cases a
 |nil=>intro b a;cases b<;>simp only[eF] at a<;>first|rfl|cases a
 |optr c _=>grind [eF]
 |eB=>grind [eF]
 |mp c d=>
  intro b a;cases b<;>simp only[eF] at a<;>try (cases a;done)
  grind
 |e1 f c d=>
  intro b a;cases b<;>simp only[eF] at a<;>try (cases a;done)
  grind
 |fn l c d=>
  intro b a;cases b<;>simp only[eF] at a<;>try (cases a;done)
  grind
theorem eF.size:∀{c b:ai},eF c b=bp->c.size=b.size:=by
 intro c
 induction c with
 |st i d=>intro b a;cases b<;>simp only[eF] at a<;>first|(simp only[ai.size];exact d a)|cases a
 |pr e f g h=>
  intro b a;cases b<;>simp only[eF] at a<;>try (cases a;done)
  simp only[cE] at a;grind [ai.size]
 |_=>intro b a;cases b<;>simp only[eF] at a<;>first|rfl|cases a
theorem OO (k:N=S) {d:bw (bn (Z×N)×X)} {g:bw (bn (Z×S)×X)} (l:HEq d g):(d=bq/\g=bq)\/∃i a j,d=Y (i,a)/\g=Y (j,a)/\∀e:bn (Z×X×N),kH e i a->∃f:bn (Z×X×S),kH f j a/\f.length=e.length/\∀(h:X) (c:Z×X×S),f[h]?=Y c->∃b:Z×X×N,e[h]?=Y b/\b.1=c.1/\b.2.1=c.2.1/\HEq b.2.2 c.2.2:=by
 subst k;cases l;cases d with
 |none=>grind
 |some m=>grind
theorem eF.cV {a b:ai} (d:eF a b=bp) (c:ajT):cV b c=jt.cV a c:=by cases a<;>cases b<;>simp only[eF] at d<;>first|rfl|cases d
theorem ON (f:S=N) {a:bn S} {b:bn N} (g:HEq a b):b.length=a.length/\∀(e:X) (d:N),b[e]?=Y d->∃c,a[e]?=Y c/\HEq c d:=by subst f;grind
theorem XH (e:N=S) {a:bw N} {c:bw S} (f:HEq a c):(a=bq/\c=bq)\/∃b d,a=Y b/\c=Y d/\HEq b d:=by
 subst e;cases f;cases a with
 |none=>grind
 |some b=>grind
theorem XI {c d:Type} (e:N=c) (f:S=d) {a:N×S} {b:c×d} (g:HEq a b):HEq a.1 b.1/\HEq a.2 b.2:=by grind
theorem aT.c7 {E D:X->Prop} (N:∀d,D d->j d):∀{r υ:ai} {e:ajT} {x:r.den} {y:υ.den} {g:ajZ},eF r υ=bp->HEq x y->aT (bb E D) f r e x g->(∀d∈g,j d)->aT (bb E j) f υ e y []:=by
 intro r
 induction r with
 |int co=>
  intro υ e x y g a c b _;cases υ<;>simp only[eF] at a<;>try (cases a;done)
  split at a
  ·rename_i K;subst K;cases c;exact⟨bo,b.2⟩
  grind
 |bool=>intro υ e x y g a c b _;cases υ<;>simp only[eF] at a<;>first|(cases a;done)|(cases c;exact⟨bo,b.2⟩)
 |str=>intro υ e x y g a c b _;cases υ<;>simp only[eF] at a<;>first|(cases a;done)|(cases c;exact⟨bo,b.2⟩)
 |nil=>intro υ e x y g a c b _;cases υ<;>simp only[eF] at a<;>first|(cases a;done)|(cases c;exact⟨bo,b.2⟩)
 |optr l _=>grind [eF]
 |eB=>grind [eF]
 |mp l k=>
  intro υ e x y g a c b h;cases υ<;>simp only[eF] at a<;>try (cases a;done)
  simp only[cE] at a;obtain rfl:=yb.ok a.1;rcases OO (eF.den a.2) c with⟨rfl,rfl⟩|⟨R,G,S,rfl,rfl,i⟩
  ·exact⟨bo,b.2⟩
  obtain⟨d,v,s,ay,n,z,q,C,U⟩:=b;obtain⟨t,A,p,i⟩:=i s z;refine⟨d,v,t,ay,bo,A,.inr (h d (by grind)),q,aa,λm T P=>?_⟩;grind [eF.size,eF.cV]
 |e1 B l k=>
  intro υ e x y g a c b h;cases υ<;>simp only[eF] at a<;>try (cases a;done)
  simp only[cE] at a;rcases OO (eF.den a.2) c with⟨rfl,rfl⟩|⟨R,G,S,rfl,rfl,i⟩
  ·exact⟨bo,b.2⟩
  obtain⟨d,v,s,ay,n,z,O,q,C,U⟩:=b;obtain⟨t,A,p,i⟩:=i s z;refine⟨d,v,t,ay,bo,A,tq.ok N a.1 O,q,aa,λm T P=>?_⟩;grind [eF.size,eF.cV]
 |fn cs l k=>
  intro υ e x y g a c b h;cases υ<;>simp only[eF] at a<;>try (cases a;done)
  rename_i B o;simp only[cE] at a;obtain rfl:=ff a.1;obtain⟨_,V,ay,n⟩:=b;exact⟨bo,V,ay,k (υ:=o) (x:=x) (y:=y) a.2 c n ac⟩
 |st l k=>
  intro υ e x y g a c b h;cases υ with
  |st o=>exact k (υ:=o) (x:=x) (y:=y) (by grind [eF]) c b h
  |_=>simp only[eF] at a;cases a
 |pr J d ce ci=>
  intro υ e x y g a c b h;cases υ<;>simp only[eF] at a<;>try (cases a;done)
  rename_i G an;simp only[cE] at a;obtain⟨a4,f2,rfl,w,M⟩:=b;obtain⟨ao,a3⟩:=XI (eF.den a.1) (eF.den a.2) c;have bx:=eF.size a.1;exact⟨[],[],bo,by grind,by grind⟩
 |a6 B l k=>
  intro υ e x y g a c b h;obtain⟨rfl,F,u,rfl,ay,n,q⟩:=b;cases υ<;>simp only[eF] at a<;>try (cases a;done)
  rename_i H o;simp only[cE] at a;obtain⟨p,i⟩:=ON (eF.den a.2) c;refine⟨bo,F,u,by rw[p],aa,n,?_⟩;grind [tq.ok,eF.size,List.eq_nil_of_length_eq_zero]
 |osl l k=>
  intro υ e x y g a c b h;cases υ<;>simp only[eF] at a<;>try (cases a;done)
  rename_i H o;simp only[cE] at a;obtain rfl:=yb.ok a.1;obtain⟨F,u,rfl,b⟩:=b;obtain⟨p,i⟩:=ON (eF.den a.2) c;rcases b with⟨rfl,rfl,rfl,rfl⟩|⟨d,I,L,rfl,rfl,ay,n,q,C⟩
  ·obtain rfl:y=[]:=r7 aa;exact⟨bo,bq,0,bo,bd _,λ_=>rfl,.inl bo⟩
  refine⟨bo,Y ⟨d,I,bq⟩,u,by rw[p],aa,(λa=>by cases a),.inr ⟨d,I,bo,.inr (h d ac),λm ad Q=>?_⟩⟩;obtain⟨am,w,M⟩:=i m ad Q;have bs:m<x.length:=(hN.1 w).1;obtain⟨a1,ap,av,a0⟩:=C m am (L[m]'(by omega)) w ac
  grind [amf,alk,b5,eF.size]
 |ptr B l k=>
  intro υ e x y g a c b h;obtain⟨rfl,b⟩:=b;cases υ<;>simp only[eF] at a<;>try (cases a;done)
  rename_i H o;simp only[cE] at a;refine⟨bo,?_⟩;rcases XH (eF.den a.2) c with⟨rfl,rfl⟩|⟨J,d,rfl,rfl,bl⟩
  ·exact b
  grind [tq.ok,eF.size]
inductive n8:(τ:ai)->τ.den->(υ:ai)->υ.den->Prop
 |same {τ υ:ai} {x:τ.den} {y:υ.den} (h:eF τ υ=bp) (XG:HEq x y):n8 τ x υ y
 |ptr {t u:ai} {x:t.den} {y:u.den} (h:eF t u=bp) (XG:HEq x y):n8 (.optr t) x (.ptr .c7 u) (Y y)
theorem n8.rep {h B:X->Prop} (i:∀a,B a->j a) {m:d.den} {n:r.den} (b:n8 d m r n) (l:aT (bb h B) f d g m k) (e:∀a∈k,j a):aT (bb h j) f r g n []:=by
 cases b with
 |same b c=>exact l.c7 i b c e
 |ptr b c=>
  obtain⟨a,q,u,p,rfl,rfl,ay,s,w,t⟩:=l;exact⟨bo,a,q,p,bo,.inr (e a ac),by grind [eF.size],s,t.c7 i b c (λo v=>e o (by grind))⟩
def n8.st {c:d.den} {e:r.den} (a:n8 d c r e) (b:ajT):cV d b=cV r b:=by
 cases a with
 |same a _=>cases d<;>cases r<;>first|rfl|(simp only[eF] at a;cases a;done)
 |ptr a _=>rfl
section
def mx {c d e:Type} (b:c->d->e->Prop):bn c->bn d->bn e->Prop
 |[],[],[]=>True
 |a::as,f::g,h::i=>b a f h/\mx b as g i
 |_,_,_=>b7
def iq {c d:Type} (b:c->d->Prop):bn c->bn d->Prop
 |[],[]=>True
 |a::as,e::f=>b a e/\iq b as f
 |_,_=>b7
theorem Me {d e:Type} {f:d->e->Prop}:∀{as:bn d} {c:bn e},iq f as c->c.length=as.length
 |[],[],_=>rfl
 |[],_::_,b=>b.elim
 |_::_,[],b=>b.elim
 |a::as,g::c,b=>by have:=Me b.2;grind
def G4 {e f:Type} {c:e->f->Prop}:∀{as:bn e} {d:bn f} {g:bn e} {h:bn f},iq c as d->iq c g h->iq c (as++g) (d++h)
 |[],[],_,_,_,b=>b
 |[],_::_,_,_,b,_=>b.elim
 |_::_,[],_,_,b,_=>b.elim
 |a::as,j::d,_,_,b,i=>⟨b.1,G4 b.2 i⟩
theorem zv {h i:Type} {f:h->i->Prop}:∀{as:bn h} {c:bn i},as.length=c.length->(∀(e:X) a b,as[e]?=Y a->c[e]?=Y b->f a b)->iq f as c
 |[],[],_,_=>trivial
 |[],_::_,d,_=>by cases d
 |_::_,[],d,_=>by cases d
 |a::as,b::c,d,g=>⟨g 0 a b bo rfl,zv (by grind) (λe j k l m=>g (e+1) j k (by grind) (by grind))⟩
def G5 {b g h:Type} {c:g->h->Prop} {d:b->g} {e:b->h} (f:∀x,c (d x) (e x)):∀a:bn b,iq c (a.map d) (a.map e)
 |[]=>trivial
 |x::a=>⟨f x,G5 f a⟩
inductive hE where
 |v (t:aK)
 |m (t:aK) (y:t.1.den)
 |o (t:aK)
 |c (f:X) (agL:bn aK)
 |n
 |s (f:X) (l:ajZ)
 |w (σ:ai) (xs:bn σ.den) (lo hi:X) (ys:bn σ.den)
def y5 (I c:X->Prop) (w:bD) (a:aK) (d:Value):Prop:=∃b,d=cV a.1 b/\aT (bb I c) w a.1 b a.2 []
def y3 (I f:X->Prop) (w:bD):hE->Value->ajZ->Prop
 |.v b,d,a=>a=[]/\∃e,d=cV b.1 e/\aT (bb I f) w b.1 e b.2 []
 |.m b _,d,a=>∃e,d=cV b.1 e/\aT (bb I f) w b.1 e b.2 a
 |.o b,d,a=>∃e,d=cV b.1 e/\aT (bb I f) w b.1 e b.2 a
 |.n,d,a=>a=[]/\d=.slice bq 0 0
 |.s _ _,_,a=>a=[]
 |.w q h g j _,d,a=>∃k l i,d=.slice (Y ⟨k,l+g*q.size,bq⟩) (j-g) (i-g)/\(g<j/\j<=h.length/\h.length<=i)/\aT (bb I f) w (.osl q) [.slice (Y ⟨k,l,bq⟩) h.length i] h a
 |.c r t,d,a=>a=[]/\∃p:ajT,d=.func (.func r) #[] p.toArray/\iq (y5 I f w) t p
def pn:X->bn hE->bw ee
 |_,[]=>bq
 |k,.s a b::_=>Y (k,a,b)
 |k,_::c=>pn (k+1) c
def L2 (w:bD) (b:ajT) (i:ez):bw ee->Prop
 |none=>True
 |some (d,h,e)=>d<b.length/\(∀c∈e,c<b.length)/\∃a f g,b.getD d bW=.pointer (Y ⟨a,f,bq⟩)/\a<w.heap.size/\a∉i.flatten/\w.cell? ⟨a,f,bq⟩=Y (.func (.func h) #[] g)/\g.toList=e.map λc=>b.getD c bW
def y4 (I e:X->Prop) (w:bD):hE->Value->ajZ->Prop
 |.m i n,d,a=>∃g,d=cV i.1 g/\aT (bb I e) w i.1 g n a
 |.w j l b k o,d,a=>∃f h c,d=.slice (Y ⟨f,h+b*j.size,bq⟩) (k-b) (c-b)/\b<c/\aT (bb I e) w (.osl j) [.slice (Y ⟨f,h,bq⟩) l.length c] o a
 |_,_,a=>a=[]
def Cu (I:X->Prop) (w:bD) (a:aK) (d:Value) (c:ajZ):Prop:=∃b,d=cV a.1 b/\aT (bb I (λ_=>b7)) w a.1 b a.2 c
def qg:ajT->Value
 |[v]=>v
 |vs=>.tuple vs.toArray
structure L1 (I B:X->Prop) (w:bD) (fs:ez) (args:bn hE) (vs:ajT) (res:bn aK) (I':X->Prop) (gs hs:ez) (cJ:ajT) (w':bD):Prop where
 args:mx (y4 I' B w') args vs gs
 res:mx (Cu I' w') res cJ hs
 nd:(gs.flatten++hs.flatten).Nodup
 MJ:∀b∈gs.flatten++hs.flatten,¬I' b/\¬B b/\b<w'.heap.size/\(w.heap.size<=b\/b∈fs.flatten)
 i:∀b,I b->I' b
 i2:∀b,I' b->I b\/(b<w'.heap.size/\(w.heap.size<=b\/b∈fs.flatten))
 size:w.heap.size<=w'.heap.size
 os:w'.os=w.os
 tape:w'.tape=w.tape
 output:w'.output=w.output
 evo:∀b,b<w.heap.size->k5 w w' b
 heap:∀b,b<w.heap.size->b∉fs.flatten->w'.heap[b]?=w.heap[b]?
def lA (E:fk) (I:X->Prop) (w:bD):Prop:=∀a∈E.glob,aT (bb I λ_=>b7) w (.a6 .be (.int a.k)) [.slice (Y ⟨a.b,0,bq⟩) a.xs.length a.xs.length] a.xs []
theorem lA.mono {E:fk} {I I':X->Prop} {w w':bD} (g:lA E I w) (c:∀a,I a->I' a) (i:∀a,I a->w'.heap[a]?=w.heap[a]?):lA E I' w':=λf h=>
 (g f h).mono (λe a d=>by
  have b:I a:=(by cases e;exact d;exact d.elim id False.elim);exact⟨by cases e;exact c a b;exact .inl (c a b),c6.of_heap (i a b)⟩) (λa b=>by cases b)
def rX (E:fk) (g:FuncId) (e:bn hE) (j:bn aK):Prop:=
 ∀(w:bD) (I c:X->Prop) (d:ajT) (b:ez),(∀a,I a\/c a->a<w.heap.size)->mx (y3 I c w) e d b->b.flatten.Nodup->(∀a∈b.flatten,¬I a/\¬c a/\a<w.heap.size)->L2 w d b (pn 0 e)->lA E I w->Calls E.P g d.toArray w (λf w'=>∃I' h i cJ,f=.returned (qg cJ)/\L1 I c w b e d j I' h i cJ w')
def ai.fP:ai->bA
 |.a6 .c7 _|.ptr .c7 _|.e1 .c7 _=>br
 |.a6 .be a|.ptr .be a|.osl a|.optr a|.st a|.mp a|.e1 .be a|.fn _ a=>a.fP
 |.pr b c=>b.fP&&c.fP
 |_=>bp
def rT:ai->bA
 |.pr _ _|.nil|.eB=>br
 |_=>bp
def adV (b:rT d=bp) (c:g.length=d.size) (e:y.length=d.size) (a:cV d g=cV d y):g=y:=by
 have i:d.size=1->cV d g=g.headD bW->cV d y=y.headD bW->g=y:=(by intro h ao f;rw[h] at c e;obtain⟨k,rfl⟩:=sc.1 c;obtain⟨l,rfl⟩:=sc.1 e;rw[ao,f] at a;simpa using a);cases d with
 |st j=>have a:aop g.toArray=aop y.toArray:=a;simpa using a
 |pr=>cases b
 |nil=>cases b
 |eB=>cases b
 |_=>exact i bo rfl rfl
def y2 (g:bn (X×aK)) (f:ajZ):al->aK->Prop
 |.val b i,a=>n8 b i a.1 a.2
 |.dd d,a=>iM a.1 d.cells.toList=Y a.2/\cV a.1 d.cells.toList=d
 |.ref id h,a=>eQ id f=br/\∃c b e,aq g id=Y c/\eK c.1 c.2 h b e/\n8 b e a.1 a.2
 |_,_=>b7
mutual
inductive oW (h:bn (X×aK)) (S:ajZ):al->(τ:ai)->τ.den->Prop
 |base {a:al} {τ:ai} {x:τ.den} (IR:y2 h S a ⟨τ,x⟩):oW h S a τ x
 |hz {a:al} {τ:ai} {x:τ.den} (hv:oT τ=bp) (IR:oW h S a τ x):oW h S (.hz a) (.ptr .be τ) (Y x)
 |da {n:X} {l:bn al} {τ:ai} {x:τ.den} (EX:wA h S l τ x):oW h S (.da n l) (.fn n τ) x
inductive wA (h:bn (X×aK)) (S:ajZ):bn al->(τ:ai)->τ.den->Prop
 |nil:wA h S [] .nil ()
 |cons {a:al} {l:bn al} {τ υ:ai} {x:τ.den} {y:υ.den} (hv:oT τ=bp) (IR:oW h S a τ x) (EX:wA h S l υ y):wA h S (a::l) (.pr τ υ) (x,y)
end
def Tu (b:bn (X×aK)) (f:ajZ):al->hE->Prop
 |av,.v a=>y2 b f av a
 |.ref id [],.m a _=>aq b id=Y a/\a.1.fP=bp/\rT a.1=bp
 |.ref id [],.o a=>aq b id=Y a
 |.da p d,.c l q=>p=l/\iq (λj a=>oW b f j a.1 a.2) d q
 |.dd e,.o a=>e=.slice bq 0 0/\∃t,a=⟨.osl t,[]⟩
 |.dd e,.n=>e=.slice bq 0 0
 |.view id [] h g,.w i r d k _=>aq b id=Y ⟨.osl i,r⟩/\(d=h/\k=g)/\h<g/\i.fP=bp
 |_,.s _ _=>True
 |_,_=>b7
def oV (c:bn (X×aK)) (b:ajZ):bn al->bn hE->Prop
 |[],[]=>True
 |a::as,d::e=>Tu c b a d/\oV c b as e
 |_,_=>b7
def gm:bn al->bn hE->ajZ
 |.ref id []::as,.m _ _::a=>id::gm as a
 |.ref id []::as,.o _::a=>id::gm as a
 |.view id [] _ _::as,.w _ _ _ _ _::a=>id::gm as a
 |_::as,_::a=>gm as a
 |_,_=>[]
def mG:bn al->bn hE->ajZ
 |.ref id []::as,.m _ _::a=>id::mG as a
 |.view id [] _ _::as,.w _ _ _ _ _::a=>id::mG as a
 |_::as,_::a=>mG as a
 |_,_=>[]
def kj:bn al->bn hE->bn (X×aK)
 |.ref id []::as,.m b c::a=>(id,⟨b.1,c⟩)::kj as a
 |.view id [] _ _::as,.w e _ _ _ d::a=>(id,⟨.osl e,d⟩)::kj as a
 |_::as,_::a=>kj as a
 |_,_=>[]
def rH (a:X) (c:bA) (b:X):X:=bif c then a else 1000*(a+1)+b
def v9 (b:X) (c:bA):X->bn aK->bn al
 |_,[]=>[]
 |j,a::d=>(bif a.1.pure then .val a.1 a.2 else .ref (rH b c j) [])::v9 b c (j+1) d
def jb (a:X) (b:bA):X->bn aK->bn (X×aK)
 |_,[]=>[]
 |j,d::c=>bif d.1.pure then jb a b (j+1) c else(rH a b j,d)::jb a b (j+1) c
def v8 (a:X):bn aK->al
 |[t]=>bif t.1.pure then .val t.1 t.2 else .ref a []
 |l=>.e6 (v9 a br 0 l)
def i5:bn aK->bA
 |[_]=>bp
 |_=>br
def jA:ajZ->bA
 |[]=>bp
 |a::b=>!(eQ a b)&&jA b
theorem jA.ok:∀{c:ajZ},jA c=bp->c.Nodup
 |[],_=>List.nodup_nil
 |a::e,b=>by simp only[jA,cE,tX] at b;exact kp.2 ⟨(λd=>by rw[g8.2 d] at b;cases b.1),jA.ok b.2⟩
def Vu (c:X) (st:aO) (b:bn al) (a:bn hE) (d:bn aK):aO:=
 ⟨(c,v8 c d)::kill (gm b a) (ye (mG b a)) st.g,(kj b a++jb c (i5 d) 0 d)++del (gm b a) st.h⟩
theorem aT.fP {I G B':X->Prop} {w:bD}:∀{τ:ai} {f:ajT} {b:τ.den} {g:ajZ},τ.fP=bp->aT (bb I G) w τ f b g->aT (bb I B') w τ f b g:=by
 intro τ
 induction τ with
 |a6 o m h=>
  intro f b g c a;cases o
  ·obtain⟨j,r,s,ay,d,k,l⟩:=a;refine⟨j,r,s,ay,d,k,l.imp id ?_⟩;rintro⟨e,i,N,v,P⟩;refine⟨e,i,N,v,λp D F=>?_⟩;obtain⟨n,H,J,K⟩:=P p D F;exact⟨n,H,J,h (by simpa only[ai.fP] using c) K⟩
  grind [ai.fP]
 |ptr o m h=>
  intro f b g c a;cases o
  ·obtain⟨j,ay⟩:=a;refine⟨j,?_⟩;cases b with
   |none=>exact ay
   |some D=>
    obtain⟨e,i,n,z,A,B,aL,C⟩:=ay;exact⟨e,i,n,z,A,B,aL,h (by grind [ai.fP]) C⟩
  grind [ai.fP]
 |osl m h=>
  intro f b g c a;obtain⟨r,s,ay,d⟩:=a;refine⟨r,s,ay,d.imp id ?_⟩;rintro⟨e,i,M,z,A,B,aL,C,am⟩;refine⟨e,i,M,z,A,B,aL,C,λp D E F V=>?_⟩;grind [ai.fP]
 |optr m h=>
  intro f b g c a;obtain⟨e,i,E,n,ay,d,k,l,y,S⟩:=a;exact⟨e,i,E,n,ay,d,k,l,y,h (by grind [ai.fP]) S⟩
 |st m h=>intro f b g c a;exact h (by grind [ai.fP]) a
 |mp m h=>
  intro f b g c a;cases b with
  |none=>exact a
  |some x=>
   obtain⟨e,t,q,ay,d,u,k,l,y⟩:=a;refine⟨e,t,q,ay,d,u,k,l,λp x O=>?_⟩;grind [ai.fP]
 |e1 o m h=>
  intro f b g c a;cases o
  ·cases b with
   |none=>exact a
   |some x=>
    obtain⟨e,t,q,ay,d,u,v,k,l,y⟩:=a;refine⟨e,t,q,ay,d,u,v,k,l,λp x O=>?_⟩;grind [ai.fP]
  grind [ai.fP]
 |fn ad m h=>
  intro f b g c a;obtain⟨j,T,ay,d⟩:=a;exact⟨j,T,ay,h (by simpa only[ai.fP] using c) d⟩
 |pr U e Q R=>
  intro f b g c a;simp only[ai.fP,cE] at c;obtain⟨L,f2,j,ay,d⟩:=a;exact⟨L,f2,j,Q c.1 ay,R c.2 d⟩
 |_=>intro f b g c a;exact a
theorem Pt {e f:Type} (c:e->f):∀(b:bn (X×e)) (a:X),aq (b.map λd=>(d.1,c d.2)) a=(aq b a).map c
 |[],_=>rfl
 |(g,v)::b,a=>by rw[hX,de,de,Pt c b a];grind
abbrev Cs:=aK×ajT×ajZ
def g0 (rt:X->ajT):bn al->bn hE->ez->bn (X×Cs)
 |.ref id []::as,.m d e::a,c::b=>(id,(⟨d.1,e⟩,rt id,c))::g0 rt as a b
 |.view id [] _ _::as,.w g _ _ _ f::a,c::b=>(id,(⟨.osl g,f⟩,rt id,c))::g0 rt as a b
 |_::as,_::a,_::b=>g0 rt as a b
 |_,_,_=>[]
def ls (a:X) (b:bA):X->bn aK->eu->ez->bn (X×Cs)
 |j,f::e,g::c,h::d=>bif f.1.pure then ls a b (j+1) e c d else(rH a b j,(f,g,h))::ls a b (j+1) e c d
 |_,_,_,_=>[]
theorem Rd {rt:X->ajT}:∀{as:bn al} {bs:bn hE} {gs:ez},gs.length=bs.length->(g0 rt as bs gs).map (λf=>(f.1,f.2.1))=kj as bs
 |[],bs,gs,_=>by cases bs<;>cases gs<;>rfl
 |a::as,[],gs,e=>by cases gs with
  |nil=>cases a<;>first|rfl|(rename_i id b;cases b<;>rfl)|(rename_i id b h g;cases b<;>rfl)
  |cons=>cases e
 |a::as,c::bs,[],e=>by cases e
 |a::as,c::bs,i::gs,e=>by
  have d:=Rd (rt:=rt) (as:=as) (bs:=bs) (gs:=gs) (by grind);cases a with
  |ref id b=>cases b with
   |nil=>cases c<;>simp only[g0,kj,hX,d]
   |cons=>cases c<;>simp only[g0,kj,d]
  |view id b h g=>cases b with
   |nil=>cases c<;>simp only[g0,kj,hX,d]
   |cons=>cases c<;>simp only[g0,kj,d]
  |_=>cases c<;>simp only[g0,kj,d]
theorem F5 {d:X} {s:bA}:∀{j:X} {res:bn aK} {cs:eu} {hs:ez},cs.length=res.length->hs.length=res.length->(ls d s j res cs hs).map (λe=>(e.1,e.2.1))=jb d s j res
 |j,[],cs,hs,a,b=>by cases cs<;>cases hs<;>simp[ls,jb]
 |j,f::c,[],hs,a,b=>by cases a
 |j,f::c,g::cs,[],a,b=>by cases b
 |j,f::c,g::cs,h::hs,a,b=>by have i:=F5 (d:=d) (s:=s) (j:=j+1) (res:=c) (cs:=cs) (hs:=hs) (by grind) (by grind);simp only[ls,jb];grind
section
variable {C:eW} {st:aO} {A:ajR} {w w':bD} {I I' B':X->Prop} {rt:X->ajT} {fp:X->ajZ}
theorem Re (D:cM C st A w I rt fp) {S:ajZ}:∀{avs:bn al} {t:ajT} {args:bn hE} {gs:ez},iq (cQ (bb I C.B) w st.h rt fp) avs t->oV st.h S avs args->mx (y4 I' B' w') args t gs->∀a∈g0 rt avs args gs,aT (bb I' C.B) w' a.2.1.1 a.2.2.1 a.2.1.2 a.2.2.2/\a.2.2.1=rt a.1/\a.1∈gm avs args/\∃g,aq st.h a.1=Y g/\a.2.1.1=g.1
 |[],t,args,gs,l,p,q,a,b=>by cases args<;>cases gs<;>cases b
 |x::i,t,[],gs,l,p,q,a,b=>by cases x<;>exact p.elim
 |x::i,[],d::u,gs,l,p,q,a,b=>l.elim
 |x::i,v::t,d::u,[],l,p,q,a,b=>q.elim
 |av::i,v::t,d::u,ad::gs,l,p,q,a,b=>by
  obtain⟨M,am⟩:=l;obtain⟨J,an⟩:=p;obtain⟨K,ap⟩:=q;have a0:=Re D (S:=S) (avs:=i) (args:=u) (gs:=gs) am an ap;have e:a∈g0 rt i u gs->aT (bb I' C.B) w' a.2.1.1 a.2.2.1 a.2.1.2 a.2.2.2/\a.2.2.1=rt a.1/\a.1∈gm (av::i) (d::u)/\∃g,aq st.h a.1=Y g/\a.2.1.1=g.1:=by
   intro b;obtain⟨ay,P,r,G⟩:=a0 a b;refine⟨ay,P,?_,G⟩;cases av with
   |ref id f=>cases f<;>cases d<;>simp only[gm]<;>first|exact g3 _ r|exact r
   |view id f O L=>cases f<;>cases d<;>simp only[gm]<;>first|exact g3 _ r|exact r
   |_=>cases d<;>exact r
  cases av with
  |ref id f=>
   cases f with
   |cons s f=>exact e (by cases d<;>exact b)
   |nil=>
    cases d with
    |v g=>exact e b
    |o g=>exact e b
    |c n ds=>exact e b
    |n=>exact e b
    |s co a1=>exact e b
    |w bl i O L Q=>exact e b
    |m g d0=>
     simp only[g0,fG] at b;rcases b with rfl|b
     ·obtain⟨j,N,F⟩:=J;obtain⟨ce,k,z⟩:=K;cases M with|ref y E=>
      rw[j] at y;cases y;obtain⟨rfl,rfl,rfl⟩:=aX.gq.1 E;have:=adV F (D.tree id _ j).1.len z.len k;subst this;exact⟨z.fP N,bo,by simp[gm],g,j,bo⟩
     grind
  |view id f O L=>
   cases f with
   |cons s f=>exact e (by cases d<;>exact b)
   |nil=>
    cases d with
    |w bl i a1 k Q=>
     simp only[g0,fG] at b;rcases b with rfl|b
     ·obtain⟨j,⟨rfl,rfl⟩,N,F⟩:=J;obtain⟨d,o,T,k,cs,z⟩:=K;cases M with
      |mg=>omega
      |view y E ay P r=>
      rename_i dl d1 cv R a4 a3 U;rw[j] at y;cases y;obtain⟨ao,ci,V⟩:=aX.gq.1 E;simp only[ai.osl.injEq] at ao;subst ao;obtain⟨bs,bx,G,_⟩:=(D.tree id _ j).1;have H:rt id=[.slice (Y ⟨R,a4,bq⟩) a3 U]:=V;rw[G] at H;simp only[hM,aj3,ca] at H;rw[aw aa] at k;simp only[aj3,eT,akk,ca] at k;obtain⟨⟨c1,c2⟩,dg,aL⟩:=k;have:rt id=[.slice (Y ⟨d,o,bq⟩) i.length T]:=(by grind);refine⟨?_,bo,by simp[gm],_,j,bo⟩;show aT (bb I' C.B) w' (.osl _) (rt id) Q ad;rw[this];exact z.fP F
     grind
    |_=>exact e b
  |_=>exact e (by cases d<;>exact b)
theorem Rc {x:ajZ}:∀{as:bn al} {r:bn hE} {g:ajT} {e:ez},oV st.h x as r->mx (y4 I' B' w') r g e->((g0 rt as r e).map (λz=>z.2.2.2)).flatten=e.flatten
 |[],[],g,e,f,d=>by cases g<;>cases e<;>first|rfl|exact d.elim
 |[],q::t,g,e,f,d=>f.elim
 |a::as,[],g,e,f,d=>by cases a<;>exact f.elim
 |a::as,q::t,[],e,f,d=>d.elim
 |a::as,q::t,v::g,[],f,d=>d.elim
 |a::as,q::t,v::g,k::e,f,d=>by
  have y:=Rc (as:=as) f.2 d.2;have l:=f.1;have p:=d.1;rw[lV,<-y];cases q with
  |m u F=>
   cases a with
   |ref id b=>cases b with
    |nil=>grind [ak9,g0]
    |cons=>exact l.elim
   |_=>exact l.elim
  |w H E C B G=>
   cases a with
   |view id b i j=>cases b with
    |nil=>grind [ak9,g0]
    |cons=>exact l.elim
   |ref id b=>cases b<;>exact l.elim
   |_=>exact l.elim
  |v u=>
   have:k=[]:=p;subst this;cases a with
   |ref id b=>grind [g0]
   |view id b i j=>grind [g0]
   |_=>simp only[g0,jh]
  |o u=>
   have:k=[]:=p;subst this;cases a with
   |ref id b=>grind [g0]
   |view id b i j=>grind [g0]
   |_=>simp only[g0,jh]
  |n=>
   have:k=[]:=p;subst this;cases a with
   |ref id b=>grind [g0]
   |view id b i j=>grind [g0]
   |_=>simp only[g0,jh]
  |s A i=>
   have:k=[]:=p;subst this;cases a with
   |ref id b=>grind [g0]
   |view id b i j=>grind [g0]
   |_=>simp only[g0,jh]
  |c n D=>
   have:k=[]:=p;subst this;cases a with
   |ref id b=>grind [g0]
   |view id b i j=>grind [g0]
   |_=>simp only[g0,jh]
theorem RQ {I:X->Prop}:∀{e:bn aK} {cJ:ajT} {b:ez},mx (Cu I w) e cJ b->∃g:eu,g.length=e.length/\b.length=e.length/\cJ.length=e.length/\∀(d:X) (t:aK) (c:ajT) (a:ajZ) (f:Value),e[d]?=Y t->g[d]?=Y c->b[d]?=Y a->cJ[d]?=Y f->f=cV t.1 c/\aT (bb I (λ_=>b7)) w t.1 c t.2 a
 |[],cJ,b,a=>by cases cJ<;>cases b<;>first|exact⟨[],bo,bo,bo,λd t c a f q=>by grind⟩|exact a.elim
 |t::h,[],b,a=>a.elim
 |t::h,f::cJ,[],a=>a.elim
 |t::h,f::cJ,o::b,a=>by obtain⟨⟨c,k,s⟩,i⟩:=a;obtain⟨g,u,v,x,r⟩:=RQ i;refine⟨c::g,by grind,by grind,by grind,λd y j p z ao l m n=>?_⟩;grind
theorem RS {m:X} {n:bA}:∀{j:X} {i:bn aK} {c:eu} {d:ez},c.length=i.length->d.length=i.length->∀a∈ls m n j i c d,∃e:X,i[e]?=Y a.2.1/\c[e]?=Y a.2.2.1/\d[e]?=Y a.2.2.2
 |j,[],c,d,f,g,a,b=>by cases c<;>cases d<;>simp[ls] at b
 |j,k::h,[],d,f,g,a,b=>by cases f
 |j,k::h,l::c,[],f,g,a,b=>by cases g
 |j,k::h,l::c,q::d,f,g,a,b=>by
  simp only[ls] at b;have s:a∈ls m n (j+1) h c d->∃e,(k::h)[e]?=Y a.2.1/\(l::c)[e]?=Y a.2.2.1/\(q::d)[e]?=Y a.2.2.2:=λb=>(by obtain⟨e,ao,o,p⟩:=RS (by grind) (by grind) a b;exact⟨e+1,by rw[wK];exact ao,by rw[wK];exact o,by rw[wK];exact p⟩);cases r:k.1.pure
  ·rw[r] at b;simp only[bR,fG] at b;rcases b with rfl|b
   ·exact⟨0,bo,bo,bo⟩
   grind
  grind
theorem RR {d:X} {s:bA}:∀{j:X} {res:bn aK} {cs:eu} {hs:ez},((ls d s j res cs hs).map (λe=>e.2.2.2)).flatten.Sublist hs.flatten
 |j,[],cs,hs=>by simp[ls]
 |j,b::a,[],hs=>by simp[ls]
 |j,b::a,c::cs,[]=>by simp[ls]
 |j,b::a,c::cs,f::hs=>by have g:=RR (d:=d) (s:=s) (j:=j+1) (res:=a) (cs:=cs) (hs:=hs);simp only[ls];grind
theorem Mx (n:cM C st A w I rt fp) (f:∀a,C.B a->B' a) (m:∀id P,aq st.h id=Y P->eQ id k=br->∀a∈fp id,B' a) (c:cQ (bb I C.B) w st.h rt fp V R) (b:y2 st.h k V P):∃e,R=cV P.1 e/\aT (bb I B') w P.1 e P.2 []:=by
 cases V with
 |val l j=>
  have b:n8 l j P.1 P.2:=b;cases c with|val u=>
  exact⟨_,b.st _,b.rep f u ac⟩
 |dd D=>
  obtain⟨ay,y⟩:=b;cases c;grind [pV]
 |ref id x=>
  obtain⟨o,z,l,j,d,t,i⟩:=b;cases c with|ref g r=>
  rw[d] at g;cases g;obtain⟨rfl,v,s,_,q⟩:=n.lj d t r;exact⟨_,i.st _,i.rep f s (λa p=>m id _ d o a (q a p))⟩
 |_=>exact b.elim
mutual
theorem Hp (j:cM C st A w I rt fp) {m:ajZ} (g:∀a,C.B a->B' a) (i:∀id J,aq st.h id=Y J->eQ id m=br->∀a∈fp id,B' a):∀{n:al} {d:ai} {u:d.den},oW st.h m n d u->∀{t:Value},cQ (bb I C.B) w st.h rt fp n t->∃e,t=cV d e/\aT (bb I B') w d e u []
 |_,_,_,.base k,_,b=>Mx j g i b k
 |_,_,_,.hz G k,_,b=>by
  cases b with|hz E F K f=>
  rename_i l a;obtain⟨e,ao,p⟩:=Hp j g i k f;obtain⟨o,y⟩:=o9.one G;have c:=p.len;rw[o] at c;obtain⟨x,rfl⟩:=sc.1 c;rw[y] at ao;have ao:l=x:=ao;subst ao;have D:fd w a 0 [l]:=λr M q=>by
   cases r with
   |zero=>cases q;exact F
   |succ r=>cases q
  exact⟨[.pointer (Y ⟨a,0,bq⟩)],bo,bo,a,0,[l],bo,E,o.symm,D,p⟩
 |_,_,_,.da c,_,b=>by
  cases b with|da z f=>
  rename_i s;exact⟨[.func (.func _) #[] s],bo,bo,s.toList,bo,MR j g i c (zv (by simpa using z) (λH v a ay L=>f H v a ay (by grind)))⟩
theorem MR (k:cM C st A w I rt fp) {f:ajZ} (i:∀b,C.B b->B' b) (j:∀id x,aq st.h id=Y x->eQ id f=br->∀b∈fp id,B' b):∀{m:bn al} {e:ai} {n:e.den},wA st.h f m e n->∀{a:ajT},iq (cQ (bb I C.B) w st.h rt fp) m a->aT (bb I B') w e a n []
 |_,_,_,.nil,a,c=>by
  cases a with
  |nil=>exact⟨bo,bo⟩
  |cons=>exact c.elim
 |_,_,_,.cons v t u,a,c=>by
  cases a with
  |nil=>exact c.elim
  |cons y a=>
   obtain⟨q,r⟩:=c;obtain⟨z,ao,g⟩:=Hp k i j t q;have s:=MR k i j u r;obtain⟨d,p⟩:=o9.one v;have l:=g.len;rw[d] at l;obtain⟨o,rfl⟩:=sc.1 l;rw[p] at ao;have ao:y=o:=ao;subst ao;exact⟨[],[],bo,by rw[d];exact g,by rw[d];exact s⟩
end
def MW (j:cM C st A w I rt fp) {d:ajZ} (g:∀b,C.B b->B' b) (i:∀id c,aq st.h id=Y c->eQ id d=br->∀b∈fp id,B' b):∀{e:bn al} {l:ajT} {k:bn aK},iq (cQ (bb I C.B) w st.h rt fp) e l->iq (λm c=>oW st.h d m c.1 c.2) e k->iq (y5 I B' w) k l
 |[],[],[],_,_=>trivial
 |[],_::_,_,a,_=>a.elim
 |_::_,[],_,a,_=>a.elim
 |[],_,_::_,_,a=>a.elim
 |_::_,_,[],_,a=>a.elim
 |_::_,_::_,_::_,a,f=>⟨Hp j g i f.1 a.1,MW j g i a.2 f.2⟩
theorem Mz (r:cM C st A w I rt fp) {S:ajZ} (E:∀d,C.B d->B' d) (H:∀id q,aq st.h id=Y q->eQ id S=br->∀d∈fp id,B' d):∀{F:bn al} {t:ajT} {args:bn hE},iq (cQ (bb I C.B) w st.h rt fp) F t->oV st.h S F args->∃e,mx (y3 I B' w) args t e/\e.flatten=((gm F args).map fp).flatten
 |[],t,args,i,g=>by cases args with
  |nil=>cases t with
   |nil=>exact⟨[],trivial,bo⟩
   |cons=>exact i.elim
  |cons=>exact g.elim
 |x::l,t,[],i,g=>by cases x<;>exact g.elim
 |x::l,[],d::u,i,g=>i.elim
 |av::l,v::t,d::u,i,g=>by
  obtain⟨p,i⟩:=i;obtain⟨a,ad⟩:=g;obtain⟨e,f,V⟩:=Mz r E H i ad;cases d with
  |v q=>
   have D:gm (av::l) (.v q::u)=gm l u:=by cases av<;>first|rfl|(rename_i id b;cases b<;>rfl)|(rename_i id b z D;cases b<;>rfl)
   have a:y2 st.h S av q:=(by cases av<;>exact a);exact⟨[]::e,⟨⟨bo,Mx r E H p a⟩,f⟩,by grind⟩
  |s U z=>
   have D:gm (av::l) (.s U z::u)=gm l u:=by cases av<;>first|rfl|(rename_i id b;cases b<;>rfl)|(rename_i id b z D;cases b<;>rfl)
   exact⟨[]::e,⟨bo,f⟩,by grind⟩
  |n=>
   cases av with
   |dd Q=>
    obtain rfl:Q=.slice none 0 0:=a;cases p;exact⟨[]::e,⟨⟨bo,bo⟩,f⟩,by grind [gm]⟩
   |ref id b=>cases b<;>exact a.elim
   |_=>exact a.elim
  |c n d0=>
   cases av with
   |da m z=>
    obtain⟨rfl,a⟩:=a;cases p with|da co am=>
    rename_i a3;refine⟨[]::e,⟨⟨bo,a3.toList,bo,MW r E H (zv aa (λap R d f V=>am ap R d f (by grind))) a⟩,f⟩,by grind [gm]⟩
   |ref id b=>cases b<;>exact a.elim
   |_=>exact a.elim
  |w a4 l cv ci d2=>
   cases av with
   |view id b z D=>cases b with
    |nil=>
     obtain⟨k,⟨rfl,rfl⟩,J,a0⟩:=a;cases p with
     |mg=>omega
     |view j y ay c2 dg=>
     rename_i ds d3 c1 K P O L;rw[k] at j;cases j;obtain⟨ao,ce,T⟩:=aX.gq.1 y;simp only[ai.osl.injEq] at ao;subst ao;have N:=(r.tree id _ k).1;have G:rt id=[.slice (Y ⟨K,P,bq⟩) O L]:=T;have an:=N;obtain⟨bs,bx,a1,dl⟩:=an;rw[a1] at G;simp only[hM,aj3,ca] at G;have cs:l.length=O:=G.2.1;refine⟨fp id::e,⟨⟨K,P,L,?_,⟨J,aa,aa⟩,?_⟩,f⟩,by grind [ak9,gm]⟩
     ·rw[aw aa]
     have:=aT.fP (τ:=.osl a4) (B':=B') a0 N;grind
    |cons=>exact a.elim
   |ref id b=>cases b<;>exact a.elim
   |_=>exact a.elim
  |m q d1=>
   cases av with
   |ref id b=>cases b with
    |nil=>
     obtain⟨k,J,_⟩:=a;cases p with|ref j y=>
     rw[k] at j;cases j;obtain⟨rfl,rfl,rfl⟩:=aX.gq.1 y;exact⟨fp id::e,⟨⟨rt id,bo,(r.tree id _ k).1.fP J⟩,f⟩,by grind [ak9,gm]⟩
    |cons=>exact a.elim
   |_=>exact a.elim
  |o q=>
   cases av with
   |ref id b=>cases b with
    |nil=>
     have k:aq st.h id=Y q:=a;cases p with|ref j y=>
     rw[k] at j;cases j;obtain⟨rfl,rfl,rfl⟩:=aX.gq.1 y;refine⟨fp id::e,⟨⟨rt id,bo,(r.tree id _ k).1.mono (λm d M=>⟨?_,c6.refl w d⟩) (λd _=>c6.refl w d)⟩,f⟩,by grind [ak9,gm]⟩;cases m
     ·exact M
     exact M.imp (λg=>g) (E d)
    |cons=>exact a.elim
   |dd Q=>
    obtain⟨rfl,bl,rfl⟩:=a;cases p;exact⟨[]::e,⟨⟨[.slice bq 0 0],bo,bq,0,bo,.inl ⟨bo,bo,bo,bo⟩⟩,f⟩,by grind [gm]⟩
   |_=>exact a.elim
end
end
end Go.jt
end
