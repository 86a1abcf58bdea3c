/- Layer 10, LibArrays in plain words: an array beside a plain object, and copies of it. Layer 10: an array of texts, joined. Layer 10: an array's builtins: join. The law LibSplit. Layer 10: the law LibSplit, walked. -/
import Derived.Test.YtgdolcoiihagfaaGreatDoorHaD
import Derived.Test.YtgdolcoiihagfaaGreatDoorLiF
import Derived.Test.YtgdolcoiihagfaaGreatDoorLiH
namespace Go.Proofs.YtgdolcoiihagfaaGreatDoor
open Go Go.RowKit
set_option linter.all false
set_option maxRecDepth 100000
namespace Li
theorem ix_len:index lenKey=none:=by decide
theorem ix_key (n:Nat) (h:n≤2147483647):index (keyOf (n:Int))=some n:=by
 rw [index_key _ (by omega) (by omega),if_pos (by omega)]
 rfl
theorem key_ne (n:Nat) (h:n≤2147483647):¬ keyOf (n:Int)=lenKey:=fun e=>by
 have:=ix_key n h
 rw [e,ix_len] at this
 cases this
def obP:Ob:=Ob.fresh 1 (-1) 0 0 0 []
def obA (l:List Va):Ob:=Ob.fresh 2 (-1) 0 0 0 l
def hd (c:Int) (l:List Va) (rest:List Ob):Hd:=⟨c,obP :: obA l :: rest⟩
def R (n:Nat) (l:List Va):Prop:=∀ v∈l,v.right n=true
theorem right_up (v:Va) (n m:Nat) (h:n≤m) (hv:v.right n=true):v.right m=true:=by
 unfold Va.right at hv ⊢
 split
 · rename_i h1;rw [if_pos h1] at hv;exact hv
 · rename_i h1;rw [if_neg h1] at hv
   split
   · rename_i h2;rw [if_pos h2] at hv;exact hv
   · rename_i h2;rw [if_neg h2] at hv
     split
     · rename_i h3;rw [if_pos h3] at hv;exact hv
     · rename_i h3;rw [if_neg h3] at hv
       split
       · rename_i h4;rw [if_pos h4] at hv;exact hv
       · rename_i h4;rw [if_neg h4] at hv
         split
         · rename_i h5;rw [if_pos h5] at hv
           simp only [Bool.and_eq_true,Bool.or_eq_true,decide_eq_true_eq] at hv ⊢
           refine ⟨hv.1,?_⟩
           rcases hv.2 with h | h
           · exact .inl h
           · exact .inr (by omega)
         · rename_i h5;rw [if_neg h5] at hv;exact hv
theorem R.up {n m:Nat} {l:List Va} (h:R n l) (hm:n≤m):R m l:=fun v hv=>right_up v n m hm (h v hv)
theorem la_plain:(Hd.mk 2000 []).plain (-1)=((0,0),⟨1999,[obP]⟩):=by
 unfold Hd.plain
 rw [if_neg (by simp)]
 rfl
theorem la_new (l:List Va) (hl:l.length≤100) (hr:R 1 l):(Hd.mk 1999 [obP]).array l=((1,0),hd (1999 - (1 + l.length)) l []):=by
 unfold Hd.array
 rw [if_pos (show l.all (Va.right (Hd.mk 1999 [obP]).xs.length)=true from List.all_eq_true.2 fun v hv=>hr v hv)]
 unfold Hd.add
 rw [if_neg (by simp only;omega)]
 rfl
theorem la_array (c:Int) (l m:List Va) (rest:List Ob) (hr:R (2 + rest.length) m) (hc:1 + (m.length:Int)≤c):(hd c l rest).array m=((((2 + rest.length:Nat):Int),0),hd (c - (1 + m.length)) l (rest ++ [obA m])):=by
 unfold Hd.array hd
 have hln:(obP :: obA l :: rest).length=2 + rest.length:=by simp;omega
 rw [if_pos (List.all_eq_true.2 fun v hv=>by
   show Va.right (obP :: obA l :: rest).length v=true
   rw [hln]
   exact hr v hv)]
 unfold Hd.add
 rw [if_neg (by simp only;omega)]
 simp [obA,Nat.add_comm]
 omega
theorem la_obj (c:Int) (l:List Va) (rest:List Ob):(hd c l rest).obj 1=some (obA l):=rfl
theorem la_items (c:Int) (l:List Va) (rest:List Ob):(hd c l rest).items 1=some l:=rfl
theorem la_items2 (c:Int) (l m:List Va) (rest:List Ob):(hd c l (obA m :: rest)).items 2=some m:=rfl
theorem la_items3 (c:Int) (l m m':List Va) (rest:List Ob):(hd c l (obA m :: obA m' :: rest)).items 3=some m':=rfl
theorem la_xs (c:Int) (l:List Va) (rest:List Ob):(hd c l rest).xs.length=2 + rest.length:=by simp [hd];omega
theorem la_item (c:Int) (l:List Va) (rest:List Ob) (k:Nat) (v:Va) (hk:k < l.length) (hk2:k≤2147483647) (hr:v.right (2 + rest.length)=true):(hd c l rest).put 1 (keyOf (k:Int)) v=(0,hd c (l.set k v) rest):=by
 unfold Hd.put
 rw [la_obj]
 simp only
 rw [la_xs,if_neg (by rw [hr];decide),if_neg (fun h=>key_ne k hk2 h.2),if_pos (show (obA l).kind=2 from rfl),ix_key k hk2]
 simp only
 rw [if_neg (show ¬ (obA l).items.length≤k from by show ¬ l.length≤k;omega)]
 rfl
theorem la_next (c:Int) (l:List Va) (rest:List Ob) (k:Nat) (v:Va) (hk:k=l.length) (hk2:k≤2147483647) (hr:v.right (2 + rest.length)=true) (hc:1≤c):(hd c l rest).put 1 (keyOf (k:Int)) v=(0,hd (c - 1) (l ++ [v]) rest):=by
 subst hk
 unfold Hd.put
 rw [la_obj]
 simp only
 rw [la_xs,if_neg (by rw [hr];decide),if_neg (fun h=>key_ne _ hk2 h.2),if_pos (show (obA l).kind=2 from rfl),ix_key _ hk2]
 simp only
 rw [if_pos (show (obA l).items.length≤l.length from Nat.le_refl _),if_neg (show ¬ (hd c l rest).left < (l.length:Int) + 1 - (obA l).items.length from by show ¬ c < (l.length:Int) + 1 - l.length;omega)]
 have e1:((obA l).resize (l.length + 1)).item l.length v=obA (l ++ [v]):=by
   unfold Ob.resize Ob.item
   show Ob.mk _ _ _ _ _ _ _ _=Ob.mk _ _ _ _ _ _ _ _
   have:((obA l).items.length)=l.length:=rfl
   rw [this,if_neg (by omega),show l.length + 1 - l.length=1 by omega]
   congr 1
   show (l ++ List.replicate 1 Va.zero).set l.length v=l ++ [v]
   rw [List.set_append_right _ _ (Nat.le_refl _)]
   simp
 rw [e1]
 unfold Hd.turn
 show ((0:Int),Hd.mk (c - ((l.length:Int) + 1 - l.length)) _)=_
 rw [show (l.length:Int) + 1 - l.length=1 by omega]
 rfl
theorem la_cut (c:Int) (l:List Va) (rest:List Ob) (n:Nat) (v:Va) (hv:lenOf v=some n) (hr:v.right (2 + rest.length)=true) (hn:n + 1=l.length) (hc:0≤c):(hd c l rest).put 1 lenKey v=(0,hd (c + 1) (l.take n) rest):=by
 unfold Hd.put
 rw [la_obj]
 simp only
 rw [la_xs,if_neg (by rw [hr];decide),if_pos ⟨rfl,trivial⟩,hv]
 simp only
 unfold Hd.resize
 have e0:(obA l).items=l:=rfl
 rw [e0,if_neg (show ¬ (hd c l rest).left < (n:Int) - l.length from by show ¬ c < _;omega)]
 have e1:(obA l).resize n=obA (l.take n):=by
   unfold Ob.resize
   rw [e0,if_pos (by omega)]
   rfl
 rw [e1]
 unfold Hd.turn
 show ((0:Int),Hd.mk (c - ((n:Int) - l.length)) _)=_
 rw [show c - ((n:Int) - l.length)=c + 1 by omega]
 rfl
def over (l m:List Va) (k:Nat):List Va:=m.take k ++ l.drop k
theorem over_zero (l m:List Va):over l m 0=l:=by simp [over]
theorem over_all (l m:List Va) (h:m.length=l.length):over l m m.length=m:=by
 unfold over
 rw [List.take_length,h,List.drop_length,List.append_nil]
theorem over_len (l m:List Va) (k:Nat) (h:m.length=l.length):(over l m k).length=l.length:=by
 simp [over];omega
theorem over_set (l m:List Va) (k:Nat) (v:Va) (h:m.length=l.length) (hv:m[k]?=some v):(over l m k).set k v=over l m (k + 1):=by
 have hk:k < m.length:=(List.getElem?_eq_some_iff.1 hv).1
 unfold over
 rw [List.set_append_right _ _ (by simp;omega),List.length_take,Nat.min_eq_left (by omega),Nat.sub_self,List.take_succ,hv]
 have:l.drop k=l[k]'(by omega) :: l.drop (k + 1):=List.drop_eq_getElem_cons (by omega)
 rw [this,List.set_cons_zero]
 simp
end Li
namespace Li
end Li
namespace Li
theorem two_own (w:World) (cb:Nat):∃ W,W=(w.alloc (.cells #[.pointer (some ⟨cb,0,none⟩)] 70)).alloc (.cells #[.int .i64 0,.float .f64 0,.string ⟨#[]⟩,.int .i64 0] 25)∧Pur w W∧W.heap.size=w.heap.size + 1 + 1 ∧
   W.heap[w.heap.size]?=some (.cells #[.pointer (some ⟨cb,0,none⟩)] 70 (0,0))∧W.heap[w.heap.size + 1]?=some (.cells Va.zero.cells.toArray 25 (0,0)):=by
 obtain ⟨Wa,hWa⟩:∃ Wa,Wa=w.alloc (.cells #[.pointer (some ⟨cb,0,none⟩)] 70):=⟨_,rfl⟩
 have sa:Wa.heap.size=w.heap.size + 1:=by rw [hWa];exact Array.size_push _
 refine ⟨_,rfl,((Pur.refl w).alloc _).alloc _,?_,bk_alloc (bk_new w _) _,?_⟩
 · rw [← hWa,← sa];exact Array.size_push _
 · rw [← hWa,← sa];exact bk_new Wa _
end Li
namespace Li
end Li
end Go.Proofs.YtgdolcoiihagfaaGreatDoor
